/- Joined texts of this claim: D6 D7 D8 D9 D10 G2 D11 G3 M4 D12 D13 D14 D15 T1 U2 T2 T3 T4 U3 T5. -/
import Derived.Test.YtkcahmbcpkjpiaaGreatDoorKD
import Derived.Test.YtkcahmbcpkjpiaaGreatDoorKC
set_option linter.unusedSimpArgs false
set_option linter.unusedVariables false
set_option linter.unusedSectionVars false
set_option maxHeartbeats 8000000
set_option maxRecDepth 100000
namespace Go.Proofs.YtkcahmbcpkjpiaaGreatDoor
open Go.RowKit
def zh1 (l:List Id) (y:Id):Bool:=l.any fun x=>decide (y=x)
theorem zdu {l:List Id} {y:Id}:zh1 l y=true↔y ∈ l:=by simp [zh1]
theorem zh2 (l:List Id) (y:Id) (hl:l.length≤9223372036854775806):zg Tryz.prog 245 [.list (l.map cId),.agg (cId y)] [] (.int .i64 (zaH (fun x=>decide (y=x)) l 0)) []:=by
 refine zg.of_walk Tryz.func245 Tryz.ntmps245 zv6 zv7 (by simp) fun x hx=>?_
 simp only [go_sem,zxE,zxF,cId]
 refine zr [0,3,7,8] 1 (fun n st=>∃ k:Nat,k + n=l.length∧zaH (fun x=>decide (y=x)) (l.drop k) k=zaH (fun x=>decide (y=x)) l 0 ∧
  st=⟨mkE .top [(0,.list (l.map cId)),(3,.ptr 0 0),(7,.int .i64 l.length),(8,.int .i64 k)],[.box (cId y)]⟩) l.length (by simp [hx]) (by simp) ?_ ?_
 ·
  refine ⟨0,by omega,by simp,?_⟩
  simp [zi,go_sem,zc,zd,pos,List.range_succ,cId]
 ·
  rintro n st ⟨k,hk,hi,rfl⟩
  by_cases hlt:k < l.length
  ·
   have hg:l[k]? = some (nth l k):=zk _ _ hlt
   have wk:=zD (k:=k) (by omega)
   rw [za9 _ l k hlt] at hi
   by_cases he:y=nth l k
   ·
    simp only [go_sem,hlt,hg,cId,zd0,he]
    refine zb hx ?_
    simp [he] at hi
    simp [go_sem,zxE,zxF,hi,he]
   ·
    simp only [go_sem,hlt,hg,cId,zd0,he,wk]
    refine ⟨by simp,n - 1,by omega,k + 1,by omega,by simpa [he] using hi,?_⟩
    simp [zi,go_sem,zc,zd,pos,List.range_succ,cId]
  ·
   have:l.drop k = []:=List.drop_eq_nil_of_le (by omega)
   rw [this] at hi
   simp only [go_sem,hlt]
   refine zb hx ?_
   simp [go_sem,zxE,zxF,← hi,zaH]
theorem zgc (l:List Id) (y:Id) (hl:l.length≤9223372036854775806):zg Tryz.prog 219 [.list (l.map cId),.agg (cId y)] [] (.bool (zh1 l y)) []:=by
 refine zg.of_walk Tryz.func219 Tryz.ntmps219 zvW zvX (by simp) fun x hx=>?_
 simp only [go_sem,zzM,zzN,cId]
 refine za (.pureE (zh2 l y hl) (by simp [go_sem,cId])) ?_
 simp only [go_sem]
 refine zb hx ?_
 simp [go_sem,zzM,zzN,zh1,zcb]
theorem zgd (l : List Entry) (ps : List (List Id)) (y z : Id) (hl : l.length ≤ 9223372036854775806) (h0 : 0 ≤ zz l z) (h1 : zz l z < ps.length) (h2 : (ZD ps l z).length ≤ 9223372036854775806) :
    zg Tryz.prog 176 [zF l ps,.agg (cId y),.agg (cId z)] [] (.bool (zh1 (ZD ps l z) y)) []:=by
  refine zg.of_walk Tryz.func176 Tryz.ntmps176 zvm zvn (by simp) fun x hx=>?_
  simp only [go_sem,zzu,zzv,cId,zF]
  refine za (.pureE (zqI l ps z hl h0 h1) (by simp [go_sem,cId,zF])) ?_
  simp only [go_sem]
  refine za (.pureE (zgc (ZD ps l z) y h2) (by simp [go_sem,cId])) ?_
  simp only [go_sem]
  refine zb hx ?_
  simp [go_sem,zzu,zzv]
def zm5 (c:Int) (i:Nat):Bool:=decide (c / 2 ^ i % 2=1)
def zak (a b:Int):Bool:=(zm5 a 0 && zm5 b 0) || (zm5 a 1 && zm5 b 1) || (zm5 a 2 && zm5 b 2)
theorem zoc {a b:Int} (ha:ZX a 1 7=true) (hb:ZX b 1 7=true):(!decide (IntKind.i64.wrap ((BitVec.ofInt IntKind.i64.bits a &&& BitVec.ofInt IntKind.i64.bits b).toNat:Int)=0))=zak a b:=by
 have key:∀ a b:Fin 8,(!decide (IntKind.i64.wrap ((BitVec.ofInt IntKind.i64.bits (a.val:Int) &&& BitVec.ofInt IntKind.i64.bits (b.val:Int)).toNat:Int)=0))=zak (a.val:Int) (b.val:Int):=by decide +kernel
 rw [zX] at ha hb
 have:=key ⟨a.toNat,by omega⟩ ⟨b.toNat,by omega⟩
 simp only [Int.toNat_of_nonneg (show 0≤a by omega),Int.toNat_of_nonneg (show 0≤b by omega)] at this
 exact this
theorem zqK {a b:Int} (ha:ZX a 1 7=true) (hb:ZX b 1 7=true):(!decide (IntKind.i64.wrap ((@HAnd.hAnd (BitVec 64) (BitVec 64) (BitVec 64) (@instHAndOfAndOp (BitVec IntKind.i64.bits) _) (BitVec.ofInt 64 a) (BitVec.ofInt 64 b)).toNat:Int)=0))=zak a b:=zoc ha hb
def Zj (l:List Entry) (c:Int):List Entry:=l.filter fun e=>zak e.c c
theorem zmq {l:List Entry} {c:Int} {k:Nat} (h:k < l.length):Zj (l.take (k + 1)) c=Zj (l.take k) c ++ if zak (nth l k).c c then [nth l k] else []:=by
 unfold Zj
 rw [List.take_succ_eq_append_getElem h,List.filter_append,zy _ _ h]
 simp only [List.filter_cons,List.filter_nil]
theorem zc8 (l:List Entry) (c:Int):(Zj l c).length≤l.length:=List.length_filter_le _ _
theorem LogOk.col {l:List Entry} (h:LogOk l) {k:Nat} (hk:k < l.length):ZX (nth l k).c 1 7=true:=(Zd (h.chk k hk)).2.1
theorem zeZ (l:List Entry) (c:Int) (h:LogOk l) (hc:ZX c 1 7=true):zg Tryz.prog 174 [.list (l.map cE),.int .i64 c] [] (.list ((Zj l c).map cE)) []:=by
 have hm:=h.len
 refine zg.of_walk Tryz.func174 Tryz.ntmps174 zvi zvj (by simp) fun x hx=>?_
 simp only [go_sem,zzq,zzr]
 refine zaa (ZQ 5 0 32 5 false false rfl (by omega)) ?_
 refine zr [1,5,8,9,10] 1 (fun n st=>∃ k v:Nat,k + n=l.length ∧
  st=⟨mkE .top [(1,.int .i64 c),(5,.arr 0 v),(8,.list (l.map cE)),(9,.int .i64 l.length),(10,.int .i64 k)],[.arr v false false 32 5 ((Zj (l.take k) c).map cE)]⟩) l.length (by simp [hx]) (by simp [St.put]) ?_ ?_
 ·
  refine ⟨0,0,by omega,?_⟩
  simp [zi,go_sem,zc,zd,pos,List.range_succ,Zj]
 ·
  rintro n st ⟨k,v,hk,rfl⟩
  by_cases hlt:k < l.length
  ·
   have hg:l[k]? = some (nth l k):=zk _ _ hlt
   have wk:=zD (k:=k) (by omega)
   have hw:=zmq (c:=c) hlt
   have hle:=zc8 (l.take k) c
   rw [List.length_take] at hle
   have ha:=zqK (h.col hlt) hc
   cases hb:zak (nth l k).c c
   ·
    rw [hb] at ha hw
    simp only [go_sem,hlt,hg,cE,ha,wk]
    refine ⟨by simp,n - 1,by omega,k + 1,v,by omega,?_⟩
    simp [zi,go_sem,zc,zd,pos,List.range_succ,hw]
   ·
    rw [hb] at ha hw
    simp only [go_sem,hlt,hg,cE,ha,wk]
    rw [zB rfl rfl (by simp) (by simp; omega)]
    simp only [go_sem,wk]
    refine ⟨by simp,n - 1,by omega,k + 1,v + 1,by omega,?_⟩
    simp [zi,go_sem,zc,zd,pos,List.range_succ,hw,cE]
  ·
   have:l.take k=l:=List.take_of_length_le (by omega)
   simp only [go_sem,hlt,this]
   refine zb hx ?_
   simp [go_sem,zzq,zzr,zu,pos]
theorem zsS (c d : List PV) (h : c.map (ze false (pos [0, 1]) (zu false [.box c, .box d])) = c) (h2 : c.map (ze false (pos [0, 1]) (zu true [.box c, .box d])) = c) (h3 : c.map (ze false (ZA 2 [0, 1]) zlZ) = c)
    (g:d.map (ze false (pos [0,1]) (zu false [.box c,.box d]))=d) (g2:d.map (ze false (pos [0,1]) (zu true [.box c,.box d]))=d) (g3:d.map (ze false (ZA 2 [0,1]) zlZ)=d) :
    ClosedH [.box c,.box d] [.ptr 0 0,.ptr 1 0]:=by
  refine ⟨?_,?_,?_,?_,?_⟩
  · simp [zf,pos,List.range_succ]
  · simp [ren,ze,zf,pos,List.range_succ]
  · simp only [List.length_cons,List.length_nil,List.range_succ,List.range_zero,List.nil_append,List.cons_append,zc,List.map_cons,List.map_nil,List.getElem?_cons_zero,List.getElem?_cons_succ,Option.getD_some,zd,h,g]
  · simp only [List.length_cons,List.length_nil,List.range_succ,List.range_zero,List.nil_append,List.cons_append,Zk,List.map_cons,List.map_nil,zH,zK,Nat.zero_add,Nat.sub_self,Nat.add_zero]
    simp [pos,zd,h3,g3]
  · simp only [List.length_cons,List.length_nil,List.range_succ,List.range_zero,List.nil_append,List.cons_append,zc,List.map_cons,List.map_nil,List.getElem?_cons_zero,List.getElem?_cons_succ,Option.getD_some,zd,h2,g2]
theorem zod (l:List Entry) (ps:List (List Id)) (e:Entry):ClosedH [.box [zF l ps],.box (cE e)] [.ptr 0 0,.ptr 1 0]:=by
 refine zsS _ _ ?_ ?_ ?_ ?_ ?_ ?_ <;> simp [zF,cE,ze,zf]
theorem zhp (l : List Entry) (ps : List (List Id)) (e f : Entry) (hl : l.length ≤ 9223372036854775806) (h0 : 0 ≤ zz l f.id) (h1 : zz l f.id < ps.length) (h2 : (ZD ps l f.id).length ≤ 9223372036854775806) :
    zg Tryz.prog 175 [.agg (cE f),.ptr 0 0,.ptr 1 0] [.box [zF l ps],.box (cE e)] (.bool (zh1 (ZD ps l f.id) e.id)) [.box [zF l ps],.box (cE e)]:=by
  refine zg.of_walk Tryz.func175 Tryz.ntmps175 zvk zvl (by simp) fun x hx=>?_
  simp only [go_sem,zzs,zzt,cE]
  refine za (.pureE (zgd l ps e.id f.id hl h0 h1 h2) (by simp [go_sem,cId,zF])) ?_
  simp only [go_sem]
  refine zG [] (by simp) (by simp) (by simp [hx]) ?_ ?_
  · simp [go_sem,zzs,zzt,hx]
  · simp [zc,zd,hx,go_sem,pos,List.range_succ,cE,zF]
def zbb (l:List Entry) (c:Int) (e:Entry):Bool:=(Zj l c).any fun f=>zh1 (ZD (Z0 l) l f.id) e.id
def Za (l:List Entry) (c:Int):List Id:=((Zj l c).filter fun e => !zbb l c e).map (·.id)
theorem zge {l:List Entry} {c:Int} {s:List Entry} {k:Nat} (h:k < s.length):((s.take (k + 1)).filter fun e => !zbb l c e).map (·.id)=((s.take k).filter fun e => !zbb l c e).map (·.id) ++ if zbb l c (nth s k) then [] else [(nth s k).id]:=by
 rw [List.take_succ_eq_append_getElem h,List.filter_append,zy _ _ h,List.map_append]
 simp only [List.filter_cons,List.filter_nil]
 cases zbb l c s[k] <;> rfl
theorem zjq {l:List Entry} {c:Int} {e:Entry} (h:e ∈ Zj l c):∃ k,k < l.length∧nth l k=e:=by
 obtain ⟨k,hk,rfl⟩:=List.getElem_of_mem (List.mem_filter.1 h).1
 exact ⟨k,hk,zy _ _ hk⟩
theorem zbS {l:List Entry} (x:Id):ZD (Z0 l) l x=ZE l (zz l x).toNat:=rfl
theorem zjr (l:List Entry) (c:Int) (h:LogOk l) (hc:ZX c 1 7=true):zg Tryz.prog 104 [.list (l.map cE),.int .i64 c] [] (.list ((Zv (Za l c)).map cId)) []:=by
 have hm:=h.len
 have hle:=zc8 l c
 refine zg.of_walk Tryz.func104 Tryz.ntmps104 zrw zrx (by simp) fun x hx=>?_
 simp only [go_sem,zug,zuh]
 refine za (.pureE (zc7 l h) (by simp [go_sem])) ?_
 simp only [go_sem,zF]
 refine za (.pureE (zeZ l c h hc) (by simp [go_sem])) ?_
 simp only [go_sem]
 refine zaa (ZQ 7 0 29 2 true false rfl (by omega)) ?_
 refine zr [5,6,7,15,16,17] 2 (fun n st=>∃ k v:Nat,k + n=(Zj l c).length ∧
  st=⟨mkE .top [(5,.ptr 0 0),(6,.list ((Zj l c).map cE)),(7,.arr 1 v),(15,.list ((Zj l c).map cE)),(16,.int .i64 (Zj l c).length),(17,.int .i64 k)],
   [.box [zF l (Z0 l)],.arr v true false 29 2 ((((Zj l c).take k).filter fun e => !zbb l c e).map (·.id) |>.map cId)]⟩) (Zj l c).length (by simp [hx]) (by simp [St.put]) ?_ ?_
 ·
  refine ⟨0,0,by omega,?_⟩
  simp [zi,go_sem,zc,zd,pos,List.range_succ,zF]
 ·
  rintro n st ⟨k,v,hk,rfl⟩
  by_cases hlt:k < (Zj l c).length
  ·
   have hg:(Zj l c)[k]? = some (nth (Zj l c) k):=zk _ _ hlt
   have wk:=zD (k:=k) (by omega)
   have hw:=zge (l:=l) (c:=c) hlt
   have hle2:((((Zj l c).take k).filter fun e => !zbb l c e).map (·.id)).length≤40:=by
    rw [List.length_map]
    refine Nat.le_trans (List.length_filter_le _ _) ?_
    rw [List.length_take]; omega
   simp only [go_sem,hlt,hg,cE]
   have hcf:=zc5 (Zj l c) 175 [.ptr 0 0,.ptr 1 0] [.box [zF l (Z0 l)],.box (cE (nth (Zj l c) k))] (fun f=>zh1 (ZD (Z0 l) l f.id) (nth (Zj l c) k).id) (by kernel_rfl) (by omega) (zod _ _ _) (fun f hf=>by
    obtain ⟨j,hj,rfl⟩:=zjq hf
    have e:=h.find hj
    exact zhp l (Z0 l) _ _ (by omega) (by omega) (by simp [Z0]; omega) (by rw [zbS,e,Int.toNat_natCast]; have:=zbF h hj; omega))
   refine za (.heapE [0,2] (r' := .bool (zbb l c (nth (Zj l c) k))) (H' := [.box [zF l (Z0 l)],.arr v true false 29 2 ((((Zj l c).take k).filter fun e => !zbb l c e).map (·.id) |>.map cId),.box (cE (nth (Zj l c) k))]) hcf
    (by simp) (by simp) (by simp [go_sem,pos]) (by simp [zc,zd,go_sem,pos,cE,zF]) rfl (by simp [Zk,zH,zK,zd,pos,go_sem,List.range_succ,ZA,Zb,cE,zF])) ?_
   cases hu:zbb l c (nth (Zj l c) k)
   ·
    rw [hu] at hw
    simp only [go_sem,cE]
    rw [zB rfl rfl (by simp) (by simp at hle2 ⊢; omega)]
    simp only [go_sem,wk]
    refine ⟨by simp,n - 1,by omega,k + 1,v + 1,by omega,?_⟩
    rw [hw]
    simp [zi,go_sem,zc,zd,pos,List.range_succ,cId,zF]
   ·
    rw [hu] at hw
    simp only [go_sem,wk]
    refine ⟨by simp,n - 1,by omega,k + 1,v,by omega,?_⟩
    rw [hw]
    simp [zi,go_sem,zc,zd,pos,List.range_succ,cId,zF]
  ·
   have:(Zj l c).take k=Zj l c:=List.take_of_length_le (by omega)
   have hle2:(Za l c).length≤40:=by
    unfold Za
    rw [List.length_map]
    refine Nat.le_trans (List.length_filter_le _ _) ?_
    omega
   simp only [go_sem,hlt,this]
   have hso:=zcD (Za l c) v 29 (by omega)
   refine za (.heapE [1] (r' := .tup []) (H' := [.box [zF l (Z0 l)],.arr v true false 29 2 ((Zv (Za l c)).map cId)]) hso
    (by simp) (by simp) (by simp [go_sem,pos]) (by simp [zc,zd,go_sem,pos,Za]) rfl (by simp [Zk,zH,zK,zd,pos,go_sem,List.range_succ,ZA,Zb,zF])) ?_
   simp only [go_sem]
   refine zb hx ?_
   simp [go_sem,zug,zuh,zu,pos]
def zgf (l:List Entry) (y:Id):Int:=if z8 l≠0 then z8 l else if zz l y < 0 then 5 else 0
def zkF (l:List Entry) (y:Id):List Id:=if zgf l y=0 then ZE l (zz l y).toNat else []
/-! the same in the law text's words -/
theorem zhq (c:Int) (i:Nat) (hi:i < 3) (h0:0≤c) (h7:c≤7):zg Tryz.prog 166 [.int .i64 c,.int .i64 i] [] (.bool (zm5 c i)) []:=by
 obtain ⟨m,rfl⟩:∃ m:Fin 8,c=(m.val:Int):=⟨⟨c.toNat,by omega⟩,by simp; omega⟩
 have key:∀ (m:Fin 8) (d:Fin 3),decide (((IntKind.i64.wrap ((m.val:Int).tdiv (2 ^ d.val))).tmod 2)=1)=zm5 (m.val:Int) d.val:=by decide +kernel
 refine zg.of_walk Tryz.func166 Tryz.ntmps166 zvc zvd (by simp) fun x hx=>?_
 rcases i with _ | _ | _ | i
 ·
  have k0:=key m 0
  simp only [Fin.isValue,Fin.val_zero,Int.pow_zero] at k0
  simp only [go_sem,zsC,zsD,Int.ofNat_zero,Int.toNat_zero,Int.reduceLT,Int.reduceLE,Int.reduceNe,Int.cast_ofNat_Int,Int.reduceToNat,ne_eq,k0]
  refine zb hx ?_
  simp [go_sem,zsC,zsD,k0]
 ·
  have k0:=key m 1
  simp only [Fin.isValue,Fin.val_one,Int.pow_succ,Int.pow_zero,Int.one_mul] at k0
  simp only [go_sem,zsC,zsD,Int.ofNat_zero,Int.toNat_zero,Int.reduceLT,Int.reduceLE,Int.reduceNe,Int.cast_ofNat_Int,Int.reduceToNat,ne_eq,Int.natCast_one,Int.reduceAdd,Int.natCast_add,k0]
  refine zb hx ?_
  simp [go_sem,zsC,zsD,k0]
 ·
  have k0:=key m 2
  simp only [Fin.isValue,Fin.val_two,Int.pow_succ,Int.pow_zero,Int.one_mul,Int.reduceMul] at k0
  simp only [go_sem,zsC,zsD,Int.ofNat_zero,Int.toNat_zero,Int.reduceLT,Int.reduceLE,Int.reduceNe,Int.cast_ofNat_Int,Int.reduceToNat,ne_eq,Int.natCast_one,Int.reduceAdd,Int.natCast_add,k0]
  refine zb hx ?_
  simp [go_sem,zsC,zsD,k0]
 ·
  omega
theorem zgg (a b:Int) (ha:0≤a∧a≤7) (hb:0≤b∧b≤7):zg Tryz.prog 97 [.int .i64 a,.int .i64 b] [] (.bool (zak a b)) []:=by
 refine zg.of_walk Tryz.func97 Tryz.ntmps97 zyU zyV (by simp) fun x hx=>?_
 simp only [go_sem,L97,R97]
 refine zr [0,1,5] 0 (fun n st=>∃ k:Nat,k + n=3∧(∀ j,j < k→(zm5 a j && zm5 b j)=false) ∧
  st=⟨mkE .top [(0,.int .i64 a),(1,.int .i64 b),(5,.int .i64 k)],[]⟩) 3 (by simp [hx]) (by simp) ?_ ?_
 ·
  refine ⟨0,by omega,by simp,?_⟩
  simp [zi,go_sem,zc,zd,pos]
 ·
  rintro n st ⟨k,hk,hi,rfl⟩
  by_cases hlt:k < 3
  ·
   have d3:decide ((k:Int) < 3)=true:=by simp; omega
   have wk:=zD (k:=k) (by omega)
   simp only [go_sem,d3]
   refine za (.pureE (zhq a k hlt ha.1 ha.2) (by simp [go_sem])) ?_
   cases h1:zm5 a k
   ·
    simp only [go_sem,wk]
    refine ⟨by simp,n - 1,by omega,k + 1,by omega,fun j hj=>?_,?_⟩
    ·
     by_cases e:j=k
     ·
      subst e; simp [h1]
     ·
      exact hi j (by omega)
    ·
     simp [zi,go_sem,zc,zd,pos]
   ·
    simp only [go_sem]
    refine za (.pureE (zhq b k hlt hb.1 hb.2) (by simp [go_sem])) ?_
    cases h2:zm5 b k
    ·
     simp only [go_sem,wk]
     refine ⟨by simp,n - 1,by omega,k + 1,by omega,fun j hj=>?_,?_⟩
     ·
      by_cases e:j=k
      ·
       subst e; simp [h2]
      ·
       exact hi j (by omega)
     ·
      simp [zi,go_sem,zc,zd,pos]
    ·
     simp only [go_sem]
     refine zb hx ?_
     have:zak a b=true:=by
      rcases k with _ | _ | _ | k
      ·
       simp [zak,h1,h2]
      ·
       simp [zak,h1,h2]
      ·
       simp [zak,h1,h2]
      ·
       omega
     simp [go_sem,L97,R97,this]
  ·
   have d3:decide ((k:Int) < 3)=false:=by simp; omega
   simp only [go_sem,d3]
   refine zb hx ?_
   have:zak a b=false:=by simp only [zak,hi 0 (by omega),hi 1 (by omega),hi 2 (by omega)]; rfl
   simp [go_sem,L97,R97,this]
def rB (b:Bool):List PV := [.bool b]
def zbn (l:List Entry) (ls:List Id) (M:List Bool):List Bool:=ls.foldl (fun M x=>M.set (zz l x).toNat true) M
def zh3 (l:List Entry) (a i:Nat) (M:List Bool):List Bool:=if i=a∨nth M i=true then zbn l (nth l i).ls M else M
def zcm (l:List Entry) (a:Nat):Nat→List Bool
 | 0=>List.replicate l.length false
 | s + 1=>zh3 l a (a - s) (zcm l a s)
def zax (l:List Entry) (a:Nat):List Bool:=zcm l a (a + 1)
theorem zcc (l:List Entry):∀ (ls:List Id) (M:List Bool),(zbn l ls M).length=M.length
 | [],_=>rfl
 | x :: ls,M=>by
  show (zbn l ls (M.set _ true)).length=_
  rw [zcc l ls]; simp
theorem zhr {l:List Entry} {ls:List Id} {M:List Bool} {j:Nat} (h:j < ls.length):zbn l (ls.take (j + 1)) M=(zbn l (ls.take j) M).set (zz l (nth ls j)).toNat true:=by
 unfold zbn
 rw [List.take_succ_eq_append_getElem h,List.foldl_append,zy _ _ h]
 rfl
theorem zbc (l:List Entry) (a:Nat):∀ s,(zcm l a s).length=l.length
 | 0=>by simp [zcm]
 | s + 1=>by
  simp only [zcm,zh3]
  split
  ·
   rw [zcc,zbc l a s]
  ·
   exact zbc l a s
theorem zh4 (l:List Entry) (a:Nat) (h:LogOk l) (ha:a < l.length):zg Tryz.prog 167 [.list (l.map cE),.int .i64 a] [] (.list ((zax l a).map rB)) []:=by
 have hm:=h.len
 refine zg.of_walk Tryz.func167 Tryz.ntmps167 zve zvf (by simp) fun x hx=>?_
 have hb:(l.length:Int) * ((1:Nat):Int)≤140737488355328:=by omega
 have hn0:(0:Int)≤(l.length:Int):=by omega
 simp only [go_sem,zzm,zzn,hb,hn0]
 refine zr [0,1,5,6] 1 (fun n st=>∃ m:Nat,m=n∧m≤a + 1 ∧
  st=⟨mkE .top [(0,.list (l.map cE)),(1,.int .i64 a),(5,.arr 0 0),(6,.int .i64 ((m:Int) - 1))],[.arr 0 true false 4 1 ((zcm l a (a + 1 - m)).map rB)]⟩) (a + 1) (by simp [hx]) (by simp) ?_ ?_
 ·
  refine ⟨a + 1,rfl,by omega,?_⟩
  simp [zi,go_sem,zc,zd,pos,List.range_succ,zcm,rB]
 ·
  rintro n st ⟨m,rfl,hma,rfl⟩
  have hml:=zbc l a (a + 1 - m)
  rcases m with _ | i
  ·
   have d0:decide ((0:Int)≤((0:Nat):Int) - 1)=false:=by simp
   simp only [go_sem,d0]
   refine zb hx ?_
   simp [go_sem,zzm,zzn,zu,pos,zax]
  ·
   have e1:(((i + 1:Nat):Int) - 1)=(i:Int):=by omega
   have hil:i < l.length:=by omega
   have hg:l[i]? = some (nth l i):=zk _ _ hil
   have hls:=h.links hil
   have hM:(zcm l a (a + 1 - (i + 1)))[i]? = some (nth (zcm l a (a + 1 - (i + 1))) i):=zk _ _ (by omega)
   have wi:IntKind.i64.wrap ((i:Int) - 1)=(i:Int) - 1:=by rw [IntWalk.i64_in _ (by omega)]
   have hstep:zcm l a (a + 1 - i)=zh3 l a i (zcm l a (a + 1 - (i + 1))):=by
    rw [show a + 1 - i=(a + 1 - (i + 1)) + 1 by omega]
    simp only [zcm]
    rw [show a - (a + 1 - (i + 1))=i by omega]
   generalize hMd:zcm l a (a + 1 - (i + 1))=M at *
   by_cases hia:i=a
   ·
    have da:decide ((i:Int)=(a:Int))=true:=by simp; omega
    simp only [go_sem,e1,da]
    refine zr [0,1,5,6,7] 1 (fun n st=>∃ j:Nat,j + n=(nth l i).ls.length ∧
     st=⟨mkE .top [(0,.list (l.map cE)),(1,.int .i64 a),(5,.arr 0 0),(6,.int .i64 i),(7,.int .i64 j)],[.arr 0 true false 4 1 ((zbn l ((nth l i).ls.take j) M).map rB)]⟩) (nth l i).ls.length (by simp [hx]) (by simp) ?_ ?_
    ·
     refine ⟨0,by omega,?_⟩
     simp [zi,go_sem,zc,zd,pos,List.range_succ,zbn,rB]
    ·
     rintro n2 st ⟨j,hj,rfl⟩
     by_cases hlj:j < (nth l i).ls.length
     ·
      have hgj:(nth l i).ls[j]? = some (nth (nth l i).ls j):=zk _ _ hlj
      have wj:=zD (k:=j) (by omega)
      obtain ⟨f1,f2⟩:=h.link_lt hil (x:=nth (nth l i).ls j) (by rw [zy _ _ hlj]; exact List.getElem_mem hlj)
      have hL:(zbn l ((nth l i).ls.take j) M).length=l.length:=by rw [zcc]; exact hml
      have f3:zz l (nth (nth l i).ls j) < ((zbn l ((nth l i).ls.take j) M).length:Nat):=by omega
      have hM2:(zbn l ((nth l i).ls.take j) M)[(zz l (nth (nth l i).ls j)).toNat]? = some (nth (zbn l ((nth l i).ls.take j) M) (zz l (nth (nth l i).ls j)).toNat):=zk _ _ (by omega)
      simp only [go_sem,hil,hg,cE,hlj,hgj,cId]
      refine za (.pureE (Zf l (nth (nth l i).ls j) (by omega)) (by simp [go_sem,cId])) ?_
      simp only [go_sem,f1,f3,hM2,rB,wj,Nat.le_refl,frz,or_true,false_or]
      refine ⟨by simp,n2 - 1,by omega,j + 1,by omega,?_⟩
      simp [zi,go_sem,zc,zd,pos,List.range_succ,zhr hlj,rB,List.map_set]
     ·
      have htl:(nth l i).ls.take j=(nth l i).ls:=List.take_of_length_le (by omega)
      simp only [go_sem,hil,hg,cE,hlj,htl,wi]
      refine ⟨by simp,i,by omega,i,rfl,by omega,?_⟩
      rw [hstep,zh3,if_pos (.inl hia)]
      simp [zi,go_sem,zc,zd,pos,List.range_succ,rB]
   ·
    have da:decide ((i:Int)=(a:Int))=false:=by simp; omega
    have hil':i < M.length:=by omega
    simp only [go_sem,e1,da,hil,hM,hml,rB,Nat.le_refl]
    cases hMi:nth M i
    ·
     simp only [go_sem,wi]
     refine ⟨by simp,i,by omega,i,rfl,by omega,?_⟩
     rw [hstep,zh3,if_neg (by simp [hia,hMi])]
     simp [zi,go_sem,zc,zd,pos,List.range_succ,rB]
    ·
     simp only [go_sem]
     refine zr [0,1,5,6,7] 1 (fun n st=>∃ j:Nat,j + n=(nth l i).ls.length ∧
      st=⟨mkE .top [(0,.list (l.map cE)),(1,.int .i64 a),(5,.arr 0 0),(6,.int .i64 i),(7,.int .i64 j)],[.arr 0 true false 4 1 ((zbn l ((nth l i).ls.take j) M).map rB)]⟩) (nth l i).ls.length (by simp [hx]) (by simp) ?_ ?_
     ·
      refine ⟨0,by omega,?_⟩
      simp [zi,go_sem,zc,zd,pos,List.range_succ,zbn,rB]
     ·
      rintro n2 st ⟨j,hj,rfl⟩
      by_cases hlj:j < (nth l i).ls.length
      ·
       have hgj:(nth l i).ls[j]? = some (nth (nth l i).ls j):=zk _ _ hlj
       have wj:=zD (k:=j) (by omega)
       obtain ⟨f1,f2⟩:=h.link_lt hil (x:=nth (nth l i).ls j) (by rw [zy _ _ hlj]; exact List.getElem_mem hlj)
       have hL:(zbn l ((nth l i).ls.take j) M).length=l.length:=by rw [zcc]; exact hml
       have f3:zz l (nth (nth l i).ls j) < ((zbn l ((nth l i).ls.take j) M).length:Nat):=by omega
       have hM2:(zbn l ((nth l i).ls.take j) M)[(zz l (nth (nth l i).ls j)).toNat]? = some (nth (zbn l ((nth l i).ls.take j) M) (zz l (nth (nth l i).ls j)).toNat):=zk _ _ (by omega)
       simp only [go_sem,hil,hg,cE,hlj,hgj,cId]
       refine za (.pureE (Zf l (nth (nth l i).ls j) (by omega)) (by simp [go_sem,cId])) ?_
       simp only [go_sem,f1,f3,hM2,rB,wj,Nat.le_refl,frz,or_true,false_or]
       refine ⟨by simp,n2 - 1,by omega,j + 1,by omega,?_⟩
       simp [zi,go_sem,zc,zd,pos,List.range_succ,zhr hlj,rB,List.map_set]
      ·
       have htl:(nth l i).ls.take j=(nth l i).ls:=List.take_of_length_le (by omega)
       simp only [go_sem,hil,hg,cE,hlj,htl,wi]
       refine ⟨by simp,i,by omega,i,rfl,by omega,?_⟩
       rw [hstep,zh3,if_pos (.inr hMi)]
       simp [zi,go_sem,zc,zd,pos,List.range_succ,rB]
def zmr (r n:Nat):List Id:=(List.range n).map fun m=>⟨r,((m + 1:Nat):Int)⟩
def ze0 (r n:Nat):List Id:=(List.range r).flatMap (fun q=>zmr q 20) ++ zmr r n
theorem zoe (r n:Nat):ze0 r (n + 1)=ze0 r n ++ [⟨r,((n + 1:Nat):Int)⟩]:=by
 simp only [ze0,zmr,List.range_succ,List.map_append,List.map_cons,List.map_nil,List.append_assoc]
theorem zof (r:Nat):ze0 (r + 1) 0=ze0 r 20:=by
 simp only [ze0,zmr,List.range_succ,List.flatMap_append,List.flatMap_cons,List.flatMap_nil,List.range_zero,List.map_nil,List.append_nil]
theorem zjs (r n:Nat):(ze0 r n).length=20 * r + n:=by
 induction r generalizing n with
 | zero=>simp [ze0,zmr]
 | succ r ih =>
  induction n with
  | zero=>rw [zof,ih]; omega
  | succ n ihn=>rw [zoe,List.length_append,ihn]; simp; omega
def zfg:List Id:=ze0 2 0
def zh5 (l:List Entry) (M:List Bool) (x:Id):Bool:=decide (0≤zz l x) && nth M (zz l x).toNat
def ze1 (l:List Entry) (M:List Bool):List Id:=zfg.filter (zh5 l M)
theorem zjt (l:List Entry) (M:List Bool) (hm:l.length≤40) (hM:M.length=l.length):zg Tryz.prog 209 [.list (l.map cE),.list (M.map rB)] [] (.list ((ze1 l M).map cId)) []:=by
 refine zg.of_walk Tryz.func209 Tryz.ntmps209 zvM zvN (by simp) fun x hx=>?_
 simp only [go_sem,zzI,zzJ]
 refine zaa (ZQ 5 0 29 2 false false rfl (by omega)) ?_
 refine zr [0,1,5,6] 1 (fun n st=>∃ r v:Nat,r + n=2 ∧
  st=⟨mkE .top [(0,.list (l.map cE)),(1,.list (M.map rB)),(5,.arr 0 v),(6,.int .i64 r)],[.arr v false false 29 2 (((ze0 r 0).filter (zh5 l M)).map cId)]⟩) 2 (by simp [hx]) (by simp [St.put]) ?_ ?_
 ·
  refine ⟨0,0,by omega,?_⟩
  simp [zi,go_sem,zc,zd,pos,List.range_succ,ze0,zmr]
 ·
  rintro n st ⟨r,v,hr,rfl⟩
  by_cases hlt:r < 2
  ·
   have d2:decide ((r:Int) < 2)=true:=by simp; omega
   have wr:=zD (k:=r) (by omega)
   simp only [go_sem,d2]
   refine zr [0,1,5,6,7] 1 (fun n st=>∃ k v:Nat,k + n=20 ∧
    st=⟨mkE .top [(0,.list (l.map cE)),(1,.list (M.map rB)),(5,.arr 0 v),(6,.int .i64 r),(7,.int .i64 ((k + 1:Nat):Int))],[.arr v false false 29 2 (((ze0 r k).filter (zh5 l M)).map cId)]⟩) 20 (by simp [hx]) (by simp) ?_ ?_
   ·
    refine ⟨0,v,by omega,?_⟩
    simp [zi,go_sem,zc,zd,pos,List.range_succ]
   ·
    rintro n2 st ⟨k,v2,hk,rfl⟩
    have wk:=zD (k:=k + 1) (by omega)
    by_cases hk20:k < 20
    ·
     have d20:decide (((k + 1:Nat):Int)≤20)=true:=by simp; omega
     have hb:=zjs r k
     have hfl:=List.length_filter_le (zh5 l M) (ze0 r k)
     have hn:=zoe r k
     simp only [go_sem,d20]
     refine za (.pureE (Zf l ⟨r,((k + 1:Nat):Int)⟩ (by omega)) (by simp [go_sem,cId])) ?_
     generalize (⟨r,((k + 1:Nat):Int)⟩:Id)=q at *
     generalize hz:zz l q=z
     by_cases hz0:0≤z
     ·
      obtain ⟨i,f1,f2,f3⟩:=ZO (l:=l) (x:=q) (by rw [hz]; exact hz0)
      obtain rfl:z=(i:Int):=by rw [← hz]; exact f1
      have hMi:M[i]? = some (nth M i):=zk _ _ (by omega)
      have hiM:i < M.length:=by omega
      have hg:l[i]? = some (nth l i):=zk _ _ f2
      have i0:(0:Int)≤(i:Int):=by omega
      have ht:zh5 l M q=nth M i:=by simp [zh5,f1]
      cases hb:nth M i
      ·
       rw [hb] at ht hMi
       simp only [go_sem,i0,hiM,hMi,rB,wk]
       refine ⟨by simp,n2 - 1,by omega,k + 1,v2,by omega,?_⟩
       rw [hn,List.filter_append]
       simp [zi,go_sem,zc,zd,pos,List.range_succ,ht,rB]
      ·
       rw [hb] at ht hMi
       simp only [go_sem,i0,hiM,hMi,rB,f2,hg,cE,f3]
       rw [zB rfl rfl (by simp) (by simp; omega)]
       simp only [go_sem,wk]
       refine ⟨by simp,n2 - 1,by omega,k + 1,v2 + 1,by omega,?_⟩
       rw [hn,List.filter_append]
       simp [zi,go_sem,zc,zd,pos,List.range_succ,ht,rB,cId]
     ·
      have ht:zh5 l M q=false:=by simp [zh5,hz,hz0]
      simp only [go_sem,hz0,wk]
      refine ⟨by simp,n2 - 1,by omega,k + 1,v2,by omega,?_⟩
      rw [hn,List.filter_append]
      simp [zi,go_sem,zc,zd,pos,List.range_succ,ht,rB]
    ·
     obtain rfl:k=20:=by omega
     have d20:decide (((20 + 1:Nat):Int)≤20)=false:=by simp
     simp only [go_sem,d20,wr]
     refine ⟨by simp,n - 1,by omega,r + 1,v2,by omega,?_⟩
     simp [zi,go_sem,zc,zd,pos,List.range_succ,zof]
  ·
   obtain rfl:r=2:=by omega
   have d2:decide (((2:Nat):Int) < 2)=false:=by simp
   simp only [go_sem,d2]
   refine zb hx ?_
   simp [go_sem,zzI,zzJ,zu,pos,ze1,zfg]
def mix (A B:List Bool) (j:Nat):List Bool:=A.take j ++ B.drop j
theorem zhs {A B:List Bool} {j:Nat} (h:A.length=B.length):(mix A B j).length=B.length:=by
 simp [mix]; omega
theorem zog {A B:List Bool} {j:Nat} (h:A.length=B.length) (hj:j < B.length):(mix A B j)[j]? = some (nth B j):=by
 unfold mix
 rw [List.getElem?_append_right (by simp; omega)]
 simp [show j - min j A.length=0 by omega,nth,hj]
theorem zoh {A B:List Bool} {j:Nat} (h:A.length=B.length) (hj:j < B.length):(mix A B j).set j (nth A j)=mix A B (j + 1):=by
 unfold mix
 rw [List.set_append_right _ _ (by simp; omega)]
 rw [List.take_succ_eq_append_getElem (by omega),zy _ _ (by omega)]
 simp only [List.length_take,show j - min j A.length=0 by omega,List.append_assoc]
 rw [List.drop_eq_getElem_cons hj]
 rfl
theorem zlm (A B:List Bool):mix A B 0=B:=by simp [mix]
theorem zoi {A B:List Bool} (h:A.length=B.length):mix A B B.length=A:=by simp [mix,← h]
def zpN (M P:List Bool):List Bool:=List.zipWith (fun a p=>a && !p) M P
def zfh (l:List Entry) (c:Int):List Bool:=l.map fun e=>zak e.c c
def zaO (l:List Entry) (c:Int):Nat→List Bool
 | 0=>zfh l c
 | k + 1=>if zak (nth l k).c c then zpN (zaO l c k) (zax l k) else zaO l c k
theorem zcn (l:List Entry) (a:Nat):(zax l a).length=l.length:=zbc l a (a + 1)
theorem zbd (l:List Entry) (c:Int):∀ k,(zaO l c k).length=l.length
 | 0=>by simp [zaO,zfh]
 | k + 1=>by
  simp only [zaO]
  split
  ·
   simp [zpN,zbd l c k,zcn]
  ·
   exact zbd l c k
def zln (l:List Entry) (c:Int):List Id:=ze1 l (zaO l c l.length)
theorem LogOk.col07 {l:List Entry} (h:LogOk l) {k:Nat} (hk:k < l.length):0≤(nth l k).c∧(nth l k).c≤7:=by
 have:=h.col hk
 rw [zX] at this
 omega
theorem zev (l:List Entry) (c:Int) (h:LogOk l) (hc:ZX c 1 7=true):zg Tryz.prog 135 [.list (l.map cE),.int .i64 c] [] (.list ((zln l c).map cId)) []:=by
 have hm:=h.len
 have hc':0≤c∧c≤7:=by rw [zX] at hc; omega
 have hb:(l.length:Int) * ((1:Nat):Int)≤140737488355328:=by omega
 have hn0:(0:Int)≤(l.length:Int):=by omega
 refine zg.of_parts Tryz.func135 Tryz.ntmps135 zuQ zuR (by simp) fun x hx=>?_
 simp only [LC.flat,zuO,zuP,List.cons_append,List.nil_append]
 refine Zq 6 [0,5] 1 (fun st=>st=⟨mkE .top [(0,.list (l.map cE)),(5,.arr 0 0)],[.arr 0 false false 4 1 ((zaO l c l.length).map rB)]⟩) (by simp [hx]) (by simp) ?_ ?_
 ·
  simp only [go_sem,zuO,zuP,List.take_succ_cons,List.take_zero,hb,hn0]
  refine zr [0,1,5,6] 1 (fun n st=>∃ k:Nat,k + n=l.length ∧
   st=⟨mkE .top [(0,.list (l.map cE)),(1,.int .i64 c),(5,.arr 0 0),(6,.int .i64 k)],[.arr 0 true false 4 1 ((mix (zfh l c) (List.replicate l.length false) k).map rB)]⟩) l.length (by simp [hx]) (by simp) ?_ ?_
  ·
   refine ⟨0,by omega,?_⟩
   simp [zi,go_sem,zc,zd,pos,List.range_succ,zlm,rB]
  ·
   rintro n st ⟨k,hk,rfl⟩
   have hl1:(zfh l c).length=(List.replicate l.length false).length:=by simp [zfh]
   have hl2:(List.replicate l.length false).length=l.length:=by simp
   by_cases hlt:k < l.length
   ·
    have hg:l[k]? = some (nth l k):=zk _ _ hlt
    have wk:=zD (k:=k) (by omega)
    have hmx:=zog (j:=k) hl1 (by omega)
    have hms:=zoh (j:=k) hl1 (by omega)
    have hml:=zhs (j:=k) hl1
    rw [hl2] at hml
    have hmb:nth (zfh l c) k=zak (nth l k).c c:=by rw [zy _ _ (by rw [hl1,hl2]; exact hlt)]; simp [zfh,zy _ _ hlt]
    rw [hmb] at hms
    simp only [go_sem,hlt,hg,cE]
    refine za (.pureE (zgg (nth l k).c c (h.col07 hlt) hc') (by simp [go_sem])) ?_
    simp only [go_sem,hlt,hml,hmx,rB,wk,Nat.le_refl,frz,or_true,false_or]
    refine ⟨by simp,n - 1,by omega,k + 1,by omega,?_⟩
    rw [← hms]
    simp [zi,go_sem,zc,zd,pos,List.range_succ,rB,List.map_set]
   ·
    obtain rfl:k=l.length:=by omega
    have hma:=zoi hl1
    rw [hl2] at hma
    simp only [go_sem,Nat.lt_irrefl,hma]
    refine zr [0,1,5,7] 1 (fun n st=>∃ k:Nat,k + n=l.length ∧
     st=⟨mkE .top [(0,.list (l.map cE)),(1,.int .i64 c),(5,.arr 0 0),(7,.int .i64 k)],[.arr 0 true false 4 1 ((zaO l c k).map rB)]⟩) l.length (by simp [hx]) (by simp) ?_ ?_
    ·
     refine ⟨0,by omega,?_⟩
     simp [zi,go_sem,zc,zd,pos,List.range_succ,zaO]
    ·
     rintro n2 st ⟨k,hk,rfl⟩
     have hhl:=zbd l c k
     by_cases hlt:k < l.length
     ·
      have hg:l[k]? = some (nth l k):=zk _ _ hlt
      have wk:=zD (k:=k) (by omega)
      simp only [go_sem,hlt,hg,cE]
      refine za (.pureE (zgg (nth l k).c c (h.col07 hlt) hc') (by simp [go_sem])) ?_
      cases hmt:zak (nth l k).c c
      ·
       simp only [go_sem,wk]
       refine ⟨by simp,n2 - 1,by omega,k + 1,by omega,?_⟩
       simp [zi,go_sem,zc,zd,pos,List.range_succ,zaO,hmt]
      ·
       simp only [go_sem]
       refine za (.pureE (zh4 l k h hlt) (by simp [go_sem])) ?_
       simp only [go_sem]
       have hml:=zcn l k
       have hcl:(zpN (zaO l c k) (zax l k)).length=(zaO l c k).length:=by simp [zpN,hhl,hml]
       refine zr [0,1,5,7,8,9] 1 (fun n st=>∃ j:Nat,j + n=l.length ∧
        st=⟨mkE .top [(0,.list (l.map cE)),(1,.int .i64 c),(5,.arr 0 0),(7,.int .i64 k),(8,.list ((zax l k).map rB)),(9,.int .i64 j)],[.arr 0 true false 4 1 ((mix (zpN (zaO l c k) (zax l k)) (zaO l c k) j).map rB)]⟩) l.length (by simp [hx]) (by simp) ?_ ?_
       ·
        refine ⟨0,by omega,?_⟩
        simp [zi,go_sem,zc,zd,pos,List.range_succ,zlm]
       ·
        rintro n3 st ⟨j,hj,rfl⟩
        by_cases hlj:j < l.length
        ·
         have wj:=zD (k:=j) (by omega)
         have hmx:=zog (j:=j) hcl (by omega)
         have hms:=zoh (j:=j) hcl (by omega)
         have hmxl:=zhs (j:=j) hcl
         rw [hhl] at hmxl
         have hP:(zax l k)[j]? = some (nth (zax l k) j):=zk _ _ (by omega)
         have hcj:nth (zpN (zaO l c k) (zax l k)) j=(nth (zaO l c k) j && !nth (zax l k) j):=by
          rw [zy _ _ (by omega),zy _ _ (by omega),zy _ _ (by omega)]; simp [zpN]
         rw [hcj] at hms
         cases hb1:nth (zaO l c k) j
         ·
          rw [hb1] at hmx hms
          simp only [go_sem,hlj,hmxl,hmx,rB]
          simp only [go_sem,hlj,hmxl,hmx,rB,wj,Nat.le_refl,frz,or_true,false_or]
          refine ⟨by simp,n3 - 1,by omega,j + 1,by omega,?_⟩
          rw [← hms]
          simp [zi,go_sem,zc,zd,pos,List.range_succ,rB,List.map_set]
         ·
          rw [hb1] at hmx hms
          simp only [go_sem,hlj,hmxl,hmx,hml,hP,rB]
          simp only [go_sem,hlj,hmxl,hmx,rB,wj,Nat.le_refl,frz,or_true,false_or]
          refine ⟨by simp,n3 - 1,by omega,j + 1,by omega,?_⟩
          rw [← hms]
          simp [zi,go_sem,zc,zd,pos,List.range_succ,rB,List.map_set]
        ·
         obtain rfl:j=l.length:=by omega
         have hma:=zoi hcl
         rw [hhl] at hma
         simp only [go_sem,Nat.lt_irrefl,hma,wk]
         refine ⟨by simp,n2 - 1,by omega,k + 1,by omega,?_⟩
         simp [zi,go_sem,zc,zd,pos,List.range_succ,zaO,hmt]
     ·
      obtain rfl:k=l.length:=by omega
      simp only [go_sem,Nat.lt_irrefl]
      rw [zI]
      refine ⟨by simp,_,?_,rfl⟩
      rw [show (St.mk (mkE .top [(0,.list (l.map cE)),(5,.arr 0 0)]) [AObj.arr 0 false false 4 1 ((zaO l c l.length).map rB)])=(⟨(St.mk (mkE .top [(0,.list (l.map cE)),(5,.arr 0 0)]) [AObj.arr 0 true false 4 1 ((zaO l c l.length).map rB)]).env,[AObj.arr 0 true false 4 1 ((zaO l c l.length).map rB)].set 0 (AObj.arr 0 false false 4 1 ((zaO l c l.length).map rB))⟩:St) from rfl]
      have e:=zx (x:=x) (nt:=68) (st:=St.mk (mkE .top [(0,.list (l.map cE)),(5,.arr 0 0)]) [AObj.arr 0 true false 4 1 ((zaO l c l.length).map rB)]) 0 rfl
      refine cast ?_ e
      congr 1
      simp [zi,go_sem,zc,zd,pos,List.range_succ]
 ·
  rintro st rfl
  refine zY ?_
  simp only [go_sem,zuO,zuP,List.drop_succ_cons,List.drop_zero]
  refine za (.pureE (zjt l (zaO l c l.length) (by omega) (zbd l c _)) (by simp [go_sem,zu,pos])) ?_
  simp only [go_sem]
  refine zb hx ?_
  simp [go_sem,zuO,zuP,zln]
theorem zju {l:List Entry} (h:LogOk l) {j:Nat} (hj:j < l.length):∀ (a:Nat),a < l.length→(nth l j).id ∈ ZE l a→∀ y ∈ ZE l j,y ∈ ZE l a:=by
 intro a
 induction a using Nat.strongRecOn with
 | _ a ih =>
  intro ha hm y hy
  obtain ⟨x,hx,he⟩:=(zaW h ha).1 hm
  obtain ⟨f1,f2⟩:=h.link_lt ha hx
  refine (zaW h ha).2 ⟨x,hx,.inr ?_⟩
  rcases he with rfl | he
  ·
   rw [h.find hj,Int.toNat_natCast]; exact hy
  ·
   exact ih _ (by omega) (by omega) he y hy
theorem zsT {M:List Bool} {i k:Nat} (hk:k < M.length):nth (M.set i true) k=(nth M k || decide (i=k)):=by
 rw [zy _ _ (by simpa using hk),zy _ _ hk,List.getElem_set]
 by_cases e:i=k
 ·
  simp [e]
 ·
  simp [e]
theorem zjv {l:List Entry}:∀ (ls:List Id) (M:List Bool) (k:Nat),k < M.length→nth (zbn l ls M) k=(nth M k || ls.any fun x=>decide ((zz l x).toNat=k))
 | [],M,k,_=>by simp [zbn]
 | x :: ls,M,k,h=>by
  show nth (zbn l ls (M.set (zz l x).toNat true)) k=_
  rw [zjv ls _ k (by simpa using h),zsT h]
  simp [Bool.or_assoc]
theorem zht {l : List Entry} (h : LogOk l) {i k : Nat} (hi : i < l.length) (hk : k < l.length) {M : List Bool} (hM : M.length = l.length) :
    nth (zbn l (nth l i).ls M) k=true↔nth M k=true∨(nth l k).id ∈ (nth l i).ls:=by
  rw [zjv _ _ _ (by omega),Bool.or_eq_true,List.any_eq_true]
  constructor
  · rintro (h1 | ⟨x,hx,hd⟩)
    · exact .inl h1
    · obtain ⟨f1,f2⟩:=h.link_lt hi hx
      obtain ⟨m,g1,g2,g3⟩:=ZO f1
      have:m=k:=by simpa [g1] using hd
      subst this
      exact .inr (by rw [g3]; exact hx)
  · rintro (h1 | hx)
    · exact .inl h1
    · exact .inr ⟨_,hx,by simp [h.find hk]⟩
theorem zqL {n k:Nat} (h:k < n):nth (List.replicate n false) k=false:=by
 rw [zy _ _ (by simpa using h)]; simp
theorem zjw {l : List Entry} (h : LogOk l) {a : Nat} (ha : a < l.length) : ∀ s, s ≤ a →
    (∀ k,k < l.length→nth (zcm l a (s + 1)) k=true→(nth l k).id ∈ ZE l a) ∧
    (∀ k,k < l.length→(nth l k).id ∈ ZE l a→nth (zcm l a (s + 1)) k=true∨∃ j,j < a - s∧nth (zcm l a (s + 1)) j=true∧(nth l k).id ∈ ZE l j)
  | 0,_=>by
    have e:zcm l a 1=zbn l (nth l a).ls (List.replicate l.length false):=by simp [zcm,zh3]
    rw [Nat.zero_add,e]
    have hlk:∀ k,k < l.length→(nth (zbn l (nth l a).ls (List.replicate l.length false)) k=true↔(nth l k).id ∈ (nth l a).ls):=fun k hk=>by
      rw [zht h ha hk (by simp),zqL hk]; simp
    refine ⟨fun k hk hm=>(zaW h ha).2 ⟨_,(hlk k hk).1 hm,.inl rfl⟩,fun k hk hp=>?_⟩
    obtain ⟨x,hx,he⟩:=(zaW h ha).1 hp
    rcases he with rfl | he
    · exact .inl ((hlk k hk).2 hx)
    · obtain ⟨f1,f2⟩:=h.link_lt ha hx
      obtain ⟨m,g1,g2,g3⟩:=ZO f1
      rw [g1,Int.toNat_natCast] at he
      exact .inr ⟨m,by omega,(hlk m g2).2 (by rw [g3]; exact hx),he⟩
  | s + 1,hs=>by
    obtain ⟨iA,iB⟩:=zjw h ha s (by omega)
    have hi:a - (s + 1) < l.length:=by omega
    have e:zcm l a (s + 1 + 1)=zh3 l a (a - (s + 1)) (zcm l a (s + 1)):=rfl
    rw [e]
    generalize hM:zcm l a (s + 1)=M at *
    have hMl:M.length=l.length:=by rw [← hM]; exact zbc l a _
    generalize hid:a - (s + 1)=i at *
    have hne:¬ i=a:=by omega
    unfold zh3
    by_cases hm:nth M i=true
    · rw [if_pos (.inr hm)]
      have hlk:∀ k,k < l.length→(nth (zbn l (nth l i).ls M) k=true↔nth M k=true∨(nth l k).id ∈ (nth l i).ls):=fun k hk=>zht h hi hk hMl
      refine ⟨fun k hk hkm=>?_,fun k hk hp=>?_⟩
      · rcases (hlk k hk).1 hkm with h1 | h1
        · exact iA k hk h1
        · exact zju h hi a ha (iA i hi hm) _ ((zaW h hi).2 ⟨_,h1,.inl rfl⟩)
      · rcases iB k hk hp with h1 | ⟨j,hj,h2,h3⟩
        · exact .inl ((hlk k hk).2 (.inl h1))
        · by_cases hji:j=i
          · subst hji
            obtain ⟨x,hx,he⟩:=(zaW h hi).1 h3
            rcases he with rfl | he
            · exact .inl ((hlk k hk).2 (.inr hx))
            · obtain ⟨f1,f2⟩:=h.link_lt hi hx
              obtain ⟨m,g1,g2,g3⟩:=ZO f1
              rw [g1,Int.toNat_natCast] at he
              exact .inr ⟨m,by omega,(hlk m g2).2 (.inr (by rw [g3]; exact hx)),he⟩
          · exact .inr ⟨j,by omega,(hlk j (by omega)).2 (.inl h2),h3⟩
    · rw [if_neg (by simp [hne,hm])]
      refine ⟨iA,fun k hk hp=>?_⟩
      rcases iB k hk hp with h1 | ⟨j,hj,h2,h3⟩
      · exact .inl h1
      · have:j≠i:=fun e=>hm (e ▸ h2)
        exact .inr ⟨j,by omega,h2,h3⟩
theorem zgh {l:List Entry} (h:LogOk l) {a k:Nat} (ha:a < l.length) (hk:k < l.length):nth (zax l a) k=true↔(nth l k).id ∈ ZE l a:=by
 obtain ⟨h1,h2⟩:=zjw h ha a (Nat.le_refl _)
 refine ⟨h1 k hk,fun hp=>?_⟩
 rcases h2 k hk hp with h3 | ⟨j,hj,-⟩
 ·
  exact h3
 ·
  omega
theorem zms:Asc zfg:=by
 unfold Asc
 have:(zfg.Pairwise fun a b=>zP a b=true):=by decide +kernel
 exact this
theorem zmt {x:Id}:x ∈ zfg↔zeV x=true:=by
 obtain ⟨r,n⟩:=x
 simp only [zeV,Bool.and_eq_true,zX]
 constructor
 ·
  intro h
  have key:∀ y ∈ zfg,(0≤y.r∧y.r≤1)∧1≤y.n∧y.n≤20:=by decide +kernel
  exact key _ h
 ·
  rintro ⟨⟨h1,h2⟩,h3,h4⟩
  have key:∀ (a:Fin 2) (b:Fin 20),(⟨(a.val:Int),(b.val:Int) + 1⟩:Id) ∈ zfg:=by decide +kernel
  have:=key ⟨r.toNat,by omega⟩ ⟨(n - 1).toNat,by omega⟩
  simp only [Int.toNat_of_nonneg h1,Int.toNat_of_nonneg (show 0≤n - 1 by omega),Int.sub_add_cancel] at this
  exact this
theorem zkG (l:List Entry) (M:List Bool):Asc (ze1 l M):=zms.filter _
theorem zkH {l:List Entry} (h:LogOk l) {M:List Bool} {x:Id}:x ∈ ze1 l M↔∃ k,k < l.length∧(nth l k).id=x∧nth M k=true:=by
 unfold ze1
 rw [List.mem_filter,zmt,zh5,Bool.and_eq_true,decide_eq_true_eq]
 constructor
 ·
  rintro ⟨h1,h2,h3⟩
  obtain ⟨k,g1,g2,g3⟩:=ZO h2
  rw [g1,Int.toNat_natCast] at h3
  exact ⟨k,g2,g3,h3⟩
 ·
  rintro ⟨k,hk,rfl,h3⟩
  rw [h.find hk,Int.toNat_natCast]
  exact ⟨h.id_ok hk,by omega,h3⟩
theorem zsU {M P:List Bool} {k:Nat} (h1:k < M.length) (h2:k < P.length):nth (zpN M P) k=(nth M k && !nth P k):=by
 rw [zy _ _ (by simp [zpN]; omega),zy _ _ h1,zy _ _ h2]; simp [zpN]
theorem zgi {l:List Entry} (h:LogOk l) {c:Int} {k:Nat} (hk:k < l.length):∀ n,n≤l.length→(nth (zaO l c n) k=true↔zak (nth l k).c c=true∧∀ i,i < n→zak (nth l i).c c=true→(nth l k).id ∉ ZE l i)
 | 0,_=>by
  have:nth (zaO l c 0) k=zak (nth l k).c c:=by
   simp only [zaO,zfh]
   rw [zy _ _ (by simpa using hk)]; simp [zy _ _ hk]
  rw [this]
  exact ⟨fun e=>⟨e,fun i hi=>by omega⟩,fun e=>e.1⟩
 | n + 1,hn=>by
  have ih:=zgi h (c:=c) hk n (by omega)
  simp only [zaO]
  split
  ·
   rename_i hm
   rw [zsU (by rw [zbd]; exact hk) (by rw [zcn]; exact hk),Bool.and_eq_true,ih,Bool.not_eq_true',← Bool.not_eq_true,zgh h (by omega) hk]
   constructor
   ·
    rintro ⟨⟨h1,h2⟩,h3⟩
    refine ⟨h1,fun i hi hmi=>?_⟩
    by_cases e:i=n
    ·
     subst e; exact h3
    ·
     exact h2 i (by omega) hmi
   ·
    rintro ⟨h1,h2⟩
    exact ⟨⟨h1,fun i hi=>h2 i (by omega)⟩,h2 n (by omega) hm⟩
  ·
   rename_i hm
   rw [ih]
   constructor
   ·
    rintro ⟨h1,h2⟩
    refine ⟨h1,fun i hi hmi=>?_⟩
    by_cases e:i=n
    ·
     subst e; exact (hm hmi).elim
    ·
     exact h2 i (by omega) hmi
   ·
    rintro ⟨h1,h2⟩
    exact ⟨h1,fun i hi=>h2 i (by omega)⟩
theorem zoj {l:List Entry} (h:LogOk l):(l.map (·.id)).Nodup:=by
 rw [List.Nodup,List.pairwise_map,List.pairwise_iff_getElem]
 intro i j hi hj hij e
 rw [← zy l i hi,← zy l j hj] at e
 have:=h.inj hi hj e
 omega
theorem zfi {l:List Entry} (h:LogOk l) (c:Int):(Za l c).Nodup:=by
 refine List.Nodup.sublist (List.Sublist.map _ ?_) (zoj h)
 exact List.filter_sublist.trans List.filter_sublist
theorem zew {l:List Entry} {c:Int} {e:Entry}:e ∈ Zj l c↔∃ k,k < l.length∧nth l k=e∧zak e.c c=true:=by
 unfold Zj
 rw [List.mem_filter]
 constructor
 ·
  rintro ⟨h1,h2⟩
  obtain ⟨k,hk,rfl⟩:=List.getElem_of_mem h1
  exact ⟨k,hk,zy _ _ hk,h2⟩
 ·
  rintro ⟨k,hk,rfl,h2⟩
  exact ⟨by rw [zy _ _ hk]; exact List.getElem_mem hk,h2⟩
theorem ze2 {l:List Entry} (h:LogOk l) {c:Int} {x:Id}:x ∈ Za l c↔∃ k,k < l.length∧(nth l k).id=x∧zak (nth l k).c c=true∧∀ i,i < l.length→zak (nth l i).c c=true→x ∉ ZE l i:=by
 unfold Za
 rw [List.mem_map]
 constructor
 ·
  rintro ⟨e,he,rfl⟩
  obtain ⟨h1,h2⟩:=List.mem_filter.1 he
  obtain ⟨k,hk,rfl,hm⟩:=zew.1 h1
  refine ⟨k,hk,rfl,hm,fun i hi hmi hp=>?_⟩
  simp only [Bool.not_eq_true',zbb,List.any_eq_false] at h2
  have:=h2 (nth l i) (zew.2 ⟨i,hi,rfl,hmi⟩)
  rw [zbS,h.find hi,Int.toNat_natCast] at this
  exact this (zdu.2 hp)
 ·
  rintro ⟨k,hk,rfl,hm,hp⟩
  refine ⟨nth l k,List.mem_filter.2 ⟨zew.2 ⟨k,hk,rfl,hm⟩,?_⟩,rfl⟩
  simp only [Bool.not_eq_true',zbb,List.any_eq_false]
  intro f hf
  obtain ⟨i,hi,rfl,hmi⟩:=zew.1 hf
  rw [zbS,h.find hi,Int.toNat_natCast]
  exact fun hh=>hp i hi hmi (zdu.1 hh)
theorem zdv {l:List Entry} (h:LogOk l) (c:Int):zln l c=Zv (Za l c):=by
 refine zn3 (zkG _ _) (zjl (zfi h c)) fun x=>?_
 rw [zln,zkH h,zet,ze2 h]
 constructor
 ·
  rintro ⟨k,hk,rfl,hm⟩
  obtain ⟨h1,h2⟩:=(zgi h hk l.length (Nat.le_refl _)).1 hm
  exact ⟨k,hk,rfl,h1,h2⟩
 ·
  rintro ⟨k,hk,rfl,hm,hp⟩
  exact ⟨k,hk,rfl,(zgi h hk l.length (Nat.le_refl _)).2 ⟨hm,hp⟩⟩
theorem zjx (l:List Id) (hb:l.length≤1000000000):zg Tryz.prog 213 [.list (l.map cId)] [] (.list (l.map cId)) []:=by
 refine zg.of_walk Tryz.func213 Tryz.ntmps213 zrK zrL (by simp) fun x hx=>?_
 simp only [go_sem,zsE,zsF]
 refine zf3 rfl fun b hb'=>?_
 cases b
 ·
  simp only [go_sem]
  rw [zB rfl rfl (by simp [cId]) (by simp; omega)]
  simp only [go_sem]
  refine zb hx ?_
  simp [go_sem,zsE,zsF,pos,zu]
 ·
  simp only [go_sem]
  have:l = []:=by simpa using hb' rfl
  subst this
  refine zb hx ?_
  simp [go_sem,zsE,zsF]
theorem zh6 (l:List Id) (hb:l.length≤1000000000):zg Tryz.prog 213 [.list (l.map cId)] [] (.arr 0 1) [.arr 1 true false 29 2 (l.map cId)]:=by
 refine zg.of_walk Tryz.func213 Tryz.ntmps213 zrK zrL (by simp) fun x hx=>?_
 simp only [go_sem,zsE,zsF]
 refine zf3 rfl fun b hb'=>?_
 cases b
 ·
  simp only [go_sem]
  rw [zB rfl rfl (by simp [cId]) (by simp; omega)]
  simp only [go_sem]
  refine zG [0] (by simp) (by simp [hx]) (by simp [hx]) ?_ ?_
  ·
   simp [go_sem,zsE,zsF,hx,pos]
  ·
   simp [zc,zd,hx]
 ·
  simp only [go_sem]
  refine zt (ZQ 2 1 29 2 true false rfl (by omega)) ?_
  have:l = []:=by simpa using hb' rfl
  subst this
  rw [Zt]
  refine zG [0] (by simp) (by simp [hx]) (by simp [hx]) ?_ ?_
  ·
   simp [go_sem,zsE,zsF,hx,pos]
  ·
   simp [zc,zd,hx]
def zAB (l:List Entry) (out:List Id) (y:Id) (e:Entry):Bool:=zh1 (ZD (Z0 l) l y) e.id && !zh1 out e.id
def zAC (l:List Entry) (c:Int) (out:List Id) (y:Id):Bool := !(Zj l c).any (zAB l out y)
def zzP (l:List Entry) (c:Int) (out:List Id) (x:Id):Bool:=decide (0≤zz l x) && zak (nth l (zz l x).toNat).c c && !zh1 out x && zAC l c out x
def zzQ (l:List Entry) (c:Int) (out:List Id):Option Id:=zfg.find? (zzP l c out)
def zAD (l:List Entry) (c:Int) (out:List Id):Nat:=(Zj l c).countP fun e => !zh1 out e.id
def zv9 (l:List Entry) (c:Int):Nat→List Id→List Id
 | 0,out=>out
 | n + 1,out=>match zzQ l c out with
  | some x=>zv9 l c n (out ++ [x])
  | none=>out
def zAn (l:List Entry) (c:Int) (out:List Id):List Id:=zv9 l c (zAD l c out) out
section
variable {P:Program} {x:Cx} {nt:Nat} {st:St}
def St.sel (st:St) (live ks:List Nat):St :=
 ⟨fun t=>if t ∈ live then zbE false (pos ks) (zu true st.heap) (st.env t) else .top,zc (pos ks) (zu true st.heap) st.heap ks⟩
theorem zbz (live ks:List Nat) (hnd:ks.Nodup) (hlt:∀ k ∈ ks,k < st.heap.length) (hpre:∀ i,i < x.H0.length→ks[i]? = some i):zbk x nt st (st.sel live ks):=by
 intro a w ⟨⟨C,hr,he⟩,hdf,hsz⟩
 obtain ⟨k1,k2⟩:=hr.restrict hnd hlt hpre
 refine ⟨⟨_,k1,fun t=>?_⟩,hdf,hsz⟩
 simp only [St.sel]
 split
 ·
  exact zec k2 (he t)
 ·
  exact .any
theorem zdM (d:PV) (l:List (Nat × PV)) (H:List AObj) (live ks:List Nat):(St.mk (mkE d l) H).sel live ks=⟨mkE .top (live.map fun t=>(t,zbE false (pos ks) (zu true H) (mkE d l t))),zc (pos ks) (zu true H) H ks⟩:=by
 simp only [St.sel,St.mk.injEq,and_true]
 funext t
 induction live with
 | nil=>simp [mkE]
 | cons k live ih =>
  simp only [List.map_cons,mkE]
  by_cases e:k=t
  ·
   subst e; simp
  ·
   rw [if_neg e,← ih]
   simp [Ne.symm e]
def zwa (x:Cx) (nt:Nat) (I:Nat→St→Prop) (n:Nat) (st:St):Prop:=∃ n' st',n' < n∧zbk x nt st st'∧I n' st'
theorem zqM {b : LC} {Q : AE → St → Prop} (I : Nat → St → Prop) (n : Nat) (h0 : ∃ st', zbk x nt st st' ∧ I n st')
    (hstep:∀ n st,I n st→zeO P x nt b (@zeU ⟨zwa x nt I n⟩ Q) st):W P x nt (.loop b) Q st:=by
  refine zlc (fun n st=>∃ st',zbk x nt st st'∧I n st') n h0 ?_
  rintro n st ⟨st',hw,hI⟩
  refine zb9 hw ((zaC (hstep n st' hI)).mono fun e st2 hq=>?_)
  cases e with
  | normal=>obtain ⟨n',st3,g2,g3,g4⟩:=hq; exact ⟨n',g2,st3,g3,g4⟩
  | exit id=>exact hq
  | ret=>exact hq
end
structure SomeOk (l:List Entry) (ids:List Id):Prop where
 zex:∀ x ∈ ids,0≤zz l x
 once:ids.Nodup
theorem zcT {α:Type} [Inhabited α] {l:List α} {k:Nat} (h:k < l.length):nth l k ∈ l:=by rw [zy _ _ h]; exact List.getElem_mem h
def cSi (r:Int) (lg ws:List Entry):List PV := [.int .i64 r,.list (lg.map cE),.list (ws.map cE)]
def zbT (l:List Entry):Prop:=∀ e ∈ l,(e.id.r=0∨e.id.r=1)∧e.ls.length≤1000000
theorem zok {l:List Entry} (h:zbT l):zhW l:=fun e he=>(h e he).1
theorem zd2 {α β:Type} (f:α→β) (w:α):∀ (ws:List α) (i:Nat),(ws.map f).insertIdx i (f w)=(ws.insertIdx i w).map f
 | [],0=>rfl
 | [],_ + 1=>rfl
 | _ :: _,0=>rfl
 | y :: ws,i + 1=>by
  simp only [List.map_cons,List.insertIdx_succ_cons]
  rw [zd2 f w ws i]
theorem zaL {α β:Type} (f:α→β):∀ (ws:List α) (i:Nat),(ws.map f).eraseIdx i=(ws.eraseIdx i).map f
 | [],_=>rfl
 | _ :: _,0=>rfl
 | y :: ws,i + 1=>by
  simp only [List.map_cons,List.eraseIdx_cons_succ]
  rw [zaL f ws i]
theorem Zy (e:Entry) (hb:e.ls.length≤1000000):zg Tryz.prog 140 [.agg (cE e)] [] (.agg (cE e)) []:=by
 refine zg.of_walk Tryz.func140 Tryz.ntmps140 zrC zrD (by simp) fun x hx=>?_
 simp only [go_sem,zuU,zuV,cE]
 refine za (.pureE (zjx e.ls (by omega)) (by simp [go_sem])) ?_
 simp only [go_sem,cE]
 refine zb hx ?_
 simp [go_sem,zuU,zuV,cE]
theorem zaM (l:List Entry) (hl:l.length≤1000000) (hf:zbT l):zg Tryz.prog 212 [.list (l.map cE)] [] (.arr 0 l.length) [.arr l.length true false 32 5 (l.map cE)]:=by
 refine zg.of_walk Tryz.func212 Tryz.ntmps212 zrI zrJ (by simp) fun x hx=>?_
 simp only [go_sem,zvQ,zvR]
 refine zaa (ZQ 3 0 32 5 true false rfl (by omega)) ?_
 rw [Zt]
 refine zr [3,6,7,8] 1 (fun m st=>∃ k:Nat,k + m=l.length ∧
  st=⟨mkE .top [(3,.arr 0 k),(6,.list (l.map cE)),(7,.int .i64 l.length),(8,.int .i64 k)],[.arr k true false 32 5 ((l.take k).map cE)]⟩) l.length (by simp [hx]) (by simp) ?_ ?_
 ·
  refine ⟨0,by omega,?_⟩
  simp [zi,go_sem,zc,zd,pos,List.range_succ]
 ·
  rintro m st ⟨k,hk,rfl⟩
  by_cases hlt:k < l.length
  ·
   have hg:l[k]? = some (nth l k):=zk _ _ hlt
   have wk:=zD (k:=k) (by omega)
   simp only [go_sem,hlt,hg,cE]
   refine za (.pureE (Zy (nth l k) (hf _ (zcT hlt)).2) (by simp [go_sem,cE])) ?_
   simp only [go_sem,cE]
   rw [zB rfl rfl (by simp) (by simp; omega)]
   simp only [go_sem,wk]
   have htk:l.take (k + 1)=l.take k ++ [nth l k]:=by rw [List.take_succ_eq_append_getElem hlt,zy _ _ hlt]
   refine ⟨by simp,m - 1,by omega,k + 1,by omega,?_⟩
   simp [zi,go_sem,zc,zd,pos,List.range_succ,htk,cE]
  ·
   obtain rfl:k=l.length:=by omega
   rw [List.take_length]
   simp only [go_sem,hlt]
   refine zG [0] (by simp) (by simp [hx]) (by simp [hx]) ?_ ?_
   ·
    simp [go_sem,zvQ,zvR,hx,pos]
   ·
    simp [zc,zd,hx,pos]
theorem zd3 (r : Int) (lg ws : List Entry) (h1 : lg.length ≤ 1000000) (h2 : ws.length ≤ 1000000) (hf1 : zbT lg) (hf2 : zbT ws) : zg Tryz.prog 139 [.agg (cSi r lg ws)] [] (.agg [.int .i64 r, .arr 0 lg.length, .arr 1 ws.length])
    [.arr lg.length true false 32 5 (lg.map cE),.arr ws.length true false 32 5 (ws.map cE)]:=by
  refine zg.of_walk Tryz.func139 Tryz.ntmps139 zlg zlh (by simp) fun x hx=>?_
  simp only [go_sem,zqs,zqt,cSi]
  refine za6 (r := .arr 2 lg.length) (zaM lg h1 hf1) rfl rfl (by simp [go_sem]) rfl ?_
  simp only [go_sem,cSi]
  refine za6 (r := .arr 3 ws.length) (zaM ws h2 hf2) rfl rfl (by simp [go_sem]) rfl ?_
  simp only [go_sem,cSi]
  repeat refine ⟨rfl,?_⟩
  refine zG [2,3] (by simp) (by simp [hx]) (by simp [hx]) ?_ ?_
  · simp [go_sem,zqs,zqt,hx,pos]
  · simp [zc,zd,hx,pos,go_sem]
def hSi (a b:Nat) (r:Int) (lg ws:List Entry):List AObj := [.box [.int .i64 r,.arr 1 a,.arr 2 b],.arr a true false 32 5 (lg.map cE),.arr b true false 32 5 (ws.map cE)]
def zd8 (lg ws:List Entry):Int:=zaH (zV lg) ws 0
def Zr:Nat→List Entry→List Entry→List Entry × List Entry
 | 0,lg,ws=>(lg,ws)
 | k + 1,lg,ws=>if 0≤zd8 lg ws then Zr k (lg ++ [nth ws (zd8 lg ws).toNat]) (ws.eraseIdx (zd8 lg ws).toNat) else (lg,ws)
def zv (lg ws:List Entry):List Entry × List Entry:=Zr ws.length lg ws
theorem ze3 {lg ws:List Entry} (h:0≤zd8 lg ws):(zd8 lg ws).toNat < ws.length:=by
 have h2:∀ (l:List Entry) (k:Nat),(k:Int)≤zaH (zV lg) l k→zaH (zV lg) l k < (k + l.length:Nat):=by
  intro l
  induction l with
  | nil=>intro k hk; simp [zaH] at hk; omega
  | cons e l ih =>
   intro k hk
   rw [zaH] at hk ⊢
   split
   ·
    simp; omega
   ·
    rename_i h0
    rw [if_neg h0] at hk
    rcases zf7 (zV lg) l (k + 1) with ⟨a,-⟩ | ⟨a,-⟩
    ·
     rw [a] at hk; omega
    ·
     have:=ih (k + 1) a
     simp only [List.length_cons]
     omega
 have:=h2 ws 0 (by simpa [zd8] using h)
 simp only [Nat.zero_add] at this
 unfold zd8 at h ⊢
 omega
theorem zfj {lg ws:List Entry} (h:0≤zd8 lg ws):zv lg ws=zv (lg ++ [nth ws (zd8 lg ws).toNat]) (ws.eraseIdx (zd8 lg ws).toNat):=by
 have hl:=ze3 h
 unfold zv
 rw [List.length_eraseIdx,if_pos hl]
 obtain ⟨m,hm⟩:∃ m,ws.length=m + 1:=⟨ws.length - 1,by omega⟩
 rw [hm,Zr,if_pos h,Nat.add_sub_cancel]
theorem zgj {lg ws:List Entry} (h:¬ 0≤zd8 lg ws):zv lg ws=(lg,ws):=by
 unfold zv
 cases hl:ws.length with
 | zero=>rfl
 | succ m=>rw [Zr,if_neg h]
theorem zgk:∀ (k:Nat) (lg ws:List Entry),(Zr k lg ws).1.length + (Zr k lg ws).2.length=lg.length + ws.length∧(Zr k lg ws).2.length≤ws.length
 | 0,lg,ws=>⟨rfl,Nat.le_refl _⟩
 | k + 1,lg,ws=>by
  rw [Zr]
  split
  ·
   rename_i h
   have hl:=ze3 h
   obtain ⟨a,b⟩:=zgk k (lg ++ [nth ws (zd8 lg ws).toNat]) (ws.eraseIdx (zd8 lg ws).toNat)
   rw [List.length_eraseIdx,if_pos hl] at a b
   simp only [List.length_append,List.length_cons,List.length_nil] at a
   omega
  ·
   exact ⟨rfl,Nat.le_refl _⟩
theorem zbU (lg ws:List Entry):(zv lg ws).1.length + (zv lg ws).2.length=lg.length + ws.length∧(zv lg ws).2.length≤ws.length:=zgk _ _ _
theorem zc9 {lg:List Entry} {e:Entry} (h:zbT lg) (he:(e.id.r=0∨e.id.r=1)∧e.ls.length≤1000000):zbT (lg ++ [e]):=fun x hx=>by
 rcases List.mem_append.1 hx with h1 | h1
 ·
  exact h x h1
 ·
  simp at h1; subst h1; exact he
theorem zgl {ws:List Entry} (h:zbT ws) (i:Nat):zbT (ws.eraseIdx i):=fun x hx=>h x (List.mem_of_mem_eraseIdx hx)
theorem ZG {x : Cx} {nt : Nat} {lrs : List LRes} {r : PV} {Hs' : List AObj} {st : St} (keep : List Nat) (hnd : keep.Nodup) (hlt : ∀ k ∈ keep, x.H0.length ≤ k ∧ k < st.heap.length) (hle : x.H0.length ≤ st.heap.length)
    (h:(ZZ st lrs).map (fun ps=>zbE true (pos (List.range x.H0.length ++ keep)) (zu true st.heap) (zdW ps))=some r)
    (h2:zc (pos (List.range x.H0.length ++ keep)) (zu true st.heap) st.heap (List.range x.H0.length ++ keep)=Hs'):zld x nt lrs r Hs' .normal st:=by
  obtain ⟨ps,g1,g2⟩:=Option.map_eq_some_iff.1 h
  exact ⟨st,keep,zbk.refl _ _ _,ps,g1,hnd,hlt,hle,g2.symm,h2.symm⟩
theorem zh7 (r:Int) (lg ws:List Entry) (e:Entry) (hl:lg.length≤1000000) (hf:zbT lg) (he:e.id.r=0∨e.id.r=1) (hls:e.ls.length≤1000000):zg Tryz.prog 217 [.agg (cE e),.rptr [.rptr (cSi r lg ws)]] [] (.bool (zV lg e)) []:=by
 refine zg.of_walk Tryz.func217 Tryz.ntmps217 zvU zvV (by simp) fun x hx=>?_
 simp only [go_sem,zzK,zzL,cE,cSi]
 refine za (.pureE (zaV lg e (zok hf) (by omega) he (by omega)) (by simp [go_sem,cE])) ?_
 simp only [go_sem]
 repeat refine ⟨rfl,?_⟩
 refine zqj hx ?_
 simp [go_sem,zzK,zzL]
theorem zhu (r : Int) (lg ws : List Entry) (hl : lg.length ≤ 1000000) (hw : ws.length ≤ 1000000) (hf : zbT lg) (hf2 : zbT ws) :
    zg Tryz.prog 178 [.list (ws.map cE),.clo 217 [.rptr [.rptr (cSi r lg ws)]]] [] (.int .i64 (zd8 lg ws)) [] :=
  zc4 ws 217 [.rptr [.rptr (cSi r lg ws)]] [] (zV lg) (by kernel_rfl) (by omega) ⟨by simp [zf],by simp [ren,ze,zf],by simp [zc],by simp [Zk],by simp [zc]⟩
    fun e he=>zh7 r lg ws e hl hf (hf2 e he).1 (hf2 e he).2
theorem zaA (a b : Nat) (r : Int) (lg ws : List Entry) (h1 : lg.length + ws.length ≤ 1000000) (hf1 : zbT lg) (hf2 : zbT ws) :
    zg Tryz.prog 147 [.ptr 0 0] (hSi a b r lg ws) (.tup []) (hSi (a + (ws.length - (zv lg ws).2.length)) (b + (ws.length - (zv lg ws).2.length)) r (zv lg ws).1 (zv lg ws).2):=by
  refine zg.of_walk Tryz.func147 Tryz.ntmps147 zu4 zu5 (by simp) fun x hx=>?_
  simp only [go_sem,zzg,zzh,hSi]
  refine za (.lookE (zhu r lg ws (by omega) (by omega) hf1 hf2) rfl (by simp [ziT,zfr,go_sem,zu,pos,cSi])) ?_
  simp only [go_sem]
  refine zr [1,2,3] 4 (fun m st=>∃ (k:Nat) (us vs:List Entry),vs.length=m∧m + k=ws.length∧us.length=lg.length + k∧zbT us∧zbT vs∧zv us vs=zv lg ws ∧
    st=⟨mkE .top [(1,.ptr 3 0),(2,.clo 217 [.ptr 3 0]),(3,.int .i64 (zd8 us vs))],hSi (a + k) (b + k) r us vs ++ [.box [.ptr 0 0]]⟩) ws.length (by simp [hx,hSi]) (by simp) ?_ ?_
  · refine ⟨0,lg,ws,rfl,rfl,rfl,hf1,hf2,rfl,?_⟩
    simp [zi,go_sem,zc,zd,ze,zf,pos,List.range_succ,hSi]
  · rintro m st ⟨k,us,vs,hm,hmk,hul,hfu,hfv,hse,rfl⟩
    by_cases hf:0≤zd8 us vs
    · have hql:=ze3 hf
      rw [zfj hf] at hse
      obtain ⟨q,hq⟩:∃ q:Nat,zd8 us vs=q:=⟨(zd8 us vs).toNat,by omega⟩
      rw [hq,Int.toNat_natCast] at hql hse
      have hgq:vs[q]? = some (nth vs q):=zk _ _ hql
      have wq:=zD (k:=q) (by omega)
      have hfe:=hfv _ (zcT hql)
      simp only [go_sem,hSi,hq,hql,hgq,cE]
      rw [zB rfl rfl (by simp) (by simp; omega)]
      have hce:List.map cE us ++ [[PV.int .i64 (nth vs q).id.r,.int .i64 (nth vs q).id.n,.int .i64 (nth vs q).c,.str (nth vs q).t,.list ((nth vs q).ls.map cId)]]=(us ++ [nth vs q]).map cE:=by simp [cE]
      simp only [go_sem,hce]
      repeat refine ⟨rfl,?_⟩
      simp only [go_sem,wq]
      refine zcv 2 (zeY (vs.map cE) (b + k) 32 q (by simpa using hql)) rfl rfl rfl rfl (by simp [go_sem]) (by simp [go_sem,pos]) rfl ?_
      rw [zaL]
      have hle:(vs.eraseIdx q).length=vs.length - 1:=by rw [List.length_eraseIdx,if_pos hql]
      simp only [go_sem]
      repeat refine ⟨rfl,?_⟩
      refine za (.lookE (zhu r (us ++ [nth vs q]) (vs.eraseIdx q) (by simp; omega) (by omega) (zc9 hfu hfe) (zgl hfv q)) rfl (by simp [ziT,zfr,go_sem,zu,pos,cSi])) ?_
      simp only [go_sem]
      refine ⟨by simp,m - 1,by omega,k + 1,us ++ [nth vs q],vs.eraseIdx q,by omega,by omega,by simp; omega,zc9 hfu hfe,zgl hfv q,hse,?_⟩
      simp [zi,go_sem,zc,zd,ze,zf,pos,List.range_succ,hSi,Nat.add_assoc]
    · rw [zgj hf] at hse
      rw [← hse]
      have hk1:ws.length - vs.length=k:=by omega
      simp only [go_sem,hSi,hf,hk1]
      refine ZG [] (by simp) (by simp) (by simp [hx,hSi]) ?_ ?_
      · simp [go_sem,zzg,zzh,hx,pos,hSi]
      · simp [zc,zd,hx,pos,go_sem,hSi,List.range_succ]
def cEo (e:Entry):List PV := [.int .i64 e.id.r,.int .i64 e.id.n,.int .i64 e.c,.str e.t,.oll (e.ls.map cId)]
def zae (r:Int) (lg ws:List Entry):List PV := [.int .i64 r,.oll (lg.map cE),.oll (ws.map cE)]
theorem zh8 (l:List Id) (hb:l.length≤1000000000):zg Tryz.prog 213 [.oll (l.map cId)] [] (.list (l.map cId)) []:=by
 have h:=(zh6 l hb).fresh (args' := [.oll (l.map cId)]) rfl
 have hs:((l.map cId).all fun r=>r.all zed)=true:=by simp [cId,zed]
 simp [frS,frA,frL,hs] at h
 exact h
theorem zbA (e:Entry) (hb:e.ls.length≤1000000):zg Tryz.prog 140 [.agg (cEo e)] [] (.agg (cE e)) []:=by
 refine zg.of_walk Tryz.func140 Tryz.ntmps140 zrC zrD (by simp) fun x hx=>?_
 simp only [go_sem,zuU,zuV,cEo]
 refine za (.pureE (zh8 e.ls (by omega)) (by simp [go_sem])) ?_
 simp only [go_sem,cE]
 refine zb hx ?_
 simp [go_sem,zuU,zuV,cE]
theorem zar (l:List Entry) (hl:l.length≤1000000) (hf:zbT l):zg Tryz.prog 212 [.oll (l.map cE)] [] (.arr 0 l.length) [.arr l.length true false 32 5 (l.map cE)]:=by
 refine zg.of_walk Tryz.func212 Tryz.ntmps212 zrI zrJ (by simp) fun x hx=>?_
 simp only [go_sem,zvQ,zvR]
 refine zaa (ZQ 3 0 32 5 true false rfl (by omega)) ?_
 rw [Zt]
 refine zr [3,6,7,8] 1 (fun m st=>∃ k:Nat,k + m=l.length ∧
  st=⟨mkE .top [(3,.arr 0 k),(6,.oll (l.map cE)),(7,.int .i64 l.length),(8,.int .i64 k)],[.arr k true false 32 5 ((l.take k).map cE)]⟩) l.length (by simp [hx]) (by simp) ?_ ?_
 ·
  refine ⟨0,by omega,?_⟩
  simp [zi,go_sem,zc,zd,pos,List.range_succ]
 ·
  rintro m st ⟨k,hk,rfl⟩
  by_cases hlt:k < l.length
  ·
   have hg:l[k]? = some (nth l k):=zk _ _ hlt
   have wk:=zD (k:=k) (by omega)
   simp only [go_sem,hlt,hg,cE]
   refine za (.pureE (zbA (nth l k) (hf _ (zcT hlt)).2) (by simp [go_sem,cEo])) ?_
   simp only [go_sem,cE]
   rw [zB rfl rfl (by simp) (by simp; omega)]
   simp only [go_sem,wk]
   have htk:l.take (k + 1)=l.take k ++ [nth l k]:=by rw [List.take_succ_eq_append_getElem hlt,zy _ _ hlt]
   refine ⟨by simp,m - 1,by omega,k + 1,by omega,?_⟩
   simp [zi,go_sem,zc,zd,pos,List.range_succ,htk,cE]
  ·
   obtain rfl:k=l.length:=by omega
   rw [List.take_length]
   simp only [go_sem,hlt]
   refine zG [0] (by simp) (by simp [hx]) (by simp [hx]) ?_ ?_
   ·
    simp [go_sem,zvQ,zvR,hx,pos]
   ·
    simp [zc,zd,hx,pos]
theorem zda (r : Int) (lg ws : List Entry) (h1 : lg.length ≤ 1000000) (h2 : ws.length ≤ 1000000) (hf1 : zbT lg) (hf2 : zbT ws) : zg Tryz.prog 139 [.agg (zae r lg ws)] [] (.agg [.int .i64 r, .arr 0 lg.length, .arr 1 ws.length])
    [.arr lg.length true false 32 5 (lg.map cE),.arr ws.length true false 32 5 (ws.map cE)]:=by
  refine zg.of_walk Tryz.func139 Tryz.ntmps139 zlg zlh (by simp) fun x hx=>?_
  simp only [go_sem,zqs,zqt,zae]
  refine za6 (r := .arr 2 lg.length) (zar lg h1 hf1) rfl rfl (by simp [go_sem]) rfl ?_
  simp only [go_sem,zae]
  refine za6 (r := .arr 3 ws.length) (zar ws h2 hf2) rfl rfl (by simp [go_sem]) rfl ?_
  simp only [go_sem,zae]
  repeat refine ⟨rfl,?_⟩
  refine zG [2,3] (by simp) (by simp [hx]) (by simp [hx]) ?_ ?_
  · simp [go_sem,zqs,zqt,hx,pos]
  · simp [zc,zd,hx,pos,go_sem]
theorem zey (r:Int) (lg ws:List Entry) (h1:lg.length≤1000000) (h2:ws.length≤1000000) (hf1:zbT lg) (hf2:zbT ws):zg Tryz.prog 139 [.agg (zae r lg ws)] [] (.agg (cSi r lg ws)) []:=by
 refine zg.of_walk Tryz.func139 Tryz.ntmps139 zlg zlh (by simp) fun x hx=>?_
 simp only [go_sem,zqs,zqt,zae]
 refine za6 (r := .arr 2 lg.length) (zar lg h1 hf1) rfl rfl (by simp [go_sem]) rfl ?_
 simp only [go_sem,zae]
 refine za6 (r := .arr 3 ws.length) (zar ws h2 hf2) rfl rfl (by simp [go_sem]) rfl ?_
 simp only [go_sem,zae]
 repeat refine ⟨rfl,?_⟩
 refine zt (zx 2 rfl) ?_
 refine zt (zx 3 rfl) ?_
 refine zb hx ?_
 simp [go_sem,zqs,zqt,cSi,zu,pos]
def zac (r:Int) (lg ws:List Entry) (k:Nat):Bool:=(decide (0 < k) && !zP (nth ws (k - 1)).id (nth ws k).id) || decide ((nth ws k).id.r=r) || decide (0≤zz lg (nth ws k).id) || zV lg (nth ws k)
def zR (r:Int) (lg ws:List Entry) (k:Nat):Int:=if zl (nth ws k)≠0 then zl (nth ws k) else if zac r lg ws k=true then 4 else 0
def zL (r:Int) (lg ws:List Entry):Int:=if ¬ (r=0∨r=1) then 3 else if z8 lg≠0 then z8 lg else if 20 < ws.length then 2 else zw (zR r lg ws) ws.length
theorem zdw {r:Int} {lg ws:List Entry} (h:zL r lg ws=0):(r=0∨r=1)∧LogOk lg∧ws.length≤20∧∀ k,k < ws.length→zl (nth ws k)=0∧zac r lg ws k=false:=by
 unfold zL at h
 split at h
 ·
  cases h
 ·
  rename_i h1
  split at h
  ·
   rename_i h2; exact (h2 h).elim
  ·
   rename_i h2
   split at h
   ·
    cases h
   ·
    rename_i h3
    refine ⟨by omega,zaQ.1 (by simpa using h2),by omega,fun k hk=>?_⟩
    have:=ZY.1 h k hk
    unfold zR at this
    split at this
    ·
     rename_i h4; exact (h4 this).elim
    ·
     rename_i h4
     split at this
     ·
      cases this
     ·
      rename_i h5
      exact ⟨by simpa using h4,by simpa using h5⟩
theorem Zg {e:Entry} (h:zl e=0):(e.id.r=0∨e.id.r=1)∧e.ls.length≤1000000:=by
 have:=(Zd h).2.2.2.1
 exact ⟨zaz h,by omega⟩
theorem zdb {lg:List Entry} (h:LogOk lg):zbT lg:=fun e he=>by
 obtain ⟨k,hk,rfl⟩:=List.getElem_of_mem he
 rw [← zy _ _ hk]
 exact Zg (h.chk k hk)
theorem zez {ws:List Entry} (h:∀ k,k < ws.length→zl (nth ws k)=0):zbT ws:=fun e he=>by
 obtain ⟨k,hk,rfl⟩:=List.getElem_of_mem he
 rw [← zy _ _ hk]
 exact Zg (h k hk)
theorem zkI (r:Int):zg Tryz.prog 53 [.int .i64 r] [] (.tup [.agg (if r=0∨r=1 then cSi r [] [] else cSi 0 [] []),.int .i64 (if r=0∨r=1 then 0 else 3)]) []:=by
 refine zg.of_walk Tryz.func53 Tryz.ntmps53 zyg zyh (by simp) fun x hx=>?_
 by_cases h0:r=0
 ·
  subst h0
  simp only [go_sem,L53,R53]
  refine zb hx ?_
  simp [go_sem,L53,R53,cSi]
 ·
  by_cases h1:r=1
  ·
   subst h1
   simp only [go_sem,L53,R53,zq,Int.reduceLT,Int.reduceLE,Int.reduceToNat,Int.reduceAdd,frz]
   refine zb hx ?_
   simp [go_sem,L53,R53,cSi]
  ·
   simp only [go_sem,L53,R53,h0,h1]
   refine zb hx ?_
   simp [go_sem,L53,R53,cSi,h0,h1]
theorem zaN (r:Int) (lg ws:List Entry) (hl:lg.length≤9223372036854775806) (hw:ws.length≤9223372036854775806):zg Tryz.prog 54 [.agg (cSi r lg ws)] [] (.int .i64 (zL r lg ws)) []:=by
 refine zg.of_walk Tryz.func54 Tryz.ntmps54 zyi zyj (by simp) fun x hx=>?_
 simp only [go_sem,L54,R54,cSi]
 by_cases h0:r=0
 ·
  have hr:r=0∨r=1 := .inl h0
  have hd0:decide (r=0)=true:=by simp [h0]
  have hd1:True:=trivial
  clear h0
  simp only [go_sem,hd0,hd1,cSi]
  refine za (.pureE (zcl lg hl) (by simp [go_sem])) ?_
  by_cases hlog:z8 lg=0
  ·
   have hok:=zaQ.1 hlog
   have hlen:=hok.len
   by_cases h20:(20:Int) < (ws.length:Int)
   ·
    have e:zL r lg ws=2:=by rw [zL,if_neg (by simp [hr]),if_neg (by simp [hlog]),if_pos (by omega)]
    simp only [go_sem,hlog,h20,cSi]
    refine zb hx ?_
    simp [go_sem,L54,R54,e]
   ·
    have e:zL r lg ws=zw (zR r lg ws) ws.length:=by rw [zL,if_neg (by simp [hr]),if_neg (by simp [hlog]),if_neg (by omega)]
    simp only [go_sem,hlog,h20,cSi,e]
    refine zr [1,26,27,28] 1 (fun m st=>∃ k:Nat,k + m=ws.length∧zw (zR r lg ws) k=0 ∧
     st=⟨mkE .top [(1,.ptr 0 0),(26,.list (ws.map cE)),(27,.int .i64 ws.length),(28,.int .i64 k)],[.box (cSi r lg ws)]⟩) ws.length (by simp [hx]) (by simp) ?_ ?_
    ·
     refine ⟨0,by omega,rfl,?_⟩
     simp [zi,go_sem,zc,zd,pos,List.range_succ,cSi]
    ·
     rintro m st ⟨k,hk,hz,rfl⟩
     by_cases hlt:k < ws.length
     ·
      have hg:ws[k]? = some (nth ws k):=zk _ _ hlt
      have wk:=zD (k:=k) (by omega)
      have fin:∀ q:Int,zR r lg ws k=q→q≠0→zw (zR r lg ws) ws.length=q:=fun q h1 h2=>by rw [zZ hz (by rw [h1]; exact h2) hlt,h1]
      simp only [go_sem,hlt,hg,cE,cSi]
      refine za (.pureE (zaU (nth ws k)) (by simp [go_sem,cE])) ?_
      by_cases h1:zl (nth ws k)=0
      ·
       have hfit:=Zg h1
       have hw1:zR r lg ws k=if zac r lg ws k=true then 4 else 0:=by rw [zR,if_neg (by simp [h1])]
       simp only [go_sem,h1,cE,cSi]
       by_cases hk0:(0:Int) < (k:Int)
       ·
        obtain ⟨k',rfl⟩:∃ k',k=k' + 1:=⟨k - 1,by omega⟩
        have hwd:IntKind.i64.wrap (((k' + 1:Nat):Int) - 1)=(k':Int):=by rw [IntKind.wrap_i64]; omega
        have hkl:k' < ws.length:=by omega
        have hg':ws[k']? = some (nth ws k'):=zk _ _ hkl
        simp only [go_sem,hk0,hwd,hkl,hg',cE,cSi]
        refine za (.pureE (zhh (nth ws k').id (nth ws (k' + 1)).id) (by simp [go_sem,cId])) ?_
        cases hle:zP (nth ws k').id (nth ws (k' + 1)).id
        ·
         have hw2:zR r lg ws (k' + 1)=4:=by rw [hw1,if_pos (by simp [zac,hle])]
         simp only [go_sem]
         repeat refine ⟨rfl,?_⟩
         refine zb hx ?_
         simp [go_sem,L54,R54,fin 4 hw2 (by decide)]
        ·
         have hb1:(decide (0 < k' + 1) && !zP (nth ws (k' + 1 - 1)).id (nth ws (k' + 1)).id)=false:=by simp [hle]
         cases hd2:decide ((nth ws (k' + 1)).id.r=r)
         ·
          simp only [go_sem,hd2,cE,cSi]
          refine za (.pureE (ZN lg (nth ws (k' + 1)).id hl) (by simp [go_sem,cId])) ?_
          by_cases h3:0≤zz lg (nth ws (k' + 1)).id
          ·
           have hw2:zR r lg ws (k' + 1)=4:=by rw [hw1,if_pos (by simp [zac,h3])]
           simp only [go_sem,h3]
           repeat refine ⟨rfl,?_⟩
           refine zb hx ?_
           simp [go_sem,L54,R54,fin 4 hw2 (by decide)]
          ·
           simp only [go_sem,h3,cE,cSi]
           refine za (.pureE (zaV lg (nth ws (k' + 1)) hok.reg (by omega) hfit.1 (by have:=hfit.2; omega)) (by simp [go_sem,cE])) ?_
           cases h4:zV lg (nth ws (k' + 1))
           ·
            have hw2:zR r lg ws (k' + 1)=0:=by rw [hw1,if_neg (by rw [zac,hb1,hd2,h4]; simp [h3])]
            simp only [go_sem,wk]
            repeat refine ⟨rfl,?_⟩
            refine ⟨by simp,m - 1,by omega,k' + 1 + 1,by omega,zQ hz hw2,?_⟩
            simp [zi,go_sem,zc,zd,pos,List.range_succ,cSi]
           ·
            have hw2:zR r lg ws (k' + 1)=4:=by rw [hw1,if_pos (by simp [zac,h4])]
            simp only [go_sem]
            repeat refine ⟨rfl,?_⟩
            refine zb hx ?_
            simp [go_sem,L54,R54,fin 4 hw2 (by decide)]
         ·
          have hw2:zR r lg ws (k' + 1)=4:=by rw [hw1,if_pos (by simp [zac,hd2])]
          simp only [go_sem,hd2]
          repeat refine ⟨rfl,?_⟩
          refine zb hx ?_
          simp [go_sem,L54,R54,fin 4 hw2 (by decide)]
       ·
        have hkz:k=0:=by omega
        have hb1:(decide (0 < k) && !zP (nth ws (k - 1)).id (nth ws k).id)=false:=by simp [hkz]
        simp only [go_sem,hk0,cE,cSi]
        cases hd2:decide ((nth ws (k)).id.r=r)
        ·
         simp only [go_sem,hd2,cE,cSi]
         refine za (.pureE (ZN lg (nth ws (k)).id hl) (by simp [go_sem,cId])) ?_
         by_cases h3:0≤zz lg (nth ws (k)).id
         ·
          have hw2:zR r lg ws (k)=4:=by rw [hw1,if_pos (by simp [zac,h3])]
          simp only [go_sem,h3]
          repeat refine ⟨rfl,?_⟩
          refine zb hx ?_
          simp [go_sem,L54,R54,fin 4 hw2 (by decide)]
         ·
          simp only [go_sem,h3,cE,cSi]
          refine za (.pureE (zaV lg (nth ws (k)) hok.reg (by omega) hfit.1 (by have:=hfit.2; omega)) (by simp [go_sem,cE])) ?_
          cases h4:zV lg (nth ws (k))
          ·
           have hw2:zR r lg ws (k)=0:=by rw [hw1,if_neg (by rw [zac,hb1,hd2,h4]; simp [h3])]
           simp only [go_sem,wk]
           repeat refine ⟨rfl,?_⟩
           refine ⟨by simp,m - 1,by omega,k + 1,by omega,zQ hz hw2,?_⟩
           simp [zi,go_sem,zc,zd,pos,List.range_succ,cSi]
          ·
           have hw2:zR r lg ws (k)=4:=by rw [hw1,if_pos (by simp [zac,h4])]
           simp only [go_sem]
           repeat refine ⟨rfl,?_⟩
           refine zb hx ?_
           simp [go_sem,L54,R54,fin 4 hw2 (by decide)]
        ·
         have hw2:zR r lg ws (k)=4:=by rw [hw1,if_pos (by simp [zac,hd2])]
         simp only [go_sem,hd2]
         repeat refine ⟨rfl,?_⟩
         refine zb hx ?_
         simp [go_sem,L54,R54,fin 4 hw2 (by decide)]
      ·
       have hw1:zR r lg ws k=zl (nth ws k):=by rw [zR,if_pos h1]
       simp only [go_sem,h1,cE,cSi]
       refine zb hx ?_
       simp [go_sem,L54,R54,fin _ hw1 h1]
     ·
      obtain rfl:k=ws.length:=by omega
      simp only [go_sem,hlt]
      refine zb hx ?_
      simp [go_sem,L54,R54,hz]
  ·
   have e:zL r lg ws=z8 lg:=by rw [zL,if_neg (by simp [hr]),if_pos hlog]
   simp only [go_sem,hlog]
   refine zb hx ?_
   simp [go_sem,L54,R54,e]
 ·
  have hd0:decide (r=0)=false:=by simp [h0]
  by_cases h1:r=1
  ·
   have hr:r=0∨r=1 := .inr h1
   have hd1:decide (r=1)=true:=by simp [h1]
   clear h0 h1
   simp only [go_sem,hd0,hd1,cSi]
   refine za (.pureE (zcl lg hl) (by simp [go_sem])) ?_
   by_cases hlog:z8 lg=0
   ·
    have hok:=zaQ.1 hlog
    have hlen:=hok.len
    by_cases h20:(20:Int) < (ws.length:Int)
    ·
     have e:zL r lg ws=2:=by rw [zL,if_neg (by simp [hr]),if_neg (by simp [hlog]),if_pos (by omega)]
     simp only [go_sem,hlog,h20,cSi]
     refine zb hx ?_
     simp [go_sem,L54,R54,e]
    ·
     have e:zL r lg ws=zw (zR r lg ws) ws.length:=by rw [zL,if_neg (by simp [hr]),if_neg (by simp [hlog]),if_neg (by omega)]
     simp only [go_sem,hlog,h20,cSi,e]
     refine zr [1,26,27,28] 1 (fun m st=>∃ k:Nat,k + m=ws.length∧zw (zR r lg ws) k=0 ∧
      st=⟨mkE .top [(1,.ptr 0 0),(26,.list (ws.map cE)),(27,.int .i64 ws.length),(28,.int .i64 k)],[.box (cSi r lg ws)]⟩) ws.length (by simp [hx]) (by simp) ?_ ?_
     ·
      refine ⟨0,by omega,rfl,?_⟩
      simp [zi,go_sem,zc,zd,pos,List.range_succ,cSi]
     ·
      rintro m st ⟨k,hk,hz,rfl⟩
      by_cases hlt:k < ws.length
      ·
       have hg:ws[k]? = some (nth ws k):=zk _ _ hlt
       have wk:=zD (k:=k) (by omega)
       have fin:∀ q:Int,zR r lg ws k=q→q≠0→zw (zR r lg ws) ws.length=q:=fun q h1 h2=>by rw [zZ hz (by rw [h1]; exact h2) hlt,h1]
       simp only [go_sem,hlt,hg,cE,cSi]
       refine za (.pureE (zaU (nth ws k)) (by simp [go_sem,cE])) ?_
       by_cases h1:zl (nth ws k)=0
       ·
        have hfit:=Zg h1
        have hw1:zR r lg ws k=if zac r lg ws k=true then 4 else 0:=by rw [zR,if_neg (by simp [h1])]
        simp only [go_sem,h1,cE,cSi]
        by_cases hk0:(0:Int) < (k:Int)
        ·
         obtain ⟨k',rfl⟩:∃ k',k=k' + 1:=⟨k - 1,by omega⟩
         have hwd:IntKind.i64.wrap (((k' + 1:Nat):Int) - 1)=(k':Int):=by rw [IntKind.wrap_i64]; omega
         have hkl:k' < ws.length:=by omega
         have hg':ws[k']? = some (nth ws k'):=zk _ _ hkl
         simp only [go_sem,hk0,hwd,hkl,hg',cE,cSi]
         refine za (.pureE (zhh (nth ws k').id (nth ws (k' + 1)).id) (by simp [go_sem,cId])) ?_
         cases hle:zP (nth ws k').id (nth ws (k' + 1)).id
         ·
          have hw2:zR r lg ws (k' + 1)=4:=by rw [hw1,if_pos (by simp [zac,hle])]
          simp only [go_sem]
          repeat refine ⟨rfl,?_⟩
          refine zb hx ?_
          simp [go_sem,L54,R54,fin 4 hw2 (by decide)]
         ·
          have hb1:(decide (0 < k' + 1) && !zP (nth ws (k' + 1 - 1)).id (nth ws (k' + 1)).id)=false:=by simp [hle]
          cases hd2:decide ((nth ws (k' + 1)).id.r=r)
          ·
           simp only [go_sem,hd2,cE,cSi]
           refine za (.pureE (ZN lg (nth ws (k' + 1)).id hl) (by simp [go_sem,cId])) ?_
           by_cases h3:0≤zz lg (nth ws (k' + 1)).id
           ·
            have hw2:zR r lg ws (k' + 1)=4:=by rw [hw1,if_pos (by simp [zac,h3])]
            simp only [go_sem,h3]
            repeat refine ⟨rfl,?_⟩
            refine zb hx ?_
            simp [go_sem,L54,R54,fin 4 hw2 (by decide)]
           ·
            simp only [go_sem,h3,cE,cSi]
            refine za (.pureE (zaV lg (nth ws (k' + 1)) hok.reg (by omega) hfit.1 (by have:=hfit.2; omega)) (by simp [go_sem,cE])) ?_
            cases h4:zV lg (nth ws (k' + 1))
            ·
             have hw2:zR r lg ws (k' + 1)=0:=by rw [hw1,if_neg (by rw [zac,hb1,hd2,h4]; simp [h3])]
             simp only [go_sem,wk]
             repeat refine ⟨rfl,?_⟩
             refine ⟨by simp,m - 1,by omega,k' + 1 + 1,by omega,zQ hz hw2,?_⟩
             simp [zi,go_sem,zc,zd,pos,List.range_succ,cSi]
            ·
             have hw2:zR r lg ws (k' + 1)=4:=by rw [hw1,if_pos (by simp [zac,h4])]
             simp only [go_sem]
             repeat refine ⟨rfl,?_⟩
             refine zb hx ?_
             simp [go_sem,L54,R54,fin 4 hw2 (by decide)]
          ·
           have hw2:zR r lg ws (k' + 1)=4:=by rw [hw1,if_pos (by simp [zac,hd2])]
           simp only [go_sem,hd2]
           repeat refine ⟨rfl,?_⟩
           refine zb hx ?_
           simp [go_sem,L54,R54,fin 4 hw2 (by decide)]
        ·
         have hkz:k=0:=by omega
         have hb1:(decide (0 < k) && !zP (nth ws (k - 1)).id (nth ws k).id)=false:=by simp [hkz]
         simp only [go_sem,hk0,cE,cSi]
         cases hd2:decide ((nth ws (k)).id.r=r)
         ·
          simp only [go_sem,hd2,cE,cSi]
          refine za (.pureE (ZN lg (nth ws (k)).id hl) (by simp [go_sem,cId])) ?_
          by_cases h3:0≤zz lg (nth ws (k)).id
          ·
           have hw2:zR r lg ws (k)=4:=by rw [hw1,if_pos (by simp [zac,h3])]
           simp only [go_sem,h3]
           repeat refine ⟨rfl,?_⟩
           refine zb hx ?_
           simp [go_sem,L54,R54,fin 4 hw2 (by decide)]
          ·
           simp only [go_sem,h3,cE,cSi]
           refine za (.pureE (zaV lg (nth ws (k)) hok.reg (by omega) hfit.1 (by have:=hfit.2; omega)) (by simp [go_sem,cE])) ?_
           cases h4:zV lg (nth ws (k))
           ·
            have hw2:zR r lg ws (k)=0:=by rw [hw1,if_neg (by rw [zac,hb1,hd2,h4]; simp [h3])]
            simp only [go_sem,wk]
            repeat refine ⟨rfl,?_⟩
            refine ⟨by simp,m - 1,by omega,k + 1,by omega,zQ hz hw2,?_⟩
            simp [zi,go_sem,zc,zd,pos,List.range_succ,cSi]
           ·
            have hw2:zR r lg ws (k)=4:=by rw [hw1,if_pos (by simp [zac,h4])]
            simp only [go_sem]
            repeat refine ⟨rfl,?_⟩
            refine zb hx ?_
            simp [go_sem,L54,R54,fin 4 hw2 (by decide)]
         ·
          have hw2:zR r lg ws (k)=4:=by rw [hw1,if_pos (by simp [zac,hd2])]
          simp only [go_sem,hd2]
          repeat refine ⟨rfl,?_⟩
          refine zb hx ?_
          simp [go_sem,L54,R54,fin 4 hw2 (by decide)]
       ·
        have hw1:zR r lg ws k=zl (nth ws k):=by rw [zR,if_pos h1]
        simp only [go_sem,h1,cE,cSi]
        refine zb hx ?_
        simp [go_sem,L54,R54,fin _ hw1 h1]
      ·
       obtain rfl:k=ws.length:=by omega
       simp only [go_sem,hlt]
       refine zb hx ?_
       simp [go_sem,L54,R54,hz]
   ·
    have e:zL r lg ws=z8 lg:=by rw [zL,if_neg (by simp [hr]),if_pos hlog]
    simp only [go_sem,hlog]
    refine zb hx ?_
    simp [go_sem,L54,R54,e]
  ·
   have hd1:decide (r=1)=false:=by simp [h1]
   have e:zL r lg ws=3:=by rw [zL,if_pos (by omega)]
   simp only [go_sem,hd0,hd1,cSi]
   refine zb hx ?_
   simp [go_sem,L54,R54,e]
def apE (r:Int) (lg:List Entry) (c:Int) (t:ByteArray):Entry:=⟨⟨r,(ZB lg r:Int) + 1⟩,c,t,Zv (Za lg c)⟩
def zE:Entry:=⟨⟨0,0⟩,0,⟨#[]⟩,[]⟩
def zO (r:Int) (lg:List Entry) (c:Int) (t:ByteArray):Int :=
 if ZX c 1 7=false then 3 else if 12 < t.size∨(20:Int) < (ZB lg r:Int) + 1∨lg.length=40∨6 < (Zv (Za lg c)).length then 2 else 0
def zbq (r:Int) (lg ws:List Entry) (c:Int) (t:ByteArray):Int × List Entry × List Entry:=if zO r lg c t=0 then (r,zv (lg ++ [apE r lg c t]) ws) else (0,[],[])
def zbr (r:Int) (lg:List Entry) (c:Int) (t:ByteArray):Entry:=if zO r lg c t=0 then apE r lg c t else zE
def zp (s:Int × List Entry × List Entry):List PV:=cSi s.1 s.2.1 s.2.2
theorem zmu (lg:List Entry) (c:Int):(Zv (Za lg c)).length≤lg.length:=by
 unfold Zv Za
 rw [List.length_mergeSort,List.length_map]
 refine Nat.le_trans (List.length_filter_le ..) ?_
 unfold Zj
 exact List.length_filter_le ..
theorem zdc {r:Int} {lg:List Entry} {c:Int} {t:ByteArray} (hr:r=0∨r=1) (h:lg.length≤40):((apE r lg c t).id.r=0∨(apE r lg c t).id.r=1)∧(apE r lg c t).ls.length≤1000000:=by
 have:=zmu lg c
 exact ⟨hr,by show (Zv (Za lg c)).length≤_; omega⟩
theorem zgY (r : Int) (lg ws : List Entry) (c : Int) (t : ByteArray) (hr : r = 0 ∨ r = 1) (h : LogOk lg) (hw : ws.length ≤ 20) (hf : zbT ws) :
    zg Tryz.prog 72 [.agg (cSi r lg ws),.int .i64 c,.str t] [] (.tup [.agg (zp (zbq r lg ws c t)),.agg (cE (zbr r lg c t)),.int .i64 (zO r lg c t)]) []:=by
  have hlen:=h.len
  refine zg.of_walk Tryz.func72 Tryz.ntmps72 zuc zud (by simp) fun x hx=>?_
  simp only [go_sem,L72,R72,cSi]
  refine za (.pureE (za8 c) (by simp [go_sem])) ?_
  cases hc:ZX c 1 7
  · have e:zO r lg c t=3:=by rw [zO,if_pos hc]
    simp only [go_sem]
    refine zb hx ?_
    simp [go_sem,L72,R72,zbq,zbr,e,zp,cSi,cE,zE]
  · have e0:zO r lg c t=if 12 < t.size∨(20:Int) < (ZB lg r:Int) + 1∨lg.length=40∨6 < (Zv (Za lg c)).length then 2 else 0:=by rw [zO,if_neg (by simp [hc])]
    rcases hr with rfl | rfl
    · skip
      have hcn:IntKind.i64.wrap ((ZB lg 0:Int) + 1)=(ZB lg 0:Int) + 1:=by have:=zbm lg 0; rw [IntWalk.i64_in _ (by omega)]
      simp only [go_sem,cSi]
      refine za (.pureE (zcw lg h.reg (by omega)) (by simp [go_sem])) ?_
      simp only [go_sem,cSi,zq,Int.reduceLT,Int.reduceLE,Int.reduceToNat,Int.reduceAdd,frz,hcn]
      repeat refine ⟨rfl,?_⟩
      refine za (.pureE (zjr lg c h hc) (by simp [go_sem])) ?_
      simp only [go_sem,cSi]
      repeat refine ⟨rfl,?_⟩
      by_cases d1:(12:Int) < (t.size:Int)
      · have e:zO 0 lg c t=2:=by rw [e0,if_pos (by omega)]
        simp only [go_sem,d1]
        refine zb hx ?_
        simp [go_sem,L72,R72,zbq,zbr,e,zp,cSi,cE,zE]
      · by_cases d2:(20:Int) < (ZB lg 0:Int) + 1
        · have e:zO 0 lg c t=2:=by rw [e0,if_pos (by omega)]
          simp only [go_sem,d1,d2]
          refine zb hx ?_
          simp [go_sem,L72,R72,zbq,zbr,e,zp,cSi,cE,zE]
        · by_cases d3:(lg.length:Int)=40
          · have e:zO 0 lg c t=2:=by rw [e0,if_pos (by omega)]
            simp only [go_sem,d1,d2,d3,cSi]
            refine zb hx ?_
            simp [go_sem,L72,R72,zbq,zbr,e,zp,cSi,cE,zE]
          · by_cases d4:(6:Int) < ((Zv (Za lg c)).length:Int)
            · have e:zO 0 lg c t=2:=by rw [e0,if_pos (by omega)]
              simp only [go_sem,d1,d2,d3,d4,cSi]
              refine zb hx ?_
              simp [go_sem,L72,R72,zbq,zbr,e,zp,cSi,cE,zE]
            · have e:zO 0 lg c t=0:=by rw [e0,if_neg (by omega)]
              have hfl:=zdb h
              have hae:zbT (lg ++ [apE 0 lg c t]):=zc9 hfl (zdc (by decide) hlen)
              have hsl:=zbU (lg ++ [apE 0 lg c t]) ws
              rw [List.length_append,List.length_cons,List.length_nil] at hsl
              simp only [go_sem,d1,d2,d3,d4,cSi]
              refine za (.heapE [] (r' := .agg [.int .i64 0,.arr 4 lg.length,.arr 5 ws.length]) (H' := [.box (cSi 0 lg ws),.box [.int .i64 0,.nilsl,.nilsl],.box [.int .i64 0,.int .i64 0,.int .i64 0,.str ⟨#[]⟩,.nilsl],.box (cE (apE 0 lg c t)),.arr lg.length true false 32 5 (lg.map cE),.arr ws.length true false 32 5 (ws.map cE)]) (zd3 0 lg ws (by omega) (by omega) hfl hf) (by simp) (by simp) (by simp [go_sem,cSi]) rfl rfl rfl) ?_
              simp only [go_sem,cSi,cE]
              rw [zB rfl rfl (by simp) (by simp; omega)]
              have hce:List.map cE lg ++ [[PV.int .i64 (apE 0 lg c t).id.r,.int .i64 (apE 0 lg c t).id.n,.int .i64 (apE 0 lg c t).c,.str (apE 0 lg c t).t,.list ((apE 0 lg c t).ls.map cId)]]=(lg ++ [apE 0 lg c t]).map cE:=by simp [cE]
              simp only [go_sem,hce]
              repeat refine ⟨rfl,?_⟩
              have hst:=zaA (lg.length + 1) ws.length 0 (lg ++ [apE 0 lg c t]) ws (by simp; omega) hae hf
              generalize ws.length - (zv (lg ++ [apE 0 lg c t]) ws).2.length=k at hst
              refine za (.heapE [6,4,5] (r' := .tup []) (H' := [.box (cSi 0 lg ws),.box [.int .i64 0,.nilsl,.nilsl],.box [.int .i64 0,.int .i64 0,.int .i64 0,.str ⟨#[]⟩,.nilsl],.box (cE (apE 0 lg c t)),.arr (lg.length + 1 + k) true false 32 5 ((zv (lg ++ [apE 0 lg c t]) ws).1.map cE),.arr (ws.length + k) true false 32 5 ((zv (lg ++ [apE 0 lg c t]) ws).2.map cE),.box [.int .i64 0,.arr 4 (lg.length + 1 + k),.arr 5 (ws.length + k)]]) hst (by decide) (by simp) (by simp [go_sem,pos]) rfl rfl rfl) ?_
              simp only [go_sem,cSi,cE]
              refine za (.pureE (Zy (apE 0 lg c t) (zdc (by decide) hlen).2) (by simp [go_sem,cE])) ?_
              simp only [go_sem,cSi,cE]
              repeat refine ⟨rfl,?_⟩
              refine zb hx ?_
              simp [go_sem,L72,R72,zbq,zbr,e,zp,cSi,cE,zu,pos]
    · skip
      have hcn:IntKind.i64.wrap ((ZB lg 1:Int) + 1)=(ZB lg 1:Int) + 1:=by have:=zbm lg 1; rw [IntWalk.i64_in _ (by omega)]
      simp only [go_sem,cSi]
      refine za (.pureE (zcw lg h.reg (by omega)) (by simp [go_sem])) ?_
      simp only [go_sem,cSi,zq,Int.reduceLT,Int.reduceLE,Int.reduceToNat,Int.reduceAdd,frz,hcn]
      repeat refine ⟨rfl,?_⟩
      refine za (.pureE (zjr lg c h hc) (by simp [go_sem])) ?_
      simp only [go_sem,cSi]
      repeat refine ⟨rfl,?_⟩
      by_cases d1:(12:Int) < (t.size:Int)
      · have e:zO 1 lg c t=2:=by rw [e0,if_pos (by omega)]
        simp only [go_sem,d1]
        refine zb hx ?_
        simp [go_sem,L72,R72,zbq,zbr,e,zp,cSi,cE,zE]
      · by_cases d2:(20:Int) < (ZB lg 1:Int) + 1
        · have e:zO 1 lg c t=2:=by rw [e0,if_pos (by omega)]
          simp only [go_sem,d1,d2]
          refine zb hx ?_
          simp [go_sem,L72,R72,zbq,zbr,e,zp,cSi,cE,zE]
        · by_cases d3:(lg.length:Int)=40
          · have e:zO 1 lg c t=2:=by rw [e0,if_pos (by omega)]
            simp only [go_sem,d1,d2,d3,cSi]
            refine zb hx ?_
            simp [go_sem,L72,R72,zbq,zbr,e,zp,cSi,cE,zE]
          · by_cases d4:(6:Int) < ((Zv (Za lg c)).length:Int)
            · have e:zO 1 lg c t=2:=by rw [e0,if_pos (by omega)]
              simp only [go_sem,d1,d2,d3,d4,cSi]
              refine zb hx ?_
              simp [go_sem,L72,R72,zbq,zbr,e,zp,cSi,cE,zE]
            · have e:zO 1 lg c t=0:=by rw [e0,if_neg (by omega)]
              have hfl:=zdb h
              have hae:zbT (lg ++ [apE 1 lg c t]):=zc9 hfl (zdc (by decide) hlen)
              have hsl:=zbU (lg ++ [apE 1 lg c t]) ws
              rw [List.length_append,List.length_cons,List.length_nil] at hsl
              simp only [go_sem,d1,d2,d3,d4,cSi]
              refine za (.heapE [] (r' := .agg [.int .i64 1,.arr 4 lg.length,.arr 5 ws.length]) (H' := [.box (cSi 1 lg ws),.box [.int .i64 0,.nilsl,.nilsl],.box [.int .i64 0,.int .i64 0,.int .i64 0,.str ⟨#[]⟩,.nilsl],.box (cE (apE 1 lg c t)),.arr lg.length true false 32 5 (lg.map cE),.arr ws.length true false 32 5 (ws.map cE)]) (zd3 1 lg ws (by omega) (by omega) hfl hf) (by simp) (by simp) (by simp [go_sem,cSi]) rfl rfl rfl) ?_
              simp only [go_sem,cSi,cE]
              rw [zB rfl rfl (by simp) (by simp; omega)]
              have hce:List.map cE lg ++ [[PV.int .i64 (apE 1 lg c t).id.r,.int .i64 (apE 1 lg c t).id.n,.int .i64 (apE 1 lg c t).c,.str (apE 1 lg c t).t,.list ((apE 1 lg c t).ls.map cId)]]=(lg ++ [apE 1 lg c t]).map cE:=by simp [cE]
              simp only [go_sem,hce]
              repeat refine ⟨rfl,?_⟩
              have hst:=zaA (lg.length + 1) ws.length 1 (lg ++ [apE 1 lg c t]) ws (by simp; omega) hae hf
              generalize ws.length - (zv (lg ++ [apE 1 lg c t]) ws).2.length=k at hst
              refine za (.heapE [6,4,5] (r' := .tup []) (H' := [.box (cSi 1 lg ws),.box [.int .i64 0,.nilsl,.nilsl],.box [.int .i64 0,.int .i64 0,.int .i64 0,.str ⟨#[]⟩,.nilsl],.box (cE (apE 1 lg c t)),.arr (lg.length + 1 + k) true false 32 5 ((zv (lg ++ [apE 1 lg c t]) ws).1.map cE),.arr (ws.length + k) true false 32 5 ((zv (lg ++ [apE 1 lg c t]) ws).2.map cE),.box [.int .i64 1,.arr 4 (lg.length + 1 + k),.arr 5 (ws.length + k)]]) hst (by decide) (by simp) (by simp [go_sem,pos]) rfl rfl rfl) ?_
              simp only [go_sem,cSi,cE]
              refine za (.pureE (Zy (apE 1 lg c t) (zdc (by decide) hlen).2) (by simp [go_sem,cE])) ?_
              simp only [go_sem,cSi,cE]
              repeat refine ⟨rfl,?_⟩
              refine zb hx ?_
              simp [go_sem,L72,R72,zbq,zbr,e,zp,cSi,cE,zu,pos]
def zcd (r:Int) (lg ws:List Entry) (c:Int) (t:ByteArray):Int:=if zL r lg ws≠0 then zL r lg ws else zO r lg c t
def zdd (r:Int) (lg ws:List Entry) (c:Int) (t:ByteArray):Int × List Entry × List Entry:=if zL r lg ws≠0 then (0,[],[]) else zbq r lg ws c t
def zde (r:Int) (lg ws:List Entry) (c:Int) (t:ByteArray):Entry:=if zL r lg ws≠0 then zE else zbr r lg c t
theorem za0 (r : Int) (lg ws : List Entry) (c : Int) (t : ByteArray) (hl : lg.length ≤ 9223372036854775806) (hw : ws.length ≤ 9223372036854775806) :
    zg Tryz.prog 16 [.agg (cSi r lg ws),.int .i64 c,.str t] [] (.tup [.agg (zp (zdd r lg ws c t)),.agg (cE (zde r lg ws c t)),.int .i64 (zcd r lg ws c t)]) []:=by
  refine zg.of_walk Tryz.func16 Tryz.ntmps16 zt0 zt1 (by simp) fun x hx=>?_
  simp only [go_sem,L16,R16,cSi]
  refine za (.pureE (zaN r lg ws hl hw) (by simp [go_sem,cSi])) ?_
  by_cases h0:zL r lg ws=0
  · obtain ⟨hr,hok,hw20,hch⟩:=zdw h0
    simp only [go_sem,h0,cSi]
    refine za (.pureE (zgY r lg ws c t hr hok hw20 (zez fun k hk=>(hch k hk).1)) (by simp [go_sem,cSi])) ?_
    simp only [go_sem,zp,cSi,cE]
    refine zb hx ?_
    simp [go_sem,L16,R16,zdd,zde,zcd,h0,zp,cSi,cE]
  · simp only [go_sem,h0,cSi]
    refine zb hx ?_
    simp [go_sem,L16,R16,zdd,zde,zcd,h0,zp,cSi,cE,zE]
theorem zbV (a:Id):zP a a=false:=by simp [zP]
theorem zmv {a b:Id} (h:zP a b=true):zP b a=false:=by
 rw [← Bool.not_eq_true]
 intro h2
 have:=zab h h2
 rw [zbV] at this; cases this
theorem zol {a b:Id} (h1:zP a b=false) (h2:zP b a=false):a=b:=by
 simp only [zP,decide_eq_false_iff_not] at *
 cases a; cases b
 simp only [Id.mk.injEq] at *
 omega
def upE (ws:List Entry):Prop:=∀ i j,i < j→j < ws.length→zP (nth ws i).id (nth ws j).id=true
theorem zwb {ws:List Entry} (h:∀ k,k + 1 < ws.length→zP (nth ws k).id (nth ws (k + 1)).id=true):upE ws:=by
 intro i j hij hj
 have key:∀ d,i + d + 1 < ws.length→zP (nth ws i).id (nth ws (i + d + 1)).id=true:=by
  intro d
  induction d with
  | zero=>intro hd; exact h i hd
  | succ d ih=>intro hd; exact zab (ih (by omega)) (h (i + d + 1) hd)
 have:=key (j - i - 1) (by omega)
 rwa [show i + (j - i - 1) + 1=j by omega] at this
theorem zh9 {r:Int} {lg ws:List Entry} (h:zL r lg ws=0):upE ws:=by
 obtain ⟨-,-,-,hc⟩:=zdw h
 refine zwb fun k hk=>?_
 have:=(hc (k + 1) hk).2
 unfold zac at this
 simp only [Bool.or_eq_false_iff,Nat.add_sub_cancel] at this
 have h2:=this.1.1.1
 simpa using h2
def zcQ (l:List Entry) (y:Id):Nat:=l.countP fun e=>zP e.id y
def zom (l:List Entry) (y:Id):Bool:=l.any fun e=>decide (e.id=y)
theorem zon {l:List Entry} {y:Id} {i:Nat} (hi:i≤l.length) (h1:∀ k,k < i→zP (nth l k).id y=true) (h2:∀ k,i≤k→k < l.length→zP (nth l k).id y=false):zcQ l y=i:=by
 unfold zcQ
 conv=>lhs; rw [← List.take_append_drop i l]
 rw [List.countP_append]
 have a:(l.take i).countP (fun e=>zP e.id y)=(l.take i).length:=by
  rw [List.countP_eq_length]
  intro w hw
  obtain ⟨k,hk,rfl⟩:=List.getElem_of_mem hw
  rw [List.length_take] at hk
  have:=h1 k (by omega)
  rw [zy _ _ (by omega)] at this
  simpa using this
 have b:(l.drop i).countP (fun e=>zP e.id y)=0:=by
  rw [List.countP_eq_zero]
  intro w hw
  obtain ⟨k,hk,rfl⟩:=List.getElem_of_mem hw
  rw [List.length_drop] at hk
  have:=h2 (i + k) (by omega) (by omega)
  rw [zy _ _ (by omega)] at this
  simpa using this
 rw [a,b,List.length_take]; omega
theorem zoo {l:List Entry} {y:Id} (hu:upE l) {i:Nat} (hi:i≤l.length) (h1:∀ k,k < i→zP (nth l k).id y=true) (h2:∀ k,i≤k→k < l.length→zP (nth l k).id y=false):zom l y=decide (i < l.length∧(nth l i).id=y):=by
 rw [Bool.eq_iff_iff,decide_eq_true_eq]
 unfold zom
 rw [List.any_eq_true]
 constructor
 ·
  rintro ⟨w,hw,hn⟩
  obtain ⟨k,hk,rfl⟩:=List.getElem_of_mem hw
  rw [← zy _ _ hk,decide_eq_true_eq] at hn
  by_cases h:k < i
  ·
   have:=h1 k h; rw [hn,zbV] at this; cases this
  ·
   by_cases e:k=i
   ·
    subst e; exact ⟨hk,hn⟩
   ·
    have a:=hu i k (by omega) hk
    have b:=h2 i (Nat.le_refl _) (by omega)
    rw [hn] at a; rw [a] at b; cases b
 ·
  rintro ⟨a,b⟩
  exact ⟨_,zcT a,by simpa using b⟩
theorem zbo (l:List Entry) (y:Id):zcQ l y≤l.length:=by unfold zcQ; exact List.countP_le_length
theorem zop {a b:Id}:zfe a b=0↔a=b:=by
 cases a; cases b
 simp only [zfe,zka,Id.mk.injEq]
 repeat' split
 all_goals omega
theorem zhv (e:Entry) (y:Id):zg Tryz.prog 145 [.agg (cE e),.agg (cId y)] [] (.int .i64 (zfe e.id y)) []:=by
 refine zg.of_walk Tryz.func145 Tryz.ntmps145 zu2 zu3 (by simp) fun x hx=>?_
 simp only [go_sem,zze,zzf,cE,cId]
 refine za (.pureE (zcC e.id y) (by simp [go_sem,cId])) ?_
 simp only [go_sem]
 refine zb hx ?_
 simp [go_sem,zze,zzf]
theorem zjy (l : List Entry) (y : Id) (hu : upE l) (hl : l.length ≤ 4611686018427387904) :
    zg Tryz.prog 144 [.list (l.map cE),.agg (cId y),.clo 145 []] [] (.tup [.int .i64 (zcQ l y),.bool (zom l y)]) []:=by
  refine zg.of_walk Tryz.func144 Tryz.ntmps144 zu0 zu1 (by simp) fun x hx=>?_
  simp only [go_sem,zxk,zxl]
  refine zr [0,2,4,8,9,10] 1 (fun g st=>∃ i j:Nat,i≤j∧j≤l.length∧j - i=g∧(∀ k,k < i→zP (nth l k).id y=true)∧(∀ k,j≤k→k < l.length→zP (nth l k).id y=false) ∧
    st=⟨mkE .top [(0,.list (l.map cE)),(2,.clo 145 []),(4,.ptr 0 0),(8,.int .i64 l.length),(9,.int .i64 i),(10,.int .i64 j)],[.box (cId y)]⟩) l.length (by simp [hx]) (by simp) ?_ ?_
  · refine ⟨0,l.length,by omega,by omega,by omega,fun k h=>by omega,fun k h1 h2=>by omega,?_⟩
    simp [zi,go_sem,zc,zd,pos,List.range_succ,cId]
  · rintro g st ⟨i,j,hij,hj,hg,hlo,hhi,rfl⟩
    by_cases hlt:i < j
    · have w1:IntKind.i64.wrap ((i:Int) + (j:Int))=((i + j:Nat):Int):=by rw [IntKind.wrap_i64]; omega
      obtain ⟨h,hh⟩:∃ h,h=(i + j) / 2:=⟨_,rfl⟩
      have hgt:l[h]? = some (nth l h):=zk _ _ (by omega)
      have hhl:h < l.length:=by omega
      have w2:IntKind.u64.wrap ((i + j:Nat):Int)=((i + j:Nat):Int):=by rw [IntKind.wrap_u64]; omega
      have w3:((i + j:Nat):Int).fdiv (2 ^ min (Int.toNat 1) 64)=(h:Int):=by
        show Int.fdiv _ 2=_
        rw [Int.fdiv_eq_ediv_of_nonneg _ (by omega)]; omega
      have w4:IntKind.i64.wrap (h:Int)=(h:Int):=by rw [IntKind.wrap_i64]; omega
      have w5:=zD (k:=h) (by omega)
      simp only [go_sem,hlt,w1,w2,w3,w4,Int.reduceLE,hgt,hhl,cE,cId]
      refine zan rfl (by kernel_rfl) (.pureE (zhv (nth l h) y) (by simp [go_sem,cE,cId])) ?_
      by_cases hc:zP (nth l h).id y=true
      · have e:zfe (nth l h).id y < 0:=zaD.2 hc
        simp only [go_sem,e,w5]
        refine ⟨by simp,j - (h + 1),by omega,h + 1,j,by omega,hj,rfl,fun k hk=>?_,hhi,?_⟩
        · by_cases ek:k=h
          · rw [ek]; exact hc
          · exact zab (hu k h (by omega) (by omega)) hc
        · simp [zi,go_sem,zc,zd,pos,List.range_succ,cId]
      · have e:¬ zfe (nth l h).id y < 0:=fun q=>hc (zaD.1 q)
        simp only [go_sem,e]
        refine ⟨by simp,h - i,by omega,i,h,by omega,by omega,rfl,hlo,fun k h1 h2=>?_,?_⟩
        · by_cases ek:k=h
          · rw [ek]; simpa using hc
          · rw [← Bool.not_eq_true]
            exact fun q=>hc (zab (hu h k (by omega) h2) q)
        · simp [zi,go_sem,zc,zd,pos,List.range_succ,cId]
    · obtain rfl:i=j:=by omega
      have hp:=zon hj hlo hhi
      have hf:=zoo hu hj hlo hhi
      by_cases hil:i < l.length
      · have hgt:l[i]? = some (nth l i):=zk _ _ hil
        simp only [go_sem,hlt,hil,hgt,cE,cId]
        refine zan rfl (by kernel_rfl) (.pureE (zhv (nth l i) y) (by simp [go_sem,cE,cId])) ?_
        have e:(zfe (nth l i).id y=0)↔(nth l i).id=y:=zop
        simp only [go_sem,e]
        refine zb hx ?_
        simp [go_sem,zxk,zxl,hp,hf,hil]
      · simp only [go_sem,hlt,hil]
        refine zb hx ?_
        simp [go_sem,zxk,zxl,hp,hf,hil]
def rcP (lg ws:List Entry) (e:Entry):List Entry × List Entry:=zv lg (ws.insertIdx (zcQ ws e.id) e)
def zW (r:Int) (lg ws:List Entry) (e:Entry):Int :=
 if 0≤zz lg e.id∨0≤zz ws e.id then 0 else if e.id.r=r then 4 else if 20 < (rcP lg ws e).2.length∨40 < (rcP lg ws e).1.length then 2 else 0
def zas (r:Int) (lg ws:List Entry) (e:Entry):Int × List Entry × List Entry :=
 if 0≤zz lg e.id∨0≤zz ws e.id then (r,lg,ws) else if zW r lg ws e=0 then (r,rcP lg ws e) else (0,[],[])
theorem zia {ws:List Entry} {e:Entry} (h:zbT ws) (he:(e.id.r=0∨e.id.r=1)∧e.ls.length≤1000000) {i:Nat} (hi:i≤ws.length):zbT (ws.insertIdx i e):=fun x hx=>by
 rcases (List.mem_insertIdx hi).1 hx with h1 | h1
 ·
  subst h1; exact he
 ·
  exact h x h1
theorem zib (l:List Entry) (w:Entry) {k:Nat} (h:k≤l.length):(l.insertIdx k w).length=l.length + 1:=by rw [List.length_insertIdx,if_pos h]
theorem zd4 (r : Int) (lg ws : List Entry) (e : Entry) (hl : lg.length ≤ 1000) (hw : ws.length ≤ 1000) (hf1 : zbT lg) (hf2 : zbT ws) (hu : upE ws) (he : (e.id.r = 0 ∨ e.id.r = 1) ∧ e.ls.length ≤ 1000000) :
    zg Tryz.prog 71 [.agg (cSi r lg ws),.agg (cE e)] [] (.tup [.agg (zp (zas r lg ws e)),.int .i64 (zW r lg ws e)]) []:=by
  refine zg.of_walk Tryz.func71 Tryz.ntmps71 zua zub (by simp) fun x hx=>?_
  simp only [go_sem,L71,R71,cSi,cE]
  refine za (.heapE [] (r' := .agg [.int .i64 r,.arr 3 lg.length,.arr 4 ws.length]) (H' := [.box (cSi r lg ws),.box (cE e),.box [.int .i64 0,.nilsl,.nilsl],.arr lg.length true false 32 5 (lg.map cE),.arr ws.length true false 32 5 (ws.map cE)]) (zd3 r lg ws (by omega) (by omega) hf1 hf2) (by simp) (by simp) (by simp [go_sem,cSi]) rfl rfl rfl) ?_
  simp only [go_sem,cSi,cE]
  refine za (.pureE (ZN lg e.id (by omega)) (by simp [go_sem,cId])) ?_
  by_cases h1:0≤zz lg e.id
  · have e1:zW r lg ws e=0:=by rw [zW,if_pos (.inl h1)]
    simp only [go_sem,h1,cSi,cE]
    refine zb hx ?_
    simp [go_sem,L71,R71,zas,e1,h1,zp,cSi,cE,zu,pos]
  · simp only [go_sem,h1,cSi,cE]
    refine za (.pureE (ZN ws e.id (by omega)) (by simp [go_sem,cId])) ?_
    by_cases h2:0≤zz ws e.id
    · have e1:zW r lg ws e=0:=by rw [zW,if_pos (.inr h2)]
      simp only [go_sem,h2,cSi,cE]
      refine zb hx ?_
      simp [go_sem,L71,R71,zas,e1,h2,zp,cSi,cE,zu,pos]
    · by_cases h3:e.id.r=r
      · have e1:zW r lg ws e=4:=by rw [zW,if_neg (by omega),if_pos h3]
        simp only [go_sem,h2,h3,cSi,cE]
        refine zb hx ?_
        simp [go_sem,L71,R71,zas,e1,h1,h2,zp,cSi,cE,zu,pos]
      · have e0:zW r lg ws e=if 20 < (rcP lg ws e).2.length∨40 < (rcP lg ws e).1.length then 2 else 0:=by rw [zW,if_neg (by omega),if_neg h3]
        have hil:=zib ws e (zbo ws e.id)
        have hst:=zaA lg.length (ws.length + 1) r lg (ws.insertIdx (zcQ ws e.id) e) (by omega) hf1 (zia hf2 he (zbo ws e.id))
        rw [show zv lg (ws.insertIdx (zcQ ws e.id) e)=rcP lg ws e from rfl] at hst
        generalize (ws.insertIdx (zcQ ws e.id) e).length - (rcP lg ws e).2.length=k at hst
        simp only [go_sem,h2,h3,cSi,cE]
        refine za (.scalarE (zjy ws e.id hu (by omega)) rfl (by simp [go_sem,zu,pos,cId])) ?_
        simp only [go_sem,cSi,cE]
        repeat refine ⟨rfl,?_⟩
        refine za (.pureE (Zy e he.2) (by simp [go_sem,cE])) ?_
        simp only [go_sem,cSi,cE]
        refine zcv 4 (zho (ws.map cE) (cE e) ws.length (zcQ ws e.id) (by simp; exact zbo _ _) rfl (by simp; omega)) rfl rfl rfl rfl (by simp [go_sem]) (by simp [go_sem,pos,cE]) rfl ?_
        rw [zd2]
        simp only [go_sem,cSi,cE]
        repeat refine ⟨rfl,?_⟩
        refine za (.heapE [5,3,4] (r' := .tup []) (H' := [.box (cSi r lg ws),.box (cE e),.box [.int .i64 0,.nilsl,.nilsl],.arr (lg.length + k) true false 32 5 ((rcP lg ws e).1.map cE),.arr (ws.length + 1 + k) true false 32 5 ((rcP lg ws e).2.map cE),.box [.int .i64 r,.arr 3 (lg.length + k),.arr 4 (ws.length + 1 + k)]]) hst (by decide) (by simp) (by simp [go_sem,pos]) rfl rfl rfl) ?_
        by_cases g1:(20:Int) < ((rcP lg ws e).2.length:Int)
        · have e1:zW r lg ws e=2:=by rw [e0,if_pos (by omega)]
          simp only [go_sem,g1,cSi,cE]
          refine zb hx ?_
          simp [go_sem,L71,R71,zas,e1,h1,h2,zp,cSi,cE,zu,pos]
        · by_cases g2:(40:Int) < ((rcP lg ws e).1.length:Int)
          · have e1:zW r lg ws e=2:=by rw [e0,if_pos (by omega)]
            simp only [go_sem,g1,g2,cSi,cE]
            refine zb hx ?_
            simp [go_sem,L71,R71,zas,e1,h1,h2,zp,cSi,cE,zu,pos]
          · have e1:zW r lg ws e=0:=by rw [e0,if_neg (by omega)]
            simp only [go_sem,g1,g2,cSi,cE]
            refine zb hx ?_
            simp [go_sem,L71,R71,zas,e1,h1,h2,zp,cSi,cE,zu,pos]
def zbs (r:Int) (lg ws:List Entry) (e:Entry):Int:=if zL r lg ws≠0 then zL r lg ws else if zl e≠0 then zl e else zW r lg ws e
def zdf (r:Int) (lg ws:List Entry) (e:Entry):Int × List Entry × List Entry:=if zL r lg ws≠0∨zl e≠0 then (0,[],[]) else zas r lg ws e
theorem zdg (r : Int) (lg ws : List Entry) (e : Entry) (hl : lg.length ≤ 9223372036854775806) (hw : ws.length ≤ 9223372036854775806) :
    zg Tryz.prog 15 [.agg (cSi r lg ws),.agg (cE e)] [] (.tup [.agg (zp (zdf r lg ws e)),.int .i64 (zbs r lg ws e)]) []:=by
  refine zg.of_walk Tryz.func15 Tryz.ntmps15 ztY ztZ (by simp) fun x hx=>?_
  simp only [go_sem,L15,R15,cSi,cE]
  refine za (.pureE (zaN r lg ws hl hw) (by simp [go_sem,cSi])) ?_
  by_cases h0:zL r lg ws=0
  · obtain ⟨hr,hok,hw20,hch⟩:=zdw h0
    have hlen:=hok.len
    simp only [go_sem,h0,cSi,cE]
    refine za (.pureE (zaU e) (by simp [go_sem,cE])) ?_
    by_cases h1:zl e=0
    · simp only [go_sem,h1,cSi,cE]
      refine za (.pureE (zd4 r lg ws e (by omega) (by omega) (zdb hok) (zez fun k hk=>(hch k hk).1) (zh9 h0) (Zg h1)) (by simp [go_sem,cSi,cE])) ?_
      simp only [go_sem,zp,cSi,cE]
      refine zb hx ?_
      simp [go_sem,L15,R15,zdf,zbs,h0,h1,zp,cSi]
    · simp only [go_sem,h1,cSi,cE]
      refine zb hx ?_
      simp [go_sem,L15,R15,zdf,zbs,h0,h1,zp,cSi]
  · simp only [go_sem,h0,cSi,cE]
    refine zb hx ?_
    simp [go_sem,L15,R15,zdf,zbs,h0,zp,cSi]
theorem zhw (l:List Entry) (c:Int) (h:LogOk l) (hc:ZX c 1 7=true):zg Tryz.prog 104 [.oll (l.map cE),.int .i64 c] [] (.list ((Zv (Za l c)).map cId)) []:=by
 have hm:=h.len
 have hle:=zc8 l c
 refine zg.of_fresh Tryz.func104 Tryz.ntmps104 zrw zrx (by simp) fun x hx=>?_
 simp only [go_sem,zug,zuh]
 refine za (.pureE (zc7 l h) (by simp [go_sem])) ?_
 simp only [go_sem,zF]
 refine za (.pureE (zeZ l c h hc) (by simp [go_sem])) ?_
 simp only [go_sem]
 refine zaa (ZQ 7 0 29 2 true false rfl (by omega)) ?_
 refine zr [5,6,7,15,16,17] 2 (fun n st=>∃ k v:Nat,k + n=(Zj l c).length ∧
  st=⟨mkE .top [(5,.ptr 0 0),(6,.list ((Zj l c).map cE)),(7,.arr 1 v),(15,.list ((Zj l c).map cE)),(16,.int .i64 (Zj l c).length),(17,.int .i64 k)],
   [.box [zF l (Z0 l)],.arr v true false 29 2 ((((Zj l c).take k).filter fun e => !zbb l c e).map (·.id) |>.map cId)]⟩) (Zj l c).length (by simp [hx]) (by simp [St.put]) ?_ ?_
 ·
  refine ⟨0,0,by omega,?_⟩
  simp [zi,go_sem,zc,zd,pos,List.range_succ,zF]
 ·
  rintro n st ⟨k,v,hk,rfl⟩
  by_cases hlt:k < (Zj l c).length
  ·
   have hg:(Zj l c)[k]? = some (nth (Zj l c) k):=zk _ _ hlt
   have wk:=zD (k:=k) (by omega)
   have hw:=zge (l:=l) (c:=c) hlt
   have hle2:((((Zj l c).take k).filter fun e => !zbb l c e).map (·.id)).length≤40:=by
    rw [List.length_map]
    refine Nat.le_trans (List.length_filter_le _ _) ?_
    rw [List.length_take]; omega
   simp only [go_sem,hlt,hg,cE]
   have hcf:=zc5 (Zj l c) 175 [.ptr 0 0,.ptr 1 0] [.box [zF l (Z0 l)],.box (cE (nth (Zj l c) k))] (fun f=>zh1 (ZD (Z0 l) l f.id) (nth (Zj l c) k).id) (by kernel_rfl) (by omega) (zod _ _ _) (fun f hf=>by
    obtain ⟨j,hj,rfl⟩:=zjq hf
    have e:=h.find hj
    exact zhp l (Z0 l) _ _ (by omega) (by omega) (by simp [Z0]; omega) (by rw [zbS,e,Int.toNat_natCast]; have:=zbF h hj; omega))
   refine za (.heapE [0,2] (r' := .bool (zbb l c (nth (Zj l c) k))) (H' := [.box [zF l (Z0 l)],.arr v true false 29 2 ((((Zj l c).take k).filter fun e => !zbb l c e).map (·.id) |>.map cId),.box (cE (nth (Zj l c) k))]) hcf
    (by simp) (by simp) (by simp [go_sem,pos]) (by simp [zc,zd,go_sem,pos,cE,zF]) rfl (by simp [Zk,zH,zK,zd,pos,go_sem,List.range_succ,ZA,Zb,cE,zF])) ?_
   cases hu:zbb l c (nth (Zj l c) k)
   ·
    rw [hu] at hw
    simp only [go_sem,cE]
    rw [zB rfl rfl (by simp) (by simp at hle2 ⊢; omega)]
    simp only [go_sem,wk]
    refine ⟨by simp,n - 1,by omega,k + 1,v + 1,by omega,?_⟩
    rw [hw]
    simp [zi,go_sem,zc,zd,pos,List.range_succ,cId,zF]
   ·
    rw [hu] at hw
    simp only [go_sem,wk]
    refine ⟨by simp,n - 1,by omega,k + 1,v,by omega,?_⟩
    rw [hw]
    simp [zi,go_sem,zc,zd,pos,List.range_succ,cId,zF]
  ·
   have:(Zj l c).take k=Zj l c:=List.take_of_length_le (by omega)
   have hle2:(Za l c).length≤40:=by
    unfold Za
    rw [List.length_map]
    refine Nat.le_trans (List.length_filter_le _ _) ?_
    omega
   simp only [go_sem,hlt,this]
   have hso:=zcD (Za l c) v 29 (by omega)
   refine za (.heapE [1] (r' := .tup []) (H' := [.box [zF l (Z0 l)],.arr v true false 29 2 ((Zv (Za l c)).map cId)]) hso
    (by simp) (by simp) (by simp [go_sem,pos]) (by simp [zc,zd,go_sem,pos,Za]) rfl (by simp [Zk,zH,zK,zd,pos,go_sem,List.range_succ,ZA,Zb,zF])) ?_
   simp only [go_sem]
   refine zi8 ?_
   simp [go_sem,zug,zuh,frS,frA,frL,zed,cId]
theorem zgm (l:List Entry) (h:zhW l) (hm:l.length≤1000000000000000):zg Tryz.prog 113 [.oll (l.map cE)] [] (.agg [.int .i64 (ZB l 0),.int .i64 (ZB l 1)]) []:=(zcw l h hm).freshS rfl rfl
theorem zgn (l:List Entry) (x:Id) (hm:l.length≤9223372036854775806):zg Tryz.prog 105 [.oll (l.map cE),.agg (cId x)] [] (.int .i64 (zz l x)) []:=(ZN l x hm).freshS rfl rfl
theorem zjz (e:Entry):zg Tryz.prog 70 [.agg (cEo e)] [] (.int .i64 (zl e)) []:=(zaU e).freshS rfl rfl
theorem zdN (r:Int) (lg ws:List Entry) (hl:lg.length≤9223372036854775806) (hw:ws.length≤9223372036854775806):zg Tryz.prog 54 [.agg (zae r lg ws)] [] (.int .i64 (zL r lg ws)) []:=(zaN r lg ws hl hw).freshS rfl rfl
theorem zgo (r : Int) (lg ws : List Entry) (c : Int) (t : ByteArray) (hr : r = 0 ∨ r = 1) (h : LogOk lg) (hw : ws.length ≤ 20) (hf : zbT ws) :
    zg Tryz.prog 72 [.agg (zae r lg ws),.int .i64 c,.str t] [] (.tup [.agg (zp (zbq r lg ws c t)),.agg (cE (zbr r lg c t)),.int .i64 (zO r lg c t)]) []:=by
  have hlen:=h.len
  refine zg.of_walk Tryz.func72 Tryz.ntmps72 zuc zud (by simp) fun x hx=>?_
  simp only [go_sem,L72,R72,zae,cSi]
  refine za (.pureE (za8 c) (by simp [go_sem])) ?_
  cases hc:ZX c 1 7
  · have e:zO r lg c t=3:=by rw [zO,if_pos hc]
    simp only [go_sem]
    refine zb hx ?_
    simp [go_sem,L72,R72,zbq,zbr,e,zp,cSi,cE,zE]
  · have e0:zO r lg c t=if 12 < t.size∨(20:Int) < (ZB lg r:Int) + 1∨lg.length=40∨6 < (Zv (Za lg c)).length then 2 else 0:=by rw [zO,if_neg (by simp [hc])]
    rcases hr with rfl | rfl
    · skip
      have hcn:IntKind.i64.wrap ((ZB lg 0:Int) + 1)=(ZB lg 0:Int) + 1:=by have:=zbm lg 0; rw [IntWalk.i64_in _ (by omega)]
      simp only [go_sem,zae,cSi]
      refine za (.pureE (zgm lg h.reg (by omega)) (by simp [go_sem])) ?_
      simp only [go_sem,cSi,zq,Int.reduceLT,Int.reduceLE,Int.reduceToNat,Int.reduceAdd,frz,hcn]
      repeat refine ⟨rfl,?_⟩
      refine za (.pureE (zhw lg c h hc) (by simp [go_sem])) ?_
      simp only [go_sem,zae,cSi]
      repeat refine ⟨rfl,?_⟩
      by_cases d1:(12:Int) < (t.size:Int)
      · have e:zO 0 lg c t=2:=by rw [e0,if_pos (by omega)]
        simp only [go_sem,d1]
        refine zb hx ?_
        simp [go_sem,L72,R72,zbq,zbr,e,zp,cSi,cE,zE]
      · by_cases d2:(20:Int) < (ZB lg 0:Int) + 1
        · have e:zO 0 lg c t=2:=by rw [e0,if_pos (by omega)]
          simp only [go_sem,d1,d2]
          refine zb hx ?_
          simp [go_sem,L72,R72,zbq,zbr,e,zp,cSi,cE,zE]
        · by_cases d3:(lg.length:Int)=40
          · have e:zO 0 lg c t=2:=by rw [e0,if_pos (by omega)]
            simp only [go_sem,d1,d2,d3,zae,cSi]
            refine zb hx ?_
            simp [go_sem,L72,R72,zbq,zbr,e,zp,cSi,cE,zE]
          · by_cases d4:(6:Int) < ((Zv (Za lg c)).length:Int)
            · have e:zO 0 lg c t=2:=by rw [e0,if_pos (by omega)]
              simp only [go_sem,d1,d2,d3,d4,zae,cSi]
              refine zb hx ?_
              simp [go_sem,L72,R72,zbq,zbr,e,zp,cSi,cE,zE]
            · have e:zO 0 lg c t=0:=by rw [e0,if_neg (by omega)]
              have hfl:=zdb h
              have hae:zbT (lg ++ [apE 0 lg c t]):=zc9 hfl (zdc (by decide) hlen)
              have hsl:=zbU (lg ++ [apE 0 lg c t]) ws
              rw [List.length_append,List.length_cons,List.length_nil] at hsl
              simp only [go_sem,d1,d2,d3,d4,zae,cSi]
              refine za (.heapE [] (r' := .agg [.int .i64 0,.arr 4 lg.length,.arr 5 ws.length]) (H' := [.box (zae 0 lg ws),.box [.int .i64 0,.nilsl,.nilsl],.box [.int .i64 0,.int .i64 0,.int .i64 0,.str ⟨#[]⟩,.nilsl],.box (cE (apE 0 lg c t)),.arr lg.length true false 32 5 (lg.map cE),.arr ws.length true false 32 5 (ws.map cE)]) (zda 0 lg ws (by omega) (by omega) hfl hf) (by simp) (by simp) (by simp [go_sem,zae]) rfl rfl rfl) ?_
              simp only [go_sem,zae,cEo,cSi,cE]
              rw [zB rfl rfl (by simp) (by simp; omega)]
              have hce:List.map cE lg ++ [[PV.int .i64 (apE 0 lg c t).id.r,.int .i64 (apE 0 lg c t).id.n,.int .i64 (apE 0 lg c t).c,.str (apE 0 lg c t).t,.list ((apE 0 lg c t).ls.map cId)]]=(lg ++ [apE 0 lg c t]).map cE:=by simp [cE]
              simp only [go_sem,hce]
              repeat refine ⟨rfl,?_⟩
              have hst:=zaA (lg.length + 1) ws.length 0 (lg ++ [apE 0 lg c t]) ws (by simp; omega) hae hf
              generalize ws.length - (zv (lg ++ [apE 0 lg c t]) ws).2.length=k at hst
              refine za (.heapE [6,4,5] (r' := .tup []) (H' := [.box (zae 0 lg ws),.box [.int .i64 0,.nilsl,.nilsl],.box [.int .i64 0,.int .i64 0,.int .i64 0,.str ⟨#[]⟩,.nilsl],.box (cE (apE 0 lg c t)),.arr (lg.length + 1 + k) true false 32 5 ((zv (lg ++ [apE 0 lg c t]) ws).1.map cE),.arr (ws.length + k) true false 32 5 ((zv (lg ++ [apE 0 lg c t]) ws).2.map cE),.box [.int .i64 0,.arr 4 (lg.length + 1 + k),.arr 5 (ws.length + k)]]) hst (by decide) (by simp) (by simp [go_sem,pos]) rfl rfl rfl) ?_
              simp only [go_sem,zae,cEo,cSi,cE]
              refine za (.pureE (Zy (apE 0 lg c t) (zdc (by decide) hlen).2) (by simp [go_sem,cE])) ?_
              simp only [go_sem,zae,cEo,cSi,cE]
              repeat refine ⟨rfl,?_⟩
              refine zb hx ?_
              simp [go_sem,L72,R72,zbq,zbr,e,zp,cSi,cE,zu,pos]
    · skip
      have hcn:IntKind.i64.wrap ((ZB lg 1:Int) + 1)=(ZB lg 1:Int) + 1:=by have:=zbm lg 1; rw [IntWalk.i64_in _ (by omega)]
      simp only [go_sem,zae,cSi]
      refine za (.pureE (zgm lg h.reg (by omega)) (by simp [go_sem])) ?_
      simp only [go_sem,cSi,zq,Int.reduceLT,Int.reduceLE,Int.reduceToNat,Int.reduceAdd,frz,hcn]
      repeat refine ⟨rfl,?_⟩
      refine za (.pureE (zhw lg c h hc) (by simp [go_sem])) ?_
      simp only [go_sem,zae,cSi]
      repeat refine ⟨rfl,?_⟩
      by_cases d1:(12:Int) < (t.size:Int)
      · have e:zO 1 lg c t=2:=by rw [e0,if_pos (by omega)]
        simp only [go_sem,d1]
        refine zb hx ?_
        simp [go_sem,L72,R72,zbq,zbr,e,zp,cSi,cE,zE]
      · by_cases d2:(20:Int) < (ZB lg 1:Int) + 1
        · have e:zO 1 lg c t=2:=by rw [e0,if_pos (by omega)]
          simp only [go_sem,d1,d2]
          refine zb hx ?_
          simp [go_sem,L72,R72,zbq,zbr,e,zp,cSi,cE,zE]
        · by_cases d3:(lg.length:Int)=40
          · have e:zO 1 lg c t=2:=by rw [e0,if_pos (by omega)]
            simp only [go_sem,d1,d2,d3,zae,cSi]
            refine zb hx ?_
            simp [go_sem,L72,R72,zbq,zbr,e,zp,cSi,cE,zE]
          · by_cases d4:(6:Int) < ((Zv (Za lg c)).length:Int)
            · have e:zO 1 lg c t=2:=by rw [e0,if_pos (by omega)]
              simp only [go_sem,d1,d2,d3,d4,zae,cSi]
              refine zb hx ?_
              simp [go_sem,L72,R72,zbq,zbr,e,zp,cSi,cE,zE]
            · have e:zO 1 lg c t=0:=by rw [e0,if_neg (by omega)]
              have hfl:=zdb h
              have hae:zbT (lg ++ [apE 1 lg c t]):=zc9 hfl (zdc (by decide) hlen)
              have hsl:=zbU (lg ++ [apE 1 lg c t]) ws
              rw [List.length_append,List.length_cons,List.length_nil] at hsl
              simp only [go_sem,d1,d2,d3,d4,zae,cSi]
              refine za (.heapE [] (r' := .agg [.int .i64 1,.arr 4 lg.length,.arr 5 ws.length]) (H' := [.box (zae 1 lg ws),.box [.int .i64 0,.nilsl,.nilsl],.box [.int .i64 0,.int .i64 0,.int .i64 0,.str ⟨#[]⟩,.nilsl],.box (cE (apE 1 lg c t)),.arr lg.length true false 32 5 (lg.map cE),.arr ws.length true false 32 5 (ws.map cE)]) (zda 1 lg ws (by omega) (by omega) hfl hf) (by simp) (by simp) (by simp [go_sem,zae]) rfl rfl rfl) ?_
              simp only [go_sem,zae,cEo,cSi,cE]
              rw [zB rfl rfl (by simp) (by simp; omega)]
              have hce:List.map cE lg ++ [[PV.int .i64 (apE 1 lg c t).id.r,.int .i64 (apE 1 lg c t).id.n,.int .i64 (apE 1 lg c t).c,.str (apE 1 lg c t).t,.list ((apE 1 lg c t).ls.map cId)]]=(lg ++ [apE 1 lg c t]).map cE:=by simp [cE]
              simp only [go_sem,hce]
              repeat refine ⟨rfl,?_⟩
              have hst:=zaA (lg.length + 1) ws.length 1 (lg ++ [apE 1 lg c t]) ws (by simp; omega) hae hf
              generalize ws.length - (zv (lg ++ [apE 1 lg c t]) ws).2.length=k at hst
              refine za (.heapE [6,4,5] (r' := .tup []) (H' := [.box (zae 1 lg ws),.box [.int .i64 0,.nilsl,.nilsl],.box [.int .i64 0,.int .i64 0,.int .i64 0,.str ⟨#[]⟩,.nilsl],.box (cE (apE 1 lg c t)),.arr (lg.length + 1 + k) true false 32 5 ((zv (lg ++ [apE 1 lg c t]) ws).1.map cE),.arr (ws.length + k) true false 32 5 ((zv (lg ++ [apE 1 lg c t]) ws).2.map cE),.box [.int .i64 1,.arr 4 (lg.length + 1 + k),.arr 5 (ws.length + k)]]) hst (by decide) (by simp) (by simp [go_sem,pos]) rfl rfl rfl) ?_
              simp only [go_sem,zae,cEo,cSi,cE]
              refine za (.pureE (Zy (apE 1 lg c t) (zdc (by decide) hlen).2) (by simp [go_sem,cE])) ?_
              simp only [go_sem,zae,cEo,cSi,cE]
              repeat refine ⟨rfl,?_⟩
              refine zb hx ?_
              simp [go_sem,L72,R72,zbq,zbr,e,zp,cSi,cE,zu,pos]
theorem zgp (r : Int) (lg ws : List Entry) (c : Int) (t : ByteArray) (hl : lg.length ≤ 9223372036854775806) (hw : ws.length ≤ 9223372036854775806) :
    zg Tryz.prog 16 [.agg (zae r lg ws),.int .i64 c,.str t] [] (.tup [.agg (zp (zdd r lg ws c t)),.agg (cE (zde r lg ws c t)),.int .i64 (zcd r lg ws c t)]) []:=by
  refine zg.of_walk Tryz.func16 Tryz.ntmps16 zt0 zt1 (by simp) fun x hx=>?_
  simp only [go_sem,L16,R16,zae,cSi]
  refine za (.pureE (zdN r lg ws hl hw) (by simp [go_sem,zae])) ?_
  by_cases h0:zL r lg ws=0
  · obtain ⟨hr,hok,hw20,hch⟩:=zdw h0
    simp only [go_sem,h0,zae,cSi]
    refine za (.pureE (zgo r lg ws c t hr hok hw20 (zez fun k hk=>(hch k hk).1)) (by simp [go_sem,zae])) ?_
    simp only [go_sem,zp,zae,cEo,cSi,cE]
    refine zb hx ?_
    simp [go_sem,L16,R16,zdd,zde,zcd,h0,zp,cSi,cE]
  · simp only [go_sem,h0,zae,cSi]
    refine zb hx ?_
    simp [go_sem,L16,R16,zdd,zde,zcd,h0,zp,cSi,cE,zE]
theorem zjA (r : Int) (lg ws : List Entry) (e : Entry) (hl : lg.length ≤ 1000) (hw : ws.length ≤ 1000) (hf1 : zbT lg) (hf2 : zbT ws) (hu : upE ws) (he : (e.id.r = 0 ∨ e.id.r = 1) ∧ e.ls.length ≤ 1000000) :
    zg Tryz.prog 71 [.agg (zae r lg ws),.agg (cEo e)] [] (.tup [.agg (zp (zas r lg ws e)),.int .i64 (zW r lg ws e)]) []:=by
  refine zg.of_walk Tryz.func71 Tryz.ntmps71 zua zub (by simp) fun x hx=>?_
  simp only [go_sem,L71,R71,zae,cEo,cSi,cE]
  refine za (.heapE [] (r' := .agg [.int .i64 r,.arr 3 lg.length,.arr 4 ws.length]) (H' := [.box (zae r lg ws),.box (cEo e),.box [.int .i64 0,.nilsl,.nilsl],.arr lg.length true false 32 5 (lg.map cE),.arr ws.length true false 32 5 (ws.map cE)]) (zda r lg ws (by omega) (by omega) hf1 hf2) (by simp) (by simp) (by simp [go_sem,zae]) rfl rfl rfl) ?_
  simp only [go_sem,zae,cEo,cSi,cE]
  refine za (.pureE (zgn lg e.id (by omega)) (by simp [go_sem,cId])) ?_
  by_cases h1:0≤zz lg e.id
  · have e1:zW r lg ws e=0:=by rw [zW,if_pos (.inl h1)]
    simp only [go_sem,h1,zae,cEo,cSi,cE]
    refine zb hx ?_
    simp [go_sem,L71,R71,zas,e1,h1,zp,cSi,cE,zu,pos]
  · simp only [go_sem,h1,zae,cEo,cSi,cE]
    refine za (.pureE (zgn ws e.id (by omega)) (by simp [go_sem,cId])) ?_
    by_cases h2:0≤zz ws e.id
    · have e1:zW r lg ws e=0:=by rw [zW,if_pos (.inr h2)]
      simp only [go_sem,h2,zae,cEo,cSi,cE]
      refine zb hx ?_
      simp [go_sem,L71,R71,zas,e1,h2,zp,cSi,cE,zu,pos]
    · by_cases h3:e.id.r=r
      · have e1:zW r lg ws e=4:=by rw [zW,if_neg (by omega),if_pos h3]
        simp only [go_sem,h2,h3,zae,cEo,cSi,cE]
        refine zb hx ?_
        simp [go_sem,L71,R71,zas,e1,h1,h2,zp,cSi,cE,zu,pos]
      · have e0:zW r lg ws e=if 20 < (rcP lg ws e).2.length∨40 < (rcP lg ws e).1.length then 2 else 0:=by rw [zW,if_neg (by omega),if_neg h3]
        have hil:=zib ws e (zbo ws e.id)
        have hst:=zaA lg.length (ws.length + 1) r lg (ws.insertIdx (zcQ ws e.id) e) (by omega) hf1 (zia hf2 he (zbo ws e.id))
        rw [show zv lg (ws.insertIdx (zcQ ws e.id) e)=rcP lg ws e from rfl] at hst
        generalize (ws.insertIdx (zcQ ws e.id) e).length - (rcP lg ws e).2.length=k at hst
        simp only [go_sem,h2,h3,zae,cEo,cSi,cE]
        refine za (.scalarE (zjy ws e.id hu (by omega)) rfl (by simp [go_sem,zu,pos,cId])) ?_
        simp only [go_sem,zae,cEo,cSi,cE]
        repeat refine ⟨rfl,?_⟩
        refine za (.pureE (zbA e he.2) (by simp [go_sem,cEo])) ?_
        simp only [go_sem,zae,cEo,cSi,cE]
        refine zcv 4 (zho (ws.map cE) (cE e) ws.length (zcQ ws e.id) (by simp; exact zbo _ _) rfl (by simp; omega)) rfl rfl rfl rfl (by simp [go_sem]) (by simp [go_sem,pos,cE]) rfl ?_
        rw [zd2]
        simp only [go_sem,zae,cEo,cSi,cE]
        repeat refine ⟨rfl,?_⟩
        refine za (.heapE [5,3,4] (r' := .tup []) (H' := [.box (zae r lg ws),.box (cEo e),.box [.int .i64 0,.nilsl,.nilsl],.arr (lg.length + k) true false 32 5 ((rcP lg ws e).1.map cE),.arr (ws.length + 1 + k) true false 32 5 ((rcP lg ws e).2.map cE),.box [.int .i64 r,.arr 3 (lg.length + k),.arr 4 (ws.length + 1 + k)]]) hst (by decide) (by simp) (by simp [go_sem,pos]) rfl rfl rfl) ?_
        by_cases g1:(20:Int) < ((rcP lg ws e).2.length:Int)
        · have e1:zW r lg ws e=2:=by rw [e0,if_pos (by omega)]
          simp only [go_sem,g1,zae,cEo,cSi,cE]
          refine zb hx ?_
          simp [go_sem,L71,R71,zas,e1,h1,h2,zp,cSi,cE,zu,pos]
        · by_cases g2:(40:Int) < ((rcP lg ws e).1.length:Int)
          · have e1:zW r lg ws e=2:=by rw [e0,if_pos (by omega)]
            simp only [go_sem,g1,g2,zae,cEo,cSi,cE]
            refine zb hx ?_
            simp [go_sem,L71,R71,zas,e1,h1,h2,zp,cSi,cE,zu,pos]
          · have e1:zW r lg ws e=0:=by rw [e0,if_neg (by omega)]
            simp only [go_sem,g1,g2,zae,cEo,cSi,cE]
            refine zb hx ?_
            simp [go_sem,L71,R71,zas,e1,h1,h2,zp,cSi,cE,zu,pos]
theorem zfu (r : Int) (lg ws : List Entry) (e : Entry) (hl : lg.length ≤ 9223372036854775806) (hw : ws.length ≤ 9223372036854775806) :
    zg Tryz.prog 15 [.agg (zae r lg ws),.agg (cEo e)] [] (.tup [.agg (zp (zdf r lg ws e)),.int .i64 (zbs r lg ws e)]) []:=by
  refine zg.of_walk Tryz.func15 Tryz.ntmps15 ztY ztZ (by simp) fun x hx=>?_
  simp only [go_sem,L15,R15,zae,cEo,cSi,cE]
  refine za (.pureE (zdN r lg ws hl hw) (by simp [go_sem,zae])) ?_
  by_cases h0:zL r lg ws=0
  · obtain ⟨hr,hok,hw20,hch⟩:=zdw h0
    have hlen:=hok.len
    simp only [go_sem,h0,zae,cEo,cSi,cE]
    refine za (.pureE (zjz e) (by simp [go_sem,cEo])) ?_
    by_cases h1:zl e=0
    · simp only [go_sem,h1,zae,cEo,cSi,cE]
      refine za (.pureE (zjA r lg ws e (by omega) (by omega) (zdb hok) (zez fun k hk=>(hch k hk).1) (zh9 h0) (Zg h1)) (by simp [go_sem,zae,cEo])) ?_
      simp only [go_sem,zp,zae,cEo,cSi,cE]
      refine zb hx ?_
      simp [go_sem,L15,R15,zdf,zbs,h0,h1,zp,cSi]
    · simp only [go_sem,h1,zae,cEo,cSi,cE]
      refine zb hx ?_
      simp [go_sem,L15,R15,zdf,zbs,h0,h1,zp,cSi]
  · simp only [go_sem,h0,zae,cEo,cSi,cE]
    refine zb hx ?_
    simp [go_sem,L15,R15,zdf,zbs,h0,zp,cSi]
theorem zcE (l : List Entry) (e : Entry) (h : zhW l) (hl : l.length ≤ 1000000000000000) (he : e.id.r = 0 ∨ e.id.r = 1) (hls : e.ls.length ≤ 9223372036854775806) :
    zg Tryz.prog 132 [.list (l.map cE),.agg (cE e)] [] (.bool (zV l e)) []:=by
  refine zg.of_walk Tryz.func132 Tryz.ntmps132 zuI zuJ (by simp) fun x hx=>?_
  have hw:∀ r,IntKind.i64.wrap ((ZB l r:Int) + 1)=(ZB l r:Int) + 1:=fun r=>by have:=zbm l r; rw [IntWalk.i64_in _ (by omega)]
  simp only [go_sem,zxc,zxd,cE]
  refine zr [0,3,5] 1 (fun m st=>∃ k:Nat,k + m=e.ls.length∧((e.ls.take k).any fun y=>decide (zz l y < 0))=false ∧
    st=⟨mkE .top [(0,.list (l.map cE)),(3,.ptr 0 0),(5,.int .i64 k)],[.box (cE e)]⟩) e.ls.length (by simp [hx]) (by simp) ?_ ?_
  · refine ⟨0,by omega,by simp,?_⟩
    simp [zi,go_sem,zc,zd,pos,List.range_succ,cE]
  · rintro m st ⟨k,hk,hi,rfl⟩
    by_cases hlt:k < e.ls.length
    · have hg:e.ls[k]? = some (nth e.ls k):=zk _ _ hlt
      have wk:=zD (k:=k) (by omega)
      simp only [go_sem,hlt,hg,cE,cId]
      refine za (.pureE (Zf l (nth e.ls k) (by omega)) (by simp [go_sem,cId])) ?_
      by_cases h1:zz l (nth e.ls k) < 0
      · have:zV l e=false:=by
          have hany:(e.ls.any fun y=>decide (zz l y < 0))=true:=List.any_eq_true.2 ⟨_,zcT hlt,by simpa using h1⟩
          rw [zV,hany]; simp
        simp only [go_sem,h1]
        refine zb hx ?_
        simp [go_sem,zxc,zxd,this]
      · simp only [go_sem,h1,wk]
        refine ⟨by simp,m - 1,by omega,k + 1,by omega,?_,?_⟩
        · rw [List.take_succ_eq_append_getElem hlt,List.any_append,hi,← zy _ _ hlt]; simpa using h1
        · simp [zi,go_sem,zc,zd,pos,List.range_succ,cE]
    · have htk:e.ls.take k=e.ls:=List.take_of_length_le (by omega)
      rw [htk] at hi
      have hrb:zV l e=decide ((ZB l e.id.r:Int) + 1=e.id.n):=by rw [zV,hi]; simp
      simp only [go_sem,hlt,cE]
      refine za (.pureE (zby l h hl) (by simp [go_sem])) ?_
      rcases he with hr | hr
      all_goals
        rw [hr] at hrb
        simp only [go_sem,hr,hw,zq,Int.reduceLT,Int.reduceLE,Int.reduceToNat,Int.reduceAdd,frz]
        repeat refine ⟨rfl,?_⟩
        refine zb hx ?_
        simp [go_sem,zxc,zxd,hrb]
theorem zgq (r:Int) (lg ws:List Entry) (hl:lg.length≤9223372036854775806) (hw:ws.length≤9223372036854775806):zg Tryz.prog 57 [.agg (cSi r lg ws)] [] (.int .i64 (zL r lg ws)) []:=by
 refine zg.of_walk Tryz.func57 Tryz.ntmps57 zyo zyp (by simp) fun x hx=>?_
 simp only [go_sem,L57,R57,cSi]
 refine za (.pureE (zm r 0 1) (by simp [go_sem])) ?_
 cases hrw:ZX r 0 1
 ·
  have hr:¬ (r=0∨r=1):=fun q=>by
   have:ZX r 0 1=true:=zX.2 (by omega)
   rw [hrw] at this; cases this
  have e:zL r lg ws=3:=by rw [zL,if_pos hr]
  simp only [go_sem,cSi]
  refine zb hx ?_
  simp [go_sem,L57,R57,e]
 ·
  rw [zX] at hrw
  have hr:r=0∨r=1:=by omega
  simp only [go_sem,cSi]
  refine za (.pureE (zgX lg hl) (by simp [go_sem])) ?_
  by_cases hlog:z8 lg=0
  ·
   have hok:=zaQ.1 hlog
   have hlen:=hok.len
   by_cases h20:(20:Int) < (ws.length:Int)
   ·
    have e:zL r lg ws=2:=by rw [zL,if_neg (by simp [hr]),if_neg (by simp [hlog]),if_pos (by omega)]
    simp only [go_sem,hlog,h20,cSi]
    refine zb hx ?_
    simp [go_sem,L57,R57,e]
   ·
    have e:zL r lg ws=zw (zR r lg ws) ws.length:=by rw [zL,if_neg (by simp [hr]),if_neg (by simp [hlog]),if_neg (by omega)]
    simp only [go_sem,hlog,h20,cSi,e]
    refine zr [1,4] 1 (fun m st=>∃ k:Nat,k + m=ws.length∧zw (zR r lg ws) k=0 ∧
     st=⟨mkE .top [(1,.ptr 0 0),(4,.int .i64 k)],[.box (cSi r lg ws)]⟩) ws.length (by simp [hx]) (by simp) ?_ ?_
    ·
     refine ⟨0,by omega,rfl,?_⟩
     simp [zi,go_sem,zc,zd,pos,List.range_succ,cSi]
    ·
     rintro m st ⟨k,hk,hz,rfl⟩
     by_cases hlt:k < ws.length
     ·
      have hg:ws[k]? = some (nth ws k):=zk _ _ hlt
      have wk:=zD (k:=k) (by omega)
      have fin:∀ q:Int,zR r lg ws k=q→q≠0→zw (zR r lg ws) ws.length=q:=fun q h1 h2=>by rw [zZ hz (by rw [h1]; exact h2) hlt,h1]
      simp only [go_sem,hlt,hg,cE,cSi]
      refine za (.pureE (zbl (nth ws k)) (by simp [go_sem,cE])) ?_
      by_cases h1:zl (nth ws k)=0
      ·
       have hfit:=Zg h1
       have hw1:zR r lg ws k=if zac r lg ws k=true then 4 else 0:=by rw [zR,if_neg (by simp [h1])]
       by_cases hk0:(0:Int) < (k:Int)
       ·
        obtain ⟨k',rfl⟩:∃ k',k=k' + 1:=⟨k - 1,by omega⟩
        have hwd:IntKind.i64.wrap (((k' + 1:Nat):Int) - 1)=(k':Int):=by rw [IntKind.wrap_i64]; omega
        have hkl:k' < ws.length:=by omega
        have hg':ws[k']? = some (nth ws k'):=zk _ _ hkl
        simp only [go_sem,h1,hk0,hwd,hkl,hg',cE,cSi]
        refine za (.pureE (zbx (nth ws k').id (nth ws (k' + 1)).id) (by simp [go_sem,cId])) ?_
        cases hle:zP (nth ws k').id (nth ws (k' + 1)).id
        ·
         have hw2:zR r lg ws (k' + 1)=4:=by rw [hw1,if_pos (by simp [zac,hle])]
         simp only [go_sem]
         repeat refine ⟨rfl,?_⟩
         refine zb hx ?_
         simp [go_sem,L57,R57,fin 4 hw2 (by decide)]
        ·
         have hb1:(decide (0 < k' + 1) && !zP (nth ws (k' + 1 - 1)).id (nth ws (k' + 1)).id)=false:=by simp [hle]
         cases hd2:decide ((nth ws (k' + 1)).id.r=r)
         ·
          simp only [go_sem,hd2,cE,cSi]
          refine za (.pureE (Zf lg (nth ws (k' + 1)).id hl) (by simp [go_sem,cId])) ?_
          by_cases h3:0≤zz lg (nth ws (k' + 1)).id
          ·
           have hw2:zR r lg ws (k' + 1)=4:=by rw [hw1,if_pos (by simp [zac,h3])]
           simp only [go_sem,h3]
           repeat refine ⟨rfl,?_⟩
           refine zb hx ?_
           simp [go_sem,L57,R57,fin 4 hw2 (by decide)]
          ·
           simp only [go_sem,h3,cE,cSi]
           refine za (.pureE (zcE lg (nth ws (k' + 1)) hok.reg (by omega) hfit.1 (by have:=hfit.2; omega)) (by simp [go_sem,cE])) ?_
           cases h4:zV lg (nth ws (k' + 1))
           ·
            have hw2:zR r lg ws (k' + 1)=0:=by rw [hw1,if_neg (by rw [zac,hb1,hd2,h4]; simp [h3])]
            simp only [go_sem,wk]
            repeat refine ⟨rfl,?_⟩
            refine ⟨by simp,m - 1,by omega,k' + 1 + 1,by omega,zQ hz hw2,?_⟩
            simp [zi,go_sem,zc,zd,pos,List.range_succ,cSi]
           ·
            have hw2:zR r lg ws (k' + 1)=4:=by rw [hw1,if_pos (by simp [zac,h4])]
            simp only [go_sem]
            repeat refine ⟨rfl,?_⟩
            refine zb hx ?_
            simp [go_sem,L57,R57,fin 4 hw2 (by decide)]
         ·
          have hw2:zR r lg ws (k' + 1)=4:=by rw [hw1,if_pos (by simp [zac,hd2])]
          simp only [go_sem,hd2]
          repeat refine ⟨rfl,?_⟩
          refine zb hx ?_
          simp [go_sem,L57,R57,fin 4 hw2 (by decide)]
       ·
        have hkz:k=0:=by omega
        have hb1:(decide (0 < k) && !zP (nth ws (k - 1)).id (nth ws k).id)=false:=by simp [hkz]
        simp only [go_sem,h1,hk0,cE,cSi]
        cases hd2:decide ((nth ws (k)).id.r=r)
        ·
         simp only [go_sem,hd2,cE,cSi]
         refine za (.pureE (Zf lg (nth ws (k)).id hl) (by simp [go_sem,cId])) ?_
         by_cases h3:0≤zz lg (nth ws (k)).id
         ·
          have hw2:zR r lg ws (k)=4:=by rw [hw1,if_pos (by simp [zac,h3])]
          simp only [go_sem,h3]
          repeat refine ⟨rfl,?_⟩
          refine zb hx ?_
          simp [go_sem,L57,R57,fin 4 hw2 (by decide)]
         ·
          simp only [go_sem,h3,cE,cSi]
          refine za (.pureE (zcE lg (nth ws (k)) hok.reg (by omega) hfit.1 (by have:=hfit.2; omega)) (by simp [go_sem,cE])) ?_
          cases h4:zV lg (nth ws (k))
          ·
           have hw2:zR r lg ws (k)=0:=by rw [hw1,if_neg (by rw [zac,hb1,hd2,h4]; simp [h3])]
           simp only [go_sem,wk]
           repeat refine ⟨rfl,?_⟩
           refine ⟨by simp,m - 1,by omega,k + 1,by omega,zQ hz hw2,?_⟩
           simp [zi,go_sem,zc,zd,pos,List.range_succ,cSi]
          ·
           have hw2:zR r lg ws (k)=4:=by rw [hw1,if_pos (by simp [zac,h4])]
           simp only [go_sem]
           repeat refine ⟨rfl,?_⟩
           refine zb hx ?_
           simp [go_sem,L57,R57,fin 4 hw2 (by decide)]
        ·
         have hw2:zR r lg ws (k)=4:=by rw [hw1,if_pos (by simp [zac,hd2])]
         simp only [go_sem,hd2]
         repeat refine ⟨rfl,?_⟩
         refine zb hx ?_
         simp [go_sem,L57,R57,fin 4 hw2 (by decide)]
      ·
       have hw1:zR r lg ws k=zl (nth ws k):=by rw [zR,if_pos h1]
       simp only [go_sem,h1,cE,cSi]
       refine zb hx ?_
       simp [go_sem,L57,R57,fin _ hw1 h1]
     ·
      obtain rfl:k=ws.length:=by omega
      simp only [go_sem,hlt,cSi]
      refine zb hx ?_
      simp [go_sem,L57,R57,hz]
  ·
   have e:zL r lg ws=z8 lg:=by rw [zL,if_neg (by simp [hr]),if_pos hlog]
   simp only [go_sem,hlog]
   refine zb hx ?_
   simp [go_sem,L57,R57,e]
theorem zco : ∀ (n : Nat) (r : Int) (lg ws : List Entry), ws.length = n → lg.length + ws.length ≤ 1000000 → zbT lg → zbT ws →
    zg Tryz.prog 136 [.agg (cSi r lg ws)] [] (.agg (zp (r,zv lg ws))) []:=by
  intro n
  induction n with
  | zero =>
    intro r lg ws hn hb hf1 hf2
    obtain rfl:ws = []:=List.length_eq_zero_iff.1 hn
    refine zg.of_walk Tryz.func136 Tryz.ntmps136 zrA zrB (by simp) fun x hx=>?_
    simp only [go_sem,ztz,ztA,cSi]
    refine zr [1,2,3] 2 (fun m st=>st=⟨mkE .top [(1,.ptr 0 0),(2,.ptr 1 0),(3,.int .i64 0)],[.box (cSi r lg []),.box [.int .i64 0,.nilsl,.nilsl]]⟩) 0 (by simp [hx]) (by simp) ?_ ?_
    · simp [zi,go_sem,zc,zd,ze,zf,pos,List.range_succ,cSi]
    · rintro m st rfl
      simp only [go_sem,cSi,zq,Int.reduceLT,Int.reduceLE,Int.reduceToNat,Int.reduceAdd,frz]
      refine zb hx ?_
      simp [go_sem,ztz,ztA,zv,Zr,zp,cSi]
  | succ n ih =>
    intro r lg ws hn hb hf1 hf2
    refine zg.of_walk Tryz.func136 Tryz.ntmps136 zrA zrB (by simp) fun x hx=>?_
    simp only [go_sem,ztz,ztA,cSi]
    refine zr [1,2,3] 2 (fun m st=>∃ k:Nat,k + m=ws.length∧zaH (zV lg) (ws.drop k) k=zd8 lg ws ∧
      st=⟨mkE .top [(1,.ptr 0 0),(2,.ptr 1 0),(3,.int .i64 k)],[.box (cSi r lg ws),.box [.int .i64 0,.nilsl,.nilsl]]⟩) ws.length (by simp [hx]) (by simp) ?_ ?_
    · refine ⟨0,by omega,by simp [zd8],?_⟩
      simp [zi,go_sem,zc,zd,ze,zf,pos,List.range_succ,cSi]
    · rintro m st ⟨k,hk,hi,rfl⟩
      by_cases hlt:k < ws.length
      · have hg:ws[k]? = some (nth ws k):=zk _ _ hlt
        have wk:=zD (k:=k) (by omega)
        have hfe:=hf2 _ (zcT hlt)
        rw [za9 _ ws k hlt] at hi
        simp only [go_sem,hlt,hg,cE,cSi]
        refine za (.pureE (zcE lg (nth ws k) (zok hf1) (by omega) hfe.1 (by have:=hfe.2; omega)) (by simp [go_sem,cE])) ?_
        cases hrd:zV lg (nth ws k)
        · rw [if_neg (by simp [hrd])] at hi
          simp only [go_sem,wk]
          refine ⟨by simp,m - 1,by omega,k + 1,by omega,hi,?_⟩
          simp [zi,go_sem,zc,zd,ze,zf,pos,List.range_succ,cSi]
        · rw [if_pos hrd] at hi
          have hs:=zfj (lg:=lg) (ws:=ws) (by rw [← hi]; omega)
          rw [← hi,Int.toNat_natCast] at hs
          have hrow1:(∀ row ∈ List.map cE ws,row.length=5)=True:=eq_true (zba ws)
          have hq1:k≤ws.length:=by omega
          have hq2:k + 1≤ws.length:=by omega
          simp only [go_sem,cE,cSi]
          rw [zB rfl rfl (zba lg) (by simp; omega)]
          simp only [go_sem,hlt,hg,cE,cSi]
          rw [zB rfl rfl (by simp) (by simp; omega)]
          have hce:List.map cE lg ++ [[PV.int .i64 (nth ws k).id.r,.int .i64 (nth ws k).id.n,.int .i64 (nth ws k).c,.str (nth ws k).t,.list ((nth ws k).ls.map cId)]]=(lg ++ [nth ws k]).map cE:=by simp [cE]
          simp only [go_sem,hce]
          repeat refine ⟨rfl,?_⟩
          simp only [go_sem,cSi,wk,hrow1,hq1,hq2,Int.le_refl,Int.sub_zero,Int.toNat_zero]
          rw [zB rfl rfl (fun row h=>zba ws row (List.mem_of_mem_take h)) (by simp; omega)]
          simp only [go_sem,cSi,wk,hrow1,hq1,hq2,Int.le_refl,Int.sub_zero,Int.toNat_zero]
          have htd:List.take ((ws.length:Int) - ((k + 1:Nat):Int)).toNat (List.drop (k + 1) (List.map cE ws))=List.drop (k + 1) (List.map cE ws):=List.take_of_length_le (by simp; omega)
          have her:List.take k (List.map cE ws) ++ List.drop (k + 1) (List.map cE ws)=(ws.eraseIdx k).map cE:=by rw [← zaL,List.eraseIdx_eq_take_drop_succ]
          rw [htd,zB rfl rfl (fun row h=>zba ws row (List.mem_of_mem_drop h)) (by simp; omega)]
          simp only [go_sem,her]
          repeat refine ⟨rfl,?_⟩
          have hel:(ws.eraseIdx k).length=n:=by rw [List.length_eraseIdx,if_pos hlt]; omega
          refine za (.pureME (H1 := [.box (cSi r lg ws),.box [.int .i64 0,.nilsl,.nilsl],.box [.int .i64 r,.arr 3 2,.arr 4 2],.arr 2 false false 32 5 ((lg ++ [nth ws k]).map cE),.arr 2 false false 32 5 ((ws.eraseIdx k).map cE)])
            (ih r (lg ++ [nth ws k]) (ws.eraseIdx k) (by omega) (by simp; omega) (zc9 hf1 hfe) (zgl hf2 k)) (zct.trans (zct.shut 3 rfl) (zct.shut 4 rfl)) (by simp [go_sem,zu,pos,cSi])) ?_
          rw [← hs]
          simp only [go_sem,zp,cSi]
          repeat refine ⟨rfl,?_⟩
          refine zb hx ?_
          simp [go_sem,ztz,ztA,zp,cSi]
      · have:ws.drop k = []:=List.drop_eq_nil_of_le (by omega)
        rw [this] at hi
        have hs:=zgj (lg:=lg) (ws:=ws) (by rw [← hi]; simp [zaH])
        simp only [go_sem,hlt,cSi]
        refine zb hx ?_
        simp [go_sem,ztz,ztA,hs,zp,cSi]
end Go.Proofs.YtkcahmbcpkjpiaaGreatDoor
