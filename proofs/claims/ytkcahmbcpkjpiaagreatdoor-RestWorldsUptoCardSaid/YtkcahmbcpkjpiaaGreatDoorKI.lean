/- Joined texts of this claim: F11 F12 J2 F4 F5 F13 F14 F15 F16 F17 L9 L23 F19 J3 J4 F18 J6 U12 Open Op1 Op2 Op4 Op7 Op8 Op9 Op11 Card. -/
import Derived.Test.YtkcahmbcpkjpiaaGreatDoorKH
import Derived.Test.YtkcahmbcpkjpiaaGreatDoorKE
import Derived.Test.YtkcahmbcpkjpiaaGreatDoorKF
import Derived.Test.YtkcahmbcpkjpiaaGreatDoorKG
import Derived.Test.YtkcahmbcpkjpiaaGreatDoorProg
import Derived.Test.YtkcahmbcpkjpiaaGreatDoorKB
import Derived.ProofKit
import Derived.OpenShut
import Derived.Carry
import Derived.SizedLaws
import Derived.Test.YtkcahmbcpkjpiaaGreatDoorKD
import Derived.Test.YtkcahmbcpkjpiaaGreatDoorRows
import Derived.LaidMore
import Derived.Lay
import Derived.SevenTiedAt
import Derived.Stop.Joined
import Derived.JoinedCond
set_option linter.unusedSimpArgs false
set_option linter.unusedVariables false
set_option linter.unusedSectionVars false
set_option maxHeartbeats 8000000
set_option maxRecDepth 100000
namespace Go.Proofs.YtkcahmbcpkjpiaaGreatDoor
open Go.RowKit
theorem zq8 {x:Cx} {nt:Nat} {st st1 st2:St} (h:st=st1) (hw:zbk x nt st1 st2):zbk x nt st st2:=h ▸ hw
theorem zlN {l:List Entry} {c:Int} {y:FOp} (h:y ∈ zgD l c):∃ e ∈ l,y.id=e.id∧zak e.c c=true∧opE e=some y:=by
 obtain ⟨e,he,hs⟩:=List.mem_filterMap.1 h
 refine ⟨e,(List.mem_filter.1 he).1,?_,(List.mem_filter.1 he).2,hs⟩
 unfold opE at hs
 split at hs
 ·
  cases hs
 ·
  cases hs; rfl
theorem zlO (l:List Entry) (c:Int):(zgD l c).length≤l.length:=by
 have a:=zeG opE (Zj l c)
 have b:=zc8 l c
 unfold zgD; omega
theorem zhG (l:List Entry) (c:Int):(zam l c).length≤l.length:=by
 have a:=zlO l c
 have:(zam l c).length≤(zgD l c).length:=List.length_filter_le ..
 omega
theorem zpm {l:List Entry} {e:Entry} (h:e ∈ l):0≤zz l e.id:=Int.not_lt.1 fun hlt=>zaI.1 hlt e h rfl
theorem zq9 {l:List Entry} {c:Int} (h:LogOk l) {y:FOp} (hy:y ∈ zgD l c):0≤zz l y.id∧zz l y.id < (Z0 l).length∧(ZD (Z0 l) l y.id).length≤9223372036854775806:=by
 have hm:=h.len
 obtain ⟨e,he,hi,-⟩:=zlN hy
 have h0:0≤zz l y.id:=by rw [hi]; exact zpm he
 obtain ⟨k,f1,f2,f3⟩:=ZO h0
 have hpl:(ZD (Z0 l) l y.id).length≤40:=by rw [zbS,f1,Int.toNat_natCast]; exact zbF h f2
 exact ⟨h0,by simp [Z0]; omega,by omega⟩
theorem zfa (l:List Entry) (c:Int) (h:LogOk l) (hc:ZX c 1 7=true) (ht:∀ e ∈ l,e.t.size≤4294967000):zg Tryz.prog 108 [.list (l.map cE),.int .i64 c] [] (.list ((zgO l c).map zcR)) []:=by
  have hm:=h.len
  have hol:=zlO l c
  have hsl:=zhG l c
  obtain ⟨v1,hdel⟩:=zmU (zgD l c) 184 [.rptr [.list ((zgD l c).map cOp)],.rptr [zF l (Z0 l)]] (fun o => !zdP (Z0 l) l (zgD l c) o) 1 (by kernel_rfl) (by omega)
    (zhE (by simp [zf,zF]) (by simp [ren,zbE,ze,zf,zF])) (fun nl f fz=>⟨by simp [zf,zF],by simp [ren,zbE,ze,zf,zF],by simp [ze,zf,zF]⟩)
    (fun o ho=>zkW l (Z0 l) (zgD l c) o (by omega) (by omega) (fun y hy=>zq9 h hy))
  have hff:((zgD l c).filter fun o => !!zdP (Z0 l) l (zgD l c) o)=zam l c:=by
    rw [zam]; congr 1; funext o; simp
  rw [hff] at hdel
  have hsort:=ziw (zam l c) v1 242 (by omega)
  have hfl:(zcr (zam l c)).length=(zam l c).length:=(zdA _).1.length_eq
  have hcl:=zg4 ((zgD l c).map cOp) (fun row hr=>by obtain ⟨o,-,rfl⟩:=List.mem_map.1 hr; rfl) (by rw [List.length_map]; omega)
  refine zg.of_parts Tryz.func108 Tryz.ntmps108 zuo zup (by simp) fun x hx=>?_
  simp only [LC.flat,ztx,zty,List.cons_append,List.nil_append]
  refine Zq 3 [5,6] 2 (fun st=>st=⟨mkE .top [(6,.rptr [.list ((zgD l c).map cOp)]),(5,.rptr [zF l (Z0 l)]),(5,.ptr 0 0),(6,.ptr 1 0)],[.gone,.gone]⟩) (by simp [hx]) (by simp) ?_ ?_
  · simp only [go_sem,ztx,zty,List.take_succ_cons,List.take_zero]
    refine za (.pureE (zc7 l h) (by simp [go_sem])) ?_
    simp only [go_sem,zF]
    refine za (.pureE (zpb l c h hc ht) (by simp [go_sem])) ?_
    simp only [go_sem,zF]
    rw [zI]
    refine ⟨by simp,_,?_,rfl⟩
    have e:=z6 (x:=x) (nt:=79) (st:=⟨mkE .top [(5,.ptr 0 0),(6,.ptr 1 0)],[.box [zF l (Z0 l)],.box [.list ((zgD l c).map cOp)]]⟩) (cells' := [zF l (Z0 l)]) (H' := [.gone,.box [.list ((zgD l c).map cOp)]]) 5 0 rfl rfl (by simp [frz,zF]) (by simp [PV.isPure,zF]) rfl
    have e2:=z6 (x:=x) (nt:=79) (st:=⟨mkE .top [(5,.rptr [zF l (Z0 l)]),(5,.ptr 0 0),(6,.ptr 1 0)],[.gone,.box [.list ((zgD l c).map cOp)]]⟩) (cells' := [.list ((zgD l c).map cOp)]) (H' := [.gone,.gone]) 6 1 rfl rfl (by simp [frz]) (by simp [PV.isPure]) rfl
    rw [Zt] at e e2
    refine zbk.trans (zq8 ?_ e) e2
    simp [zi,go_sem,zc,zd,ze,zf,pos,List.range_succ,zF]
  · rintro st rfl
    refine zY ?_
    simp only [go_sem,ztx,zty,List.drop_succ_cons,List.drop_zero]
    refine za (.heapE [] (r' := .arr 2 1) (H' := [.gone,.gone,.arr 1 true false 242 5 ((zgD l c).map cOp)]) hcl (by simp) (by simp) (by simp [go_sem]) rfl rfl rfl) ?_
    simp only [go_sem]
    refine za (.heapE [2] (r' := .arr 2 v1) (H' := [.gone,.gone,.arr v1 true false 242 5 ((zam l c).map cOp)]) hdel (by simp) (by simp) (by simp [go_sem,pos,zF]) (by simp [zc,zd,go_sem,pos]) (by simp [zbE,ren,ze,zf,ZA,Zb]) (by simp [Zk,zH,zK,zd,pos,go_sem,List.range_succ,ZA,Zb])) ?_
    simp only [go_sem]
    refine za (.heapE [2] (r' := .tup []) (H' := [.gone,.gone,.arr v1 true false 242 5 ((zcr (zam l c)).map cOp)]) hsort (by simp) (by simp) (by simp [go_sem,pos]) (by simp [zc,zd,go_sem,pos]) rfl (by simp [Zk,zH,zK,zd,pos,go_sem,List.range_succ,ZA,Zb])) ?_
    simp only [go_sem,List.length_map]
    obtain ⟨S,hS⟩:∃ S,zcr (zam l c)=S:=⟨_,rfl⟩
    have hraw:zgO l c=zj1 (S.map FOp.kv):=by rw [zgO,hS]
    rw [hS] at hfl
    rw [hS,hraw]
    refine zqM (fun n st=>∃ k vo:Nat,k + n=S.length ∧
      ((zj1 ((S.take k).map FOp.kv) = []∧k=0∧st=⟨mkE .top [(7,.arr 0 v1),(8,.arr 1 vo),(23,.arr 0 v1),(24,.int .i64 S.length),(25,.int .i64 k)],[.arr v1 true false 242 5 (S.map cOp),.arr vo true true 102 2 []]⟩) ∨
       ∃ (o:List KV) (key:ByteArray) (vs:List ByteArray) (v2:Nat),zj1 ((S.take k).map FOp.kv)=o ++ [(key,vs)]∧(o.length + 1≤k∧vs.length≤k) ∧
        st=⟨mkE .top [(7,.arr 0 v1),(8,.arr 1 vo),(23,.arr 0 v1),(24,.int .i64 S.length),(25,.int .i64 k)],[.arr v1 true false 242 5 (S.map cOp),.arr vo true true 102 2 (o.map zcR ++ [[.str key,.arr 2 v2]]),.arr v2 true false 9 1 (vs.map zb5)]⟩)) S.length ?_ ?_
    · refine ⟨_,zbk.trans (ZQ 8 0 102 2 true true rfl (by omega)) (zbz [7,8,23,24,25] [2,3] (by simp) (by simp [St.put]) (by simp [hx])),0,0,by omega,.inl ⟨rfl,rfl,?_⟩⟩
      rw [Zt]
      simp [zdM,go_sem,zc,zd,pos,List.range_succ]
    · rintro n st ⟨k,vo,hk,hI⟩
      by_cases hlt:k < S.length
      · have hg:S[k]? = some (nth S k):=zk _ _ hlt
        have wk:=zD (k:=k) (by omega)
        have hst:=zpl hlt
        rcases hI with ⟨hg0,rfl,rfl⟩ | ⟨o,key,vs,v2,hgo,hlen,rfl⟩
        · rw [hg0] at hst
          have h0:((0:Int) < (S.length:Int))=True:=eq_true (by omega)
          have hneg:IntKind.i64.wrap ((0:Int) - 1) = -1:=by decide
          have hneg2:((-1:Int) < 0)=True:=eq_true (by decide)
          have w1:IntKind.i64.wrap ((0:Int) + 1)=1:=by decide
          simp only [go_sem,zq,Int.reduceLT,Int.reduceLE,Int.reduceToNat,Int.reduceAdd,frz,List.length_map,hlt,hg,h0,hneg,hneg2,List.getElem?_map,Option.map_some,cOp,List.length_nil,PV.isPure,List.all_cons,List.all_nil]
          rw [zds rfl rfl (by simp) (by simp)]
          have w2:IntKind.i64.wrap (1:Int)=1:=by decide
          simp only [go_sem,zq,Int.reduceLT,Int.reduceLE,Int.reduceToNat,Int.reduceAdd,frz,w1,w2]
          refine ⟨n - 1,_,by omega,zbz [7,8,23,24,25] [0,1,3] (by simp) (by simp) (by simp [hx]),1,vo + 1,by omega,.inr ⟨[],(nth S 0).k,[(nth S 0).v],0,?_,by simp,?_⟩⟩
          · rw [hst]; rfl
          · simp [zdM,go_sem,zc,zd,ze,zf,pos,List.range_succ,zb5]
        · rw [hgo] at hst
          have hL:(List.map zcR o ++ [[PV.str key,PV.arr 2 v2]]).length=o.length + 1:=by simp
          have hw1:IntKind.i64.wrap (((o.length + 1:Nat):Int) - 1)=(o.length:Int):=by rw [IntWalk.i64_in _ (by omega)]; omega
          have hng:((o.length:Int) < 0)=False:=eq_false (by omega)
          have hge:(List.map zcR o ++ [[PV.str key,PV.arr 2 v2]])[o.length]? = some [PV.str key,PV.arr 2 v2]:=by
            rw [List.getElem?_append_right (by simp)]; simp
          have hlo:o.length < o.length + 1:=by omega
          simp only [go_sem,zq,Int.reduceLT,Int.reduceLE,Int.reduceToNat,Int.reduceAdd,frz,List.length_map,hlt,hg,List.getElem?_map,Option.map_some,cOp,hL,hw1,hng,hge,hlo]
          by_cases hk2:key=(nth S k).k
          · simp only [go_sem,zq,Int.reduceLT,Int.reduceLE,Int.reduceToNat,Int.reduceAdd,frz,hk2,decide_true,hL,hw1,hng,hge,hlo]
            subst hk2
            simp only [go_sem,zq,Int.reduceLT,Int.reduceLE,Int.reduceToNat,Int.reduceAdd,frz,hL,hw1,hng,hge,hlo]
            refine za (.scalarE (ze9 vs (nth S k).v (by omega)) rfl (by simp [go_sem,zu,pos])) ?_
            cases hct:vs.any fun x=>decide ((nth S k).v=x)
            · simp only [go_sem,zq,Int.reduceLT,Int.reduceLE,Int.reduceToNat,Int.reduceAdd,frz,hL,hw1,hng,hge,hlo,PV.isPure,List.all_cons,List.all_nil]
              rw [zB rfl rfl (by simp) (by simp; omega)]
              simp only [go_sem,zq,Int.reduceLT,Int.reduceLE,Int.reduceToNat,Int.reduceAdd,frz,hL,hw1,hng,hge,hlo,wk,true_or,or_true,Option.map_some]
              repeat refine ⟨rfl,?_⟩
              try simp only [go_sem,zq,Int.reduceLT,Int.reduceLE,Int.reduceToNat,Int.reduceAdd,frz,wk]
              refine ⟨n - 1,_,by omega,zbz [7,8,23,24,25] [0,1,2] (by simp) (by simp) (by simp [hx]),k + 1,vo,by omega,.inr ⟨o,(nth S k).k,vs ++ [(nth S k).v],v2 + 1,?_,by simp; omega,?_⟩⟩
              · rw [hst]; exact zlL hct
              · simp [zdM,go_sem,zc,zd,ze,zf,pos,List.range_succ,zb5,zcR,zu]
            · simp only [go_sem,zq,Int.reduceLT,Int.reduceLE,Int.reduceToNat,Int.reduceAdd,frz,wk]
              refine ⟨n - 1,_,by omega,zbz [7,8,23,24,25] [0,1,2] (by simp) (by simp) (by simp [hx]),k + 1,vo,by omega,.inr ⟨o,(nth S k).k,vs,v2,?_,by omega,?_⟩⟩
              · rw [hst]; exact zpk hct
              · simp [zdM,go_sem,zc,zd,ze,zf,pos,List.range_succ,zb5,zcR,zu]
          · simp only [go_sem,zq,Int.reduceLT,Int.reduceLE,Int.reduceToNat,Int.reduceAdd,frz,hk2,decide_false,hL,hw1,hng,hge,hlo,PV.isPure,List.all_cons,List.all_nil]
            rw [zds rfl rfl (by simp) (by simp; omega)]
            simp only [go_sem,zq,Int.reduceLT,Int.reduceLE,Int.reduceToNat,Int.reduceAdd,frz,wk]
            refine ⟨n - 1,_,by omega,zbz [7,8,23,24,25] [0,1,4] (by simp) (by simp) (by simp [hx]),k + 1,vo + 1,by omega,.inr ⟨o ++ [(key,vs)],(nth S k).k,[(nth S k).v],0,?_,by simp; omega,?_⟩⟩
            · rw [hst]; exact zlM hk2
            · simp [zdM,go_sem,zc,zd,ze,zf,pos,List.range_succ,zb5,zcR,zu]
      · have hkS:k=S.length:=by omega
        have hkn:¬ ((k:Int) < (S.length:Int)):=by omega
        rw [List.take_of_length_le (by omega)] at hI
        rcases hI with ⟨hg0,rfl,rfl⟩ | ⟨o,key,vs,v2,hgo,hlen,rfl⟩
        · rw [hg0]
          simp only [go_sem,zq,Int.reduceLT,Int.reduceLE,Int.reduceToNat,Int.reduceAdd,frz,hkn,hlt]
          have h0:((0:Int) < (S.length:Int))=False:=eq_false (by omega)
          simp only [go_sem,zq,Int.reduceLT,Int.reduceLE,Int.reduceToNat,Int.reduceAdd,frz,h0]
          refine zt (zlK 1 (rows' := []) rfl rfl rfl) ?_
          refine zb hx ?_
          simp [go_sem,ztx,zty,zu,pos]
        · rw [hgo]
          simp only [go_sem,zq,Int.reduceLT,Int.reduceLE,Int.reduceToNat,Int.reduceAdd,frz,hkn,hlt]
          refine zt (zbk.trans (zbz [4] [0,1] (by simp) (by simp) (by simp [hx])) (zlK 1 (v:=vo) (T:=102) (sz:=2) (sto:=true) (rows:=(o ++ [(key,vs)]).map zcR) (rows':=(o ++ [(key,vs)]).map zcR) ?_ ?_ ?_)) ?_
          · simp [zdM,go_sem,zc,zd,ze,zf,pos,List.range_succ,zcR,zu]
          · simp [zcR,frz]
          · simp [zcR,PV.isPure]
          refine zb hx ?_
          simp [zdM,go_sem,ztx,zty,zu,pos,zc]
def zb1 (l:List Entry) (c:Int):Int:=if z8 l=0 then (if ZX c 1 7=true then 0 else 3) else z8 l
noncomputable def ztF (l:List Entry) (c:Int):List KV:=if zb1 l c=0 then zgO l c else []
theorem zpn {l:List Entry} {c:Int}:zb1 l c=0↔LogOk l∧ZX c 1 7=true:=by
 unfold zb1
 rw [← zaQ]
 split
 ·
  split <;> simp_all
 ·
  simp_all
theorem ztk {l:List Entry} (h:LogOk l):∀ e ∈ l,e.t.size≤12:=fun e he=>by
 obtain ⟨k,hk,rfl⟩:=List.getElem_of_mem he
 have:=h.chk k hk
 rw [zy _ _ hk] at this
 exact (Zd this).2.2.1
theorem zpo (l:List Entry) (c:Int) (hl:l.length≤9223372036854775806):zg Tryz.prog 35 [.list (l.map cE),.int .i64 c] [] (.tup [.list ((ztF l c).map zcR),.int .i64 (zb1 l c)]) []:=by
 refine zg.of_walk Tryz.func35 Tryz.ntmps35 zx2 zx3 (by simp) fun x hx=>?_
 simp only [go_sem,L35,R35]
 refine za (.pureE (zcl l hl) (by simp [go_sem])) ?_
 by_cases h1:z8 l=0
 ·
  simp only [go_sem,h1]
  refine za (.pureE (za8 c) (by simp [go_sem])) ?_
  cases h2:ZX c 1 7
  ·
   have he:zb1 l c=3:=by simp [zb1,h1,h2]
   simp only [go_sem,zq,Int.reduceLT,Int.reduceLE,Int.reduceToNat,Int.reduceAdd,frz]
   refine zb hx ?_
   simp [go_sem,L35,R35,he,ztF]
  ·
   have he:zb1 l c=0:=by simp [zb1,h1,h2]
   have hok:=zaQ.1 h1
   simp only [go_sem,zq,Int.reduceLT,Int.reduceLE,Int.reduceToNat,Int.reduceAdd,frz]
   refine za (.pureE (zfa l c hok h2 (fun e hem=>by have:=ztk hok e hem; omega)) (by simp [go_sem])) ?_
   simp only [go_sem]
   refine zb hx ?_
   simp [go_sem,L35,R35,he,ztF]
 ·
  have he:zb1 l c=z8 l:=by simp [zb1,h1]
  simp only [go_sem,h1]
  refine zb hx ?_
  simp [go_sem,L35,R35,he,h1,ztF]
instance:Inhabited KV:=⟨(⟨#[]⟩,[])⟩
theorem zra (out:List KV) (o:ByteArray × ByteArray):(zkc out o).length≤out.length + 1:=by
 unfold zkc
 split
 ·
  split
  ·
   split
   ·
    omega
   ·
    rename_i p hp _ _
    have:out ≠ []:=by intro e; rw [e] at hp; simp at hp
    have:=List.length_pos_iff.2 this
    simp
    try omega
  ·
   simp
 ·
  simp
theorem zrb (l:List (ByteArray × ByteArray)):(zj1 l).length≤l.length:=by
 have key:∀ (l:List (ByteArray × ByteArray)) (out:List KV),(l.foldl zkc out).length≤out.length + l.length:=by
  intro l
  induction l with
  | nil=>intro out; simp
  | cons o l ih=>intro out; have a:=ih (zkc out o); have b:=zra out o; simp only [List.foldl_cons,List.length_cons]; omega
 have:=key l []
 simpa [zj1] using this
theorem zrc (l:List Entry) (c:Int):(zgO l c).length≤l.length:=by
 have a:=zrb ((zcr (zam l c)).map FOp.kv)
 have b:=(zdA (zam l c)).1.length_eq
 have d:=zhG l c
 rw [List.length_map] at a
 unfold zgO; omega
def zeJ:ByteArray:=⟨#[44]⟩
def eqB:ByteArray:=⟨#[61]⟩
def zmV:ByteArray:=⟨#[59]⟩
def zlP:ByteArray:=⟨#[]⟩
def zfo (p:KV):ByteArray:=ze7 [p.1,eqB,ze7 p.2 zeJ,zmV] zlP
def wrL (m:List KV):ByteArray:=m.foldl (fun s p=>s ++ zfo p) zlP
def okM (m:List KV):Prop:=m.length≤1000∧∀ p ∈ m,p.1.size≤3∧p.2.length≤1000000∧∀ v ∈ p.2,v.size≤3
theorem zdB (l:List ByteArray) (sep:ByteArray):(ze7 l sep).data.toList=Lib.join (l.map (·.data.toList)) sep.data.toList:=by simp [ze7]
theorem ztl {l:List ByteArray} (h:∀ v ∈ l,v.size≤3):Lib.lens (l.map (·.data.toList))≤3 * l.length:=by
 induction l with
 | nil=>simp [Lib.lens]
 | cons x l ih =>
  have h1:=ih fun v hv=>h v (List.mem_cons_of_mem _ hv)
  have h2:x.data.toList.length≤3:=by rw [zcI]; exact h x List.mem_cons_self
  simp only [Lib.lens,List.map_cons,List.sum_cons,List.length_cons] at h1 ⊢
  omega
theorem zpp {l:List ByteArray} (h:∀ v ∈ l,v.size≤3):(Lib.join (l.map (·.data.toList)) zeJ.data.toList).length≤4 * l.length:=by
 cases l with
 | nil=>simp [Lib.join_nil]
 | cons x r =>
  have h1:=ztl h
  rw [List.map_cons] at h1
  rw [List.map_cons,Lib.join_length,List.length_map]
  have:zeJ.data.toList.length=1:=rfl
  rw [this]
  simp only [List.length_cons] at h1 ⊢
  omega
theorem zpq (p:KV):(zfo p).data.toList=p.1.data.toList ++ (61 :: ((ze7 p.2 zeJ).data.toList ++ [59])):=by
 rw [zfo,zdB]
 simp [Lib.join_cons,Lib.joinTail,eqB,zmV,zlP]
theorem zpr (p:KV):(Lib.join ([p.1,eqB,ze7 p.2 zeJ,zmV].map (·.data.toList)) zlP.data.toList).length=(zfo p).size:=by
 rw [← zdB,zcI]; rfl
theorem zps {p:KV} (h1:p.1.size≤3) (h2:p.2.length≤1000000) (h3:∀ v ∈ p.2,v.size≤3):(zfo p).size≤4000005:=by
 rw [← zcI,zpq]
 have:=zpp h3
 rw [← zdB] at this
 have e:=zcI p.1
 simp only [List.length_append,List.length_cons,List.length_nil]
 omega
theorem zpt {m:List KV} {k:Nat} (h:k < m.length):wrL (m.take (k + 1))=wrL (m.take k) ++ zfo (nth m k):=by
 rw [List.take_add_one,zk _ _ h,wrL,List.foldl_append]; rfl
theorem zwX {m:List KV} (h:okM m):∀ k,k≤m.length→(wrL (m.take k)).size≤4000005 * k
 | 0,_=>by show (wrL []).size≤0; exact Nat.le_refl _
 | k + 1,hk=>by
  have ih:=zwX h k (by omega)
  obtain ⟨a,b,c⟩:=h.2 _ (zcT (by omega:k < m.length))
  have:=zps a b c
  rw [zpt (by omega),ByteArray.size_append]
  omega
theorem zpu (s : ByteArray) (l : List ByteArray) (v T : Nat) (hl : l.length ≤ 140737488355328) (hj : (Lib.join (l.map (·.data.toList)) zlP.data.toList).length ≤ 140737488355328) (hs : s.size ≤ 140737488355328) :
    zg Tryz.prog 207 [.arr 1 v,.ptr 0 0] [.box [.str s],.arr v true false T 1 (l.map zb5)] (.tup []) [.box [.str (s ++ ze7 l zlP)],.arr v true false T 1 (l.map zb5)]:=by
  have hz:s.size + (ze7 l zlP).size≤4611686018427387904:=by rw [← zcI (ze7 l zlP),zdB]; omega
  refine zg.of_walk Tryz.func207 Tryz.ntmps207 zvK zvL (by simp) fun x hx=>?_
  simp only [go_sem,zzG,zzH]
  refine za (.scalarE (zhD l zlP hl hj) rfl (by simp [go_sem,zu,pos,zlP])) ?_
  simp only [go_sem,hz]
  repeat refine ⟨rfl,?_⟩
  refine ZG [] (by simp) (by simp) (by simp [hx]) ?_ ?_
  · simp [go_sem,zzG,zzH,hx]
  · simp [go_sem,hx,zc,zd,pos,List.range_succ]
theorem zcJ (m:List KV) (h:okM m):zg Tryz.prog 130 [.list (m.map zcR)] [] (.str (wrL m)) []:=by
 have hlen:=h.1
 refine zg.of_walk Tryz.func130 Tryz.ntmps130 zuE zuF (by simp) fun x hx=>?_
 simp only [go_sem,zza,zzb]
 refine zr [3,4,8,9,10] 1 (fun q st=>∃ k:Nat,k + q=m.length ∧
  st=⟨mkE .top [(3,.ptr 0 0),(4,.clo 207 [.ptr 0 0]),(8,.list (m.map zcR)),(9,.int .i64 m.length),(10,.int .i64 k)],[.box [.str (wrL (m.take k))]]⟩) m.length (by simp [hx]) (by simp) ?_ ?_
 ·
  refine ⟨0,by omega,?_⟩
  simp [zi,go_sem,zc,zd,ze,zf,pos,List.range_succ,wrL,zlP]
 ·
  rintro q st ⟨k,hk,rfl⟩
  by_cases hlt:k < m.length
  ·
   have hg:m[k]? = some (nth m k):=zk _ _ hlt
   have wk:=zD (k:=k) (by omega)
   obtain ⟨a,b,c⟩:=h.2 _ (zcT hlt)
   have hwl:=zwX h k (by omega)
   have hst:=zpt hlt
   have hj:=zpp c
   have hpl:=zps a b c
   generalize nth m k=p at *
   simp only [go_sem,hlt,hg,zcR]
   refine za (.pureE (zhD p.2 zeJ (by omega) (by omega)) (by simp [go_sem,zeJ])) ?_
   simp only [go_sem]
   have hput:=zpu (wrL (m.take k)) [p.1,eqB,ze7 p.2 zeJ,zmV] 0 9 (by simp) (by rw [zpr]; omega) (by omega)
   refine zan rfl (by kernel_rfl) (.heapE [0,2] (r' := .tup []) (H' := [.box [.str (wrL (m.take k) ++ zfo p)],.box (zcR p),.arr 0 true false 9 1 ([p.1,eqB,ze7 p.2 zeJ,zmV].map zb5)]) hput (by simp) (by simp) (by simp [go_sem,pos]) ?_ ?_ ?_) ?_
   ·
    simp [zc,zd,ze,zf,pos,zb5,eqB,zmV]
   ·
    simp [zbE,ren,ze,zf]
   ·
    simp [Zk,zH,zK,ZA,Zb,zd,ze,zf,pos,List.range_succ,zfo,zcR]
   simp only [go_sem,wk]
   refine ⟨by simp,q - 1,by omega,k + 1,by omega,?_⟩
   simp [zi,go_sem,zc,zd,ze,zf,pos,List.range_succ,hst]
  ·
   have:m.take k=m:=List.take_of_length_le (by omega)
   rw [this]
   simp only [go_sem,hlt]
   refine zb hx ?_
   simp [go_sem,zza,zzb]
theorem zix {s:ByteArray} (h:zdm s=true):1≤s.size∧s.size≤3:=by
 simp only [zdm,zq1,Bool.and_eq_true,decide_eq_true_eq,zcI] at h
 exact ⟨h.1.2,h.2⟩
def zb2 (s:ByteArray) (r:List ByteArray × Bool) (y:ByteArray):List ByteArray × Bool :=
 ((if r.2=false∧leB s y=true then r.1 ++ [s] else r.1) ++ (if y=s then [] else [y]),r.2 || leB s y)
def wtF (s:ByteArray) (l:List ByteArray):List ByteArray × Bool:=l.foldl (zb2 s) ([],false)
def zrd (l:List ByteArray) (s:ByteArray):List ByteArray:=if (wtF s l).2=true then (wtF s l).1 else (wtF s l).1 ++ [s]
def zmW (l:List Entry) (c:Int) (key:ByteArray) (i:Nat):Bool:=decide ((zbD (nth l i).t).1=1) && (decide ((zbD (nth l i).t).2.1=key) && zak (nth l i).c c)
def zwY (l:List Entry) (c:Int) (key:ByteArray) (i n:Nat):Bool:=decide (¬ (zbD (nth l n).t).1=0) && (decide ((zbD (nth l n).t).2.1=key) && (zak (nth l n).c c && nth (zax l n) i))
def zpv (l:List Entry) (c:Int) (key:ByteArray) (i k:Nat):Bool:=(List.range k).all fun n => !zwY l c key i n
def ziy (l:List Entry) (c:Int) (key:ByteArray) (out:List ByteArray) (i:Nat):List ByteArray:=if (zmW l c key i && zpv l c key i l.length)=true then zrd out (zbD (nth l i).t).2.2 else out
def zcN (l:List Entry) (c:Int) (key:ByteArray) (k:Nat):List ByteArray:=(List.range k).foldl (ziy l c key) []
def zpw (l:List Entry) (c:Int) (key:ByteArray):List ByteArray:=zcN l c key l.length
theorem zgF (l:List Entry) (c:Int) (key:ByteArray) (k:Nat):zcN l c key (k + 1)=ziy l c key (zcN l c key k) k:=by
 rw [zcN,List.range_succ,List.foldl_append]; rfl
theorem zpx:∀ a b:List UInt8,Go.Op.bytesLess a b=decide (Lib.compareBytes a b < 0)
 | [],[]=>rfl
 | [],_ :: _=>rfl
 | _ :: _,[]=>rfl
 | x :: a,y :: b=>by
  rw [Go.Op.bytesLess,Lib.compareBytes]
  by_cases h1:x < y
  ·
   rw [if_pos h1]; simp [h1]
  ·
   rw [if_neg h1]
   by_cases h2:y < x
   ·
    have:¬ x=y:=by intro e; rw [e] at h1 h2; exact h1 h2
    rw [if_pos h2]; simp [h1,this]
   ·
    have:x=y:=by
     rw [UInt8.lt_iff_toNat_lt] at h1 h2
     exact UInt8.toNat.inj (by omega)
    rw [if_neg h2,zpx a b]
    simp [h1,this]
theorem zpy (a b:ByteArray):leB a b=decide (zdn a b≤0):=by
 have ha:a.toList=a.data.toList:=ByteArray.toList_eq a
 have hb:b.toList=b.data.toList:=ByteArray.toList_eq b
 rw [leB,ha,hb,zpx]
 unfold zdn
 by_cases h:Lib.compareBytes a.data.toList b.data.toList < 0
 ·
  simp [h]; omega
 ·
  by_cases h2:Lib.compareBytes a.data.toList b.data.toList=0
  ·
   have:=zkZ h2
   simp [this,zit]
  ·
   have:¬ a.data.toList=b.data.toList:=fun e=>h2 (by rw [e]; exact zit _)
   have h3:¬ Lib.compareBytes a.data.toList b.data.toList≤0:=by omega
   have h4:¬ a.data=b.data:=fun e=>this (by rw [e])
   simp [h,h4,h3]
def Up (l:List ByteArray):Prop:=l.Pairwise fun a b=>zdn a b < 0
def zlQ (s:ByteArray):List ByteArray→List ByteArray
 | [] => [s]
 | y :: l=>if zdn s y < 0 then s :: y :: l else if y=s then s :: l else y :: zlQ s l
theorem ziz (s:ByteArray):∀ (l r:List ByteArray),l.foldl (zb2 s) (r,true)=(r ++ l.filter (fun y => !decide (y=s)),true)
 | [],r=>by simp
 | y :: l,r=>by
  rw [List.foldl_cons]
  by_cases h:y=s
  ·
   have:zb2 s (r,true) y=(r,true):=by simp [zb2,h]
   rw [this,ziz s l r]; simp [h]
  ·
   have:zb2 s (r,true) y=(r ++ [y],true):=by simp [zb2,h]
   rw [this,ziz s l _]; simp [h]
theorem zlR (s:ByteArray):∀ (l r:List ByteArray),Up l→(if (l.foldl (zb2 s) (r,false)).2=true then (l.foldl (zb2 s) (r,false)).1 else (l.foldl (zb2 s) (r,false)).1 ++ [s])=r ++ zlQ s l
 | [],r,_=>by simp [zlQ]
 | y :: l,r,hu=>by
  obtain ⟨h1,h2⟩:=List.pairwise_cons.1 hu
  rw [List.foldl_cons,zlQ]
  by_cases hle:leB s y=true
  ·
   have hc:zdn s y≤0:=by rw [zpy] at hle; exact of_decide_eq_true hle
   have hf:l.filter (fun y => !decide (y=s))=l:=List.filter_eq_self.2 fun z hz=>by
    have hyz:=h1 z hz
    have:z≠s:=by
     rintro rfl
     have:=zeI z y
     omega
    simp [this]
   by_cases hy:y=s
   ·
    have h0:¬ zdn s y < 0:=by rw [hy,zb0]; omega
    have:zb2 s (r,false) y=(r ++ [s],true):=by
     rw [zb2]; simp [hle,hy]
     rw [← hy]; rw [hy] at hle ⊢; simp [hle]
    rw [this,ziz,hf,if_neg h0,if_pos hy]
    simp
   ·
    have h0:zdn s y < 0:=by
     rcases Int.lt_or_eq_of_le hc with h | h
     ·
      exact h
     ·
      exact (hy (zbe h).symm).elim
    have:zb2 s (r,false) y=(r ++ [s] ++ [y],true):=by rw [zb2]; simp [hle,hy]
    rw [this,ziz,hf,if_pos h0]
    simp
  ·
   have hle':leB s y=false:=by simpa using hle
   have hc:¬ zdn s y≤0:=by rw [zpy] at hle'; exact of_decide_eq_false hle'
   have hy:¬ y=s:=by rintro rfl; rw [zb0] at hc; omega
   have:zb2 s (r,false) y=(r ++ [y],false):=by rw [zb2]; simp [hle',hy]
   rw [this,zlR s l _ h2,if_neg (by omega),if_neg hy]
   simp
theorem zeK {l:List ByteArray} (s:ByteArray) (h:Up l):zrd l s=zlQ s l:=by
 have:=zlR s l [] h
 rw [zrd,wtF,this]; simp
theorem ziA (s:ByteArray):∀ {l:List ByteArray} {z:ByteArray},z ∈ zlQ s l↔z=s∨z ∈ l
 | [],z=>by simp [zlQ]
 | y :: l,z=>by
  rw [zlQ]
  split
  ·
   simp
  ·
   split
   ·
    rename_i h; subst h; simp
   ·
    rw [List.mem_cons,ziA s,List.mem_cons]
    constructor
    ·
     rintro (h | h | h)
     ·
      exact .inr (.inl h)
     ·
      exact .inl h
     ·
      exact .inr (.inr h)
    ·
     rintro (h | h | h)
     ·
      exact .inr (.inl h)
     ·
      exact .inl h
     ·
      exact .inr (.inr h)
theorem zpz (s:ByteArray):∀ {l:List ByteArray},Up l→Up (zlQ s l)
 | [],_=>by simp [Up,zlQ]
 | y :: l,hu=>by
  obtain ⟨h1,h2⟩:=List.pairwise_cons.1 hu
  rw [zlQ]
  split
  ·
   rename_i h
   refine List.pairwise_cons.2 ⟨fun z hz=>?_,hu⟩
   rcases List.mem_cons.1 hz with rfl | hz
   ·
    exact h
   ·
    exact zbG h (h1 z hz)
  ·
   split
   ·
    rename_i h; subst h; exact hu
   ·
    rename_i h0 hy
    refine List.pairwise_cons.2 ⟨fun z hz=>?_,zpz s h2⟩
    rcases (ziA s).1 hz with rfl | hz
    ·
     have a:=zeI y z
     by_cases e:zdn y z=0
     ·
      exact (hy (zbe e)).elim
     ·
      omega
    ·
     exact h1 z hz
theorem ziB (s:ByteArray):∀ l:List ByteArray,(zlQ s l).length≤l.length + 1
 | []=>by simp [zlQ]
 | y :: l=>by
  rw [zlQ]
  split
  ·
   simp
  ·
   split
   ·
    simp
   ·
    have:=ziB s l
    simp; omega
theorem zgG {α:Type} {r:α→α→Prop} (hi:∀ x,¬ r x x) (ht:∀ x y z,r x y→r y z→r x z):∀ {a b:List α},a.Pairwise r→b.Pairwise r→(∀ x,x ∈ a↔x ∈ b)→a=b
 | [],[],_,_,_=>rfl
 | [],y :: b,_,_,h=>by have:=(h y).2 (by simp); simp at this
 | x :: a,[],_,_,h=>by have:=(h x).1 (by simp); simp at this
 | x :: a,y :: b,h1,h2,h=>by
  obtain ⟨a1,a2⟩:=List.pairwise_cons.1 h1
  obtain ⟨b1,b2⟩:=List.pairwise_cons.1 h2
  have e:x=y:=by
   rcases List.mem_cons.1 ((h x).1 (by simp)) with e | hx
   ·
    exact e
   ·
    rcases List.mem_cons.1 ((h y).2 (by simp)) with e | hy
    ·
     exact e.symm
    ·
     exact (hi _ (ht _ _ _ (b1 x hx) (a1 y hy))).elim
  subst e
  rw [zgG hi ht a2 b2 fun z=>?_]
  constructor
  ·
   intro hz
   rcases List.mem_cons.1 ((h z).1 (List.mem_cons_of_mem _ hz)) with rfl | hz'
   ·
    exact (hi _ (a1 _ hz)).elim
   ·
    exact hz'
  ·
   intro hz
   rcases List.mem_cons.1 ((h z).2 (List.mem_cons_of_mem _ hz)) with rfl | hz'
   ·
    exact (hi _ (b1 _ hz)).elim
   ·
    exact hz'
theorem zAa {a b:List ByteArray} (h1:Up a) (h2:Up b) (h:∀ x,x ∈ a↔x ∈ b):a=b :=
 zgG (r:=fun a b=>zdn a b < 0) (fun x=>by rw [zb0]; omega) (fun x y z=>zbG) h1 h2 h
structure GoodM (m:List KV):Prop where
 keys:m.Pairwise fun p q=>zdn p.1 q.1 < 0
 vals:∀ p ∈ m,Up p.2∧p.2 ≠ []
def inM (m:List KV) (k v:ByteArray):Prop:=∃ p ∈ m,p.1=k∧v ∈ p.2
theorem GoodM.one {m:List KV} (h:GoodM m) {p q:KV} (hp:p ∈ m) (hq:q ∈ m) (e:p.1=q.1):p=q:=by
 obtain ⟨i,hi,rfl⟩:=List.getElem_of_mem hp
 obtain ⟨j,hj,rfl⟩:=List.getElem_of_mem hq
 have hk:=List.pairwise_iff_getElem.1 h.keys
 rcases Nat.lt_trichotomy i j with hij | rfl | hij
 ·
  have:=hk i j hi hj hij; rw [e,zb0] at this; omega
 ·
  rfl
 ·
  have:=hk j i hj hi hij; rw [e,zb0] at this; omega
theorem ztm {a b:List KV} (ha:GoodM a) (hb:GoodM b) (h:∀ k v,inM a k v↔inM b k v):a=b:=by
 have half:∀ {a b:List KV},GoodM a→GoodM b→(∀ k v,inM a k v↔inM b k v)→∀ p ∈ a,p ∈ b:=by
  intro a b ha hb h p hp
  obtain ⟨hu,hne⟩:=ha.vals p hp
  obtain ⟨v,hv⟩:=List.exists_mem_of_ne_nil _ hne
  obtain ⟨q,hq,hk,-⟩:=(h p.1 v).1 ⟨p,hp,rfl,hv⟩
  have:p.2=q.2:=zAa hu (hb.vals q hq).1 fun x=>by
   constructor
   ·
    intro hx
    obtain ⟨q',hq',hk',hx'⟩:=(h p.1 x).1 ⟨p,hp,rfl,hx⟩
    rw [hb.one hq hq' (by rw [hk,hk'])]; exact hx'
   ·
    intro hx
    obtain ⟨p',hp',hk',hx'⟩:=(h p.1 x).2 ⟨q,hq,hk,hx⟩
    rw [ha.one hp hp' hk'.symm]; exact hx'
  rw [show p=q from Prod.ext hk.symm this]; exact hq
 refine zgG (r:=fun p q:KV=>zdn p.1 q.1 < 0) (fun x=>by rw [zb0]; omega) (fun x y z=>zbG) ha.keys hb.keys fun p=>⟨half ha hb h p,half hb ha (fun k v=>(h k v).symm) p⟩
theorem zeL (l:List Entry) (c:Int) (key:ByteArray):∀ k,Up (zcN l c key k)∧(zcN l c key k).length≤k
 | 0=>⟨by simp [zcN,Up],by simp [zcN]⟩
 | k + 1=>by
  obtain ⟨h1,h2⟩:=zeL l c key k
  rw [zgF,ziy]
  split
  ·
   rw [zeK _ h1]
   exact ⟨zpz _ h1,by have:=ziB (zbD (nth l k).t).2.2 (zcN l c key k); omega⟩
  ·
   exact ⟨h1,by omega⟩
theorem zdC {l:List Entry} {c:Int} {key v:ByteArray}:∀ {k:Nat},v ∈ zcN l c key k↔∃ i,i < k∧zmW l c key i=true∧zpv l c key i l.length=true∧v=(zbD (nth l i).t).2.2
 | 0=>by simp [zcN]
 | k + 1=>by
  rw [zgF,ziy]
  split
  ·
   rename_i hc
   rw [Bool.and_eq_true] at hc
   rw [zeK _ (zeL l c key k).1,ziA,zdC]
   constructor
   ·
    rintro (h | ⟨i,h1,h2⟩)
    ·
     exact ⟨k,by omega,hc.1,hc.2,h⟩
    ·
     exact ⟨i,by omega,h2⟩
   ·
    rintro ⟨i,h1,h2,h3,h4⟩
    by_cases e:i=k
    ·
     subst e; exact .inl h4
    ·
     exact .inr ⟨i,by omega,h2,h3,h4⟩
  ·
   rename_i hc
   rw [zdC]
   constructor
   ·
    rintro ⟨i,h1,h2⟩; exact ⟨i,by omega,h2⟩
   ·
    rintro ⟨i,h1,h2,h3,h4⟩
    by_cases e:i=k
    ·
     subst e; exact (hc (by rw [h2,h3]; rfl)).elim
    ·
     exact ⟨i,by omega,h2,h3,h4⟩
def zgH (ks:List ByteArray) (e:Entry):List ByteArray:=if (zbD e.t).1=1 then zrd ks (zbD e.t).2.1 else ks
def zch (l:List Entry):List ByteArray:=l.foldl zgH []
theorem zmX (l:List Entry) (e:Entry):zch (l ++ [e])=zgH (zch l) e:=by rw [zch,List.foldl_append]; rfl
theorem zgI {l:List Entry} {k:Nat} (h:k < l.length):zch (l.take (k + 1))=zgH (zch (l.take k)) (nth l k):=by
 rw [List.take_add_one,zk _ _ h,Option.toList_some,zmX]
theorem zgJ {l:List Entry}:∀ k,k≤l.length→Up (zch (l.take k))∧(zch (l.take k)).length≤k
 | 0,_=>⟨by simp [zch,Up],by simp [zch]⟩
 | k + 1,h=>by
  obtain ⟨h1,h2⟩:=zgJ (l:=l) k (by omega)
  rw [zgI (by omega),zgH]
  split
  ·
   rw [zeK _ h1]
   exact ⟨zpz _ h1,by have:=ziB (zbD (nth l k).t).2.1 (zch (l.take k)); omega⟩
  ·
   exact ⟨h1,by omega⟩
theorem zfb {l:List Entry} {v:ByteArray}:∀ {k:Nat},k≤l.length→(v ∈ zch (l.take k)↔∃ i,i < k∧(zbD (nth l i).t).1=1∧v=(zbD (nth l i).t).2.1)
 | 0,_=>by simp [zch]
 | k + 1,h=>by
  rw [zgI (by omega),zgH]
  split
  ·
   rename_i hc
   rw [zeK _ (zgJ k (by omega)).1,ziA,zfb (by omega)]
   constructor
   ·
    rintro (h | ⟨i,h1,h2⟩)
    ·
     exact ⟨k,by omega,hc,h⟩
    ·
     exact ⟨i,by omega,h2⟩
   ·
    rintro ⟨i,h1,h2,h3⟩
    by_cases e:i=k
    ·
     subst e; exact .inl h3
    ·
     exact .inr ⟨i,by omega,h2,h3⟩
  ·
   rename_i hc
   rw [zfb (by omega)]
   constructor
   ·
    rintro ⟨i,h1,h2⟩; exact ⟨i,by omega,h2⟩
   ·
    rintro ⟨i,h1,h2,h3⟩
    by_cases e:i=k
    ·
     subst e; exact (hc h2).elim
    ·
     exact ⟨i,by omega,h2,h3⟩
def zhH (l:List Entry) (c:Int) (key:ByteArray):Option KV:=if zpw l c key = [] then none else some (key,zpw l c key)
def ztG (l:List Entry) (c:Int):List KV:=(zch l).filterMap (zhH l c)
theorem zre {m : List KV} {k v : ByteArray} (h : GoodM m) (hle : ∀ p ∈ m, ∀ y ∈ p.2, zjZ (p.1, y) (k, v) ≤ 0) :
    GoodM (zkc m (k,v))∧∀ k' v',inM (zkc m (k,v)) k' v'↔inM m k' v'∨(k'=k∧v'=v):=by
  cases hl:m.getLast? with
  | none =>
    have hm:m = []:=List.getLast?_eq_none_iff.1 hl
    subst hm
    have e:zkc [] (k,v) = [(k,[v])]:=rfl
    rw [e]
    refine ⟨⟨by simp,fun p hp=>?_⟩,fun k' v'=>?_⟩
    · obtain rfl:p=(k,[v]):=by simpa using hp
      exact ⟨by simp [Up],by simp⟩
    · simp only [inM,List.mem_singleton,List.not_mem_nil,false_and,exists_false,false_or]
      constructor
      · rintro ⟨p,rfl,h1,h2⟩
        exact ⟨h1.symm,by simpa using h2⟩
      · rintro ⟨h1,h2⟩
        exact ⟨_,rfl,h1.symm,by simpa using h2⟩
  | some p =>
    obtain ⟨o,rfl⟩:=List.getLast?_eq_some_iff.1 hl
    obtain ⟨key,vs⟩:=p
    obtain ⟨k1,k2,k3⟩:=List.pairwise_append.1 h.keys
    have hp:(key,vs) ∈ o ++ [(key,vs)]:=by simp
    obtain ⟨u1,u2⟩:=h.vals _ hp
    simp only at u1 u2
    by_cases hk:key=k
    · subst hk
      have hvle:∀ y ∈ vs,zdn y v≤0:=fun y hy=>by
        have:=hle _ hp y hy
        rw [zjZ,if_pos (zb0 _)] at this
        exact this
      cases hv:vs.any fun x=>decide (v=x)
      · rw [zlL hv]
        have hlt:∀ y ∈ vs,zdn y v < 0:=fun y hy=>by
          have h1:=hvle y hy
          have h2:=List.any_eq_false.1 hv y hy
          have h3:¬ zdn y v=0:=fun e=>h2 (by rw [zbe e]; simp)
          omega
        refine ⟨⟨?_,fun p hp'=>?_⟩,fun k' v'=>?_⟩
        · refine List.pairwise_append.2 ⟨k1,by simp,fun a ha b hb=>?_⟩
          obtain rfl:b=(key,vs ++ [v]):=by simpa using hb
          exact k3 a ha (key,vs) (by simp)
        · rcases List.mem_append.1 hp' with h1 | h1
          · exact h.vals p (List.mem_append_left _ h1)
          · obtain rfl:p=(key,vs ++ [v]):=by simpa using h1
            refine ⟨List.pairwise_append.2 ⟨u1,by simp,fun a ha b hb=>?_⟩,by simp⟩
            obtain rfl:b=v:=by simpa using hb
            exact hlt a ha
        · constructor
          · rintro ⟨p,hp',e1,e2⟩
            rcases List.mem_append.1 hp' with h1 | h1
            · exact .inl ⟨p,List.mem_append_left _ h1,e1,e2⟩
            · obtain rfl:p=(key,vs ++ [v]):=by simpa using h1
              rcases List.mem_append.1 e2 with e2 | e2
              · exact .inl ⟨_,hp,e1,e2⟩
              · exact .inr ⟨e1.symm,by simpa using e2⟩
          · rintro (⟨p,hp',e1,e2⟩ | ⟨rfl,rfl⟩)
            · rcases List.mem_append.1 hp' with h1 | h1
              · exact ⟨p,List.mem_append_left _ h1,e1,e2⟩
              · obtain rfl:p=(key,vs):=by simpa using h1
                exact ⟨(key,vs ++ [v]),by simp,e1,List.mem_append_left _ e2⟩
            · exact ⟨(k',vs ++ [v']),by simp,rfl,by simp⟩
      · rw [zpk hv]
        refine ⟨h,fun k' v'=>?_⟩
        constructor
        · exact .inl
        · rintro (h1 | ⟨rfl,rfl⟩)
          · exact h1
          · obtain ⟨y,hy,e⟩:=List.any_eq_true.1 hv
            have e:v'=y:=by simpa using e
            exact ⟨_,hp,rfl,by rw [e]; exact hy⟩
    · rw [zlM hk]
      have hlast:zdn key k < 0:=by
        obtain ⟨y,hy⟩:=List.exists_mem_of_ne_nil _ u2
        have:=hle _ hp y hy
        have h0:¬ zdn key k=0:=fun e=>hk (zbe e)
        rw [zjZ,if_neg h0] at this
        simp only at this
        omega
      refine ⟨⟨?_,fun p hp'=>?_⟩,fun k' v'=>?_⟩
      · refine List.pairwise_append.2 ⟨h.keys,by simp,fun a ha b hb=>?_⟩
        obtain rfl:b=(k,[v]):=by simpa using hb
        rcases List.mem_append.1 ha with h1 | h1
        · exact zbG (k3 a h1 (key,vs) (by simp)) hlast
        · obtain rfl:a=(key,vs):=by simpa using h1
          exact hlast
      · rcases List.mem_append.1 hp' with h1 | h1
        · exact h.vals p h1
        · obtain rfl:p=(k,[v]):=by simpa using h1
          exact ⟨by simp [Up],by simp⟩
      · constructor
        · rintro ⟨p,hp',e1,e2⟩
          rcases List.mem_append.1 hp' with h1 | h1
          · exact .inl ⟨p,h1,e1,e2⟩
          · obtain rfl:p=(k,[v]):=by simpa using h1
            exact .inr ⟨e1.symm,by simpa using e2⟩
        · rintro (⟨p,hp',e1,e2⟩ | ⟨rfl,rfl⟩)
          · exact ⟨p,List.mem_append_left _ hp',e1,e2⟩
          · exact ⟨(k',[v']),by simp,rfl,by simp⟩
theorem zlS:∀ (n:Nat) (L:List (ByteArray × ByteArray)),L.length=n→(L.Pairwise fun x y=>¬ zjZ y x < 0)→GoodM (zj1 L)∧∀ k v,inM (zj1 L) k v↔(k,v) ∈ L
 | 0,L,hn,_=>by
  obtain rfl:L = []:=List.length_eq_zero_iff.1 hn
  exact ⟨⟨by simp [zj1],fun p hp=>by simp [zj1] at hp⟩,fun k v=>by simp [zj1,inM]⟩
 | n + 1,L,hn,hL=>by
  have hne:L ≠ []:=by intro e; rw [e] at hn; simp at hn
  obtain ⟨L0,x,rfl⟩:∃ L0 x,L=L0 ++ [x]:=⟨L.dropLast,L.getLast hne,(List.dropLast_concat_getLast hne).symm⟩
  obtain ⟨p1,-,p3⟩:=List.pairwise_append.1 hL
  obtain ⟨g1,g2⟩:=zlS n L0 (by simpa using hn) p1
  obtain ⟨k,v⟩:=x
  have e:zj1 (L0 ++ [(k,v)])=zkc (zj1 L0) (k,v):=by rw [zj1,List.foldl_append]; rfl
  have hst:=zre (k:=k) (v:=v) g1 (fun p hp y hy=>by
   have hm:(p.1,y) ∈ L0:=(g2 p.1 y).1 ⟨p,hp,rfl,hy⟩
   have:=p3 _ hm (k,v) (by simp)
   have h2:=zdo (p.1,y) (k,v)
   omega)
  rw [e]
  refine ⟨hst.1,fun k' v'=>?_⟩
  rw [hst.2,g2,List.mem_append,List.mem_singleton,Prod.mk.injEq]
theorem ziC (l:List Entry) (c:Int):GoodM (zgO l c)∧∀ k v,inM (zgO l c) k v↔∃ o ∈ zam l c,o.k=k∧o.v=v:=by
 obtain ⟨h1,h2⟩:=zdA (zam l c)
 obtain ⟨g1,g2⟩:=zlS _ ((zcr (zam l c)).map FOp.kv) rfl (List.pairwise_map.2 h2)
 refine ⟨g1,fun k v=>?_⟩
 rw [zgO,g2,List.mem_map]
 constructor
 ·
  rintro ⟨o,ho,e⟩
  simp only [FOp.kv,Prod.mk.injEq] at e
  exact ⟨o,h1.mem_iff.1 ho,e⟩
 ·
  rintro ⟨o,ho,e⟩
  exact ⟨o,h1.mem_iff.2 ho,by simp only [FOp.kv,Prod.mk.injEq]; exact e⟩
theorem zpA (l:List Entry) (c:Int):GoodM (ztG l c)∧∀ k v,inM (ztG l c) k v↔∃ i,i < l.length∧zmW l c k i=true∧zpv l c k i l.length=true∧v=(zbD (nth l i).t).2.2:=by
 have hup:=(zgJ l.length (Nat.le_refl _)).1
 rw [List.take_length] at hup
 refine ⟨⟨?_,fun p hp=>?_⟩,fun k v=>?_⟩
 ·
  refine List.pairwise_filterMap.2 (hup.imp fun {a b} hab x hx y hy=>?_)
  unfold zhH at hx hy
  split at hx
  ·
   cases hx
  ·
   split at hy
   ·
    cases hy
   ·
    cases hx; cases hy; exact hab
 ·
  obtain ⟨k,-,hk⟩:=List.mem_filterMap.1 hp
  unfold zhH at hk
  split at hk
  ·
   cases hk
  ·
   rename_i hne
   cases hk
   exact ⟨(zeL l c k l.length).1,hne⟩
 ·
  constructor
  ·
   rintro ⟨p,hp,rfl,hv⟩
   obtain ⟨k,-,hk⟩:=List.mem_filterMap.1 hp
   unfold zhH at hk
   split at hk
   ·
    cases hk
   ·
    cases hk
    exact zdC.1 hv
  ·
   rintro ⟨i,h1,h2,h3,h4⟩
   have hv:v ∈ zpw l c k:=zdC.2 ⟨i,h1,h2,h3,h4⟩
   have hne:zpw l c k ≠ []:=List.ne_nil_of_mem hv
   have hcr:=h2
   simp only [zmW,Bool.and_eq_true,decide_eq_true_eq] at hcr
   have hk:k ∈ zch l:=by
    have:=(zfb (l:=l) (v:=k) (Nat.le_refl _)).2 ⟨i,h1,hcr.1,hcr.2.1.symm⟩
    rwa [List.take_length] at this
   exact ⟨(k,zpw l c k),List.mem_filterMap.2 ⟨k,hk,by rw [zhH,if_neg hne]⟩,rfl,hv⟩
theorem zAk {l:List Entry} {e:Entry}:e ∈ l↔∃ k,k < l.length∧nth l k=e:=by
 constructor
 ·
  intro h
  obtain ⟨k,hk,rfl⟩:=List.getElem_of_mem h
  exact ⟨k,hk,zy _ _ hk⟩
 ·
  rintro ⟨k,hk,rfl⟩
  rw [zy _ _ hk]; exact List.getElem_mem hk
theorem zdp {l:List Entry} {c:Int} {o:FOp}:o ∈ zgD l c↔∃ i,i < l.length∧zak (nth l i).c c=true∧(zbD (nth l i).t).1≠0∧o=⟨(nth l i).id,(zbD (nth l i).t).2.1,(zbD (nth l i).t).2.2,decide ((zbD (nth l i).t).1=1)⟩:=by
 constructor
 ·
  intro h
  obtain ⟨e,he,hi,hm,hs⟩:=zlN h
  obtain ⟨i,hi',rfl⟩:=zAk.1 he
  unfold opE at hs
  split at hs
  ·
   cases hs
  ·
   rename_i hne; cases hs; exact ⟨i,hi',hm,hne,rfl⟩
 ·
  rintro ⟨i,hi,hm,hne,rfl⟩
  refine List.mem_filterMap.2 ⟨nth l i,List.mem_filter.2 ⟨zAk.2 ⟨i,hi,rfl⟩,hm⟩,?_⟩
  rw [opE,if_neg hne]
theorem zj2 {l:List Entry} (h:LogOk l) {i n:Nat} (hi:i < l.length) (hn:n < l.length):zh1 (ZD (Z0 l) l (nth l n).id) (nth l i).id=nth (zax l n) i:=by
 rw [zbS,h.find hn,Int.toNat_natCast,Bool.eq_iff_iff,zdu,zgh h hn hi]
theorem ziD {l:List Entry} {c:Int} (h:LogOk l):ztG l c=zgO l c:=by
 obtain ⟨a1,a2⟩:=zpA l c
 obtain ⟨b1,b2⟩:=ziC l c
 refine ztm a1 b1 fun k v=>?_
 rw [a2,b2]
 constructor
 ·
  rintro ⟨i,hi,hc,hs,rfl⟩
  simp only [zmW,Bool.and_eq_true,decide_eq_true_eq] at hc
  obtain ⟨c1,c2,c3⟩:=hc
  refine ⟨⟨(nth l i).id,(zbD (nth l i).t).2.1,(zbD (nth l i).t).2.2,decide ((zbD (nth l i).t).1=1)⟩,List.mem_filter.2 ⟨zdp.2 ⟨i,hi,c3,by omega,rfl⟩,?_⟩,c2,rfl⟩
  rw [zdP]
  simp only [c1,decide_true,Bool.true_and,Bool.not_eq_true',List.any_eq_false,Bool.and_eq_true,decide_eq_true_eq,not_and,Bool.not_eq_true]
  intro y hy hyk
  obtain ⟨n,hn,m1,m2,rfl⟩:=zdp.1 hy
  rw [zj2 h hi hn]
  have:=List.all_eq_true.1 hs n (List.mem_range.2 hn)
  simp only at hyk
  have hb:zwY l c k i n=false:=by simpa using this
  cases hm:nth (zax l n) i
  ·
   rfl
  ·
   simp [zwY,m1,m2,hm,hyk,c2] at hb
 ·
  rintro ⟨o,ho,rfl,rfl⟩
  obtain ⟨ho,hsb⟩:=List.mem_filter.1 ho
  obtain ⟨i,hi,m1,m2,rfl⟩:=zdp.1 ho
  rw [zdP] at hsb
  simp only [Bool.and_eq_true,decide_eq_true_eq,Bool.not_eq_true',List.any_eq_false,not_and,Bool.not_eq_true] at hsb
  obtain ⟨s1,s2⟩:=hsb
  refine ⟨i,hi,by simp [zmW,s1,m1],?_,rfl⟩
  refine List.all_eq_true.2 fun n hn=>?_
  have hn:=List.mem_range.1 hn
  cases hb:zwY l c (zbD (nth l i).t).2.1 i n
  ·
   rfl
  ·
   exfalso
   simp only [zwY,Bool.and_eq_true,decide_eq_true_eq] at hb
   obtain ⟨d1,d2,d3,d4⟩:=hb
   have:=s2 _ (zdp.2 ⟨n,hn,d3,d1,rfl⟩) d2
   simp only at this
   rw [zj2 h hi hn,d4] at this
   cases this
structure Tail (A B:List Entry) (f:Entry) (d:Int):Prop where
 a:LogOk A
 b:LogOk B
 at_:nth A B.length=f
 lt:B.length < A.length
 eq:∀ k,k < B.length→nth A k=nth B k
 past:∀ k,k < B.length→ZE A k=ZE B k
 ls:f.ls=Zv (Za B d)
theorem Tail.head {A B:List Entry} {f:Entry} {d:Int} (h:Tail A B f d) {x:Id} (hx:x ∈ f.ls):∃ k,k < B.length∧(nth A k).id=x∧zak (nth B k).c d=true∧∀ i,i < B.length→zak (nth B i).c d=true→x ∉ ZE A i:=by
 rw [h.ls] at hx
 obtain ⟨k,a,b,c,e⟩:=(ze2 h.b).1 (zet.1 hx)
 exact ⟨k,a,by rw [h.eq k a]; exact b,c,fun i hi hm=>by rw [h.past i hi]; exact e i hi hm⟩
theorem Tail.apart {A B:List Entry} {f:Entry} {d:Int} (h:Tail A B f d) {x:Id} (hx:x ∈ f.ls):∃ k,zgf A x=0∧zkF A x=ZE A k∧(ZE A k).length≤40∧∀ y ∈ f.ls,zh1 (ZE A k) y=false:=by
 obtain ⟨k,hk,rfl,hm,-⟩:=h.head hx
 have hka:k < A.length:=by have:=h.lt; omega
 obtain ⟨p1,p2⟩:=zsX (zaQ.2 h.a) hka
 refine ⟨k,p1,p2,zbF h.a hka,fun y hy=>?_⟩
 obtain ⟨k',hk',-,-,hn⟩:=h.head hy
 cases e:zh1 (ZE A k) y
 ·
  rfl
 ·
  exact (hn k hk hm (zdu.1 e)).elim
def zwZ (l:List Entry) (c:Int) (e:Entry):Prop:=(zbD e.t).1=1∧zak e.c c=true∧∀ n,n < l.length→(zbD (nth l n).t).1≠0→(zbD (nth l n).t).2.1=(zbD e.t).2.1→zak (nth l n).c c=true→e.id ∉ ZE l n
theorem ztn {l:List Entry} {c:Int} (h:LogOk l) {k v:ByteArray}:inM (zgO l c) k v↔∃ i,i < l.length∧zwZ l c (nth l i)∧(zbD (nth l i).t).2.1=k∧(zbD (nth l i).t).2.2=v:=by
 rw [(ziC l c).2]
 have hp:∀ n,n < l.length→ZD (Z0 l) l (nth l n).id=ZE l n:=fun n hn=>by rw [zbS,h.find hn,Int.toNat_natCast]
 constructor
 ·
  rintro ⟨o,ho,rfl,rfl⟩
  obtain ⟨ho,hsb⟩:=List.mem_filter.1 ho
  obtain ⟨i,hi,m1,m2,rfl⟩:=zdp.1 ho
  rw [zdP] at hsb
  simp only [Bool.and_eq_true,decide_eq_true_eq,Bool.not_eq_true',List.any_eq_false,not_and,Bool.not_eq_true] at hsb
  obtain ⟨s1,s2⟩:=hsb
  refine ⟨i,hi,⟨s1,m1,fun n hn b1 b2 b3 hm=>?_⟩,rfl,rfl⟩
  have:=s2 _ (zdp.2 ⟨n,hn,b3,b1,rfl⟩) b2
  simp only at this
  rw [hp n hn,← Bool.not_eq_true,zdu] at this
  exact this hm
 ·
  rintro ⟨i,hi,⟨s1,s2,s3⟩,rfl,rfl⟩
  refine ⟨⟨(nth l i).id,(zbD (nth l i).t).2.1,(zbD (nth l i).t).2.2,decide ((zbD (nth l i).t).1=1)⟩,List.mem_filter.2 ⟨zdp.2 ⟨i,hi,s2,by omega,rfl⟩,?_⟩,rfl,rfl⟩
  rw [zdP]
  simp only [s1,decide_true,Bool.true_and,Bool.not_eq_true',List.any_eq_false,Bool.and_eq_true,decide_eq_true_eq,not_and,Bool.not_eq_true]
  intro y hy hyk
  obtain ⟨n,hn,m1,m2,rfl⟩:=zdp.1 hy
  simp only at hyk ⊢
  rw [hp n hn,← Bool.not_eq_true,zdu]
  exact s3 n hn m2 hyk m1
section
variable {lg:List Entry} {f:Entry} {c:Int}
end
theorem zrf {t:ByteArray} (h:(zbD t).1≠0):(zbD t).2.1.size≤3∧(zbD t).2.2.size≤3:=by
 unfold zbD at h ⊢
 split
 ·
  split
  ·
   rename_i hc
   have a:=zix hc.2.1
   have b:=zix hc.2.2
   exact ⟨a.2,b.2⟩
  ·
   rename_i hc
   simp [*] at h
 ·
  split
  ·
   rename_i hc
   have a:=zix hc.2
   exact ⟨a.2,Nat.zero_le _⟩
  ·
   rename_i hc
   simp [*] at h
 ·
  simp [*] at h
theorem zpB {l:List Entry} (c:Int) (h:LogOk l):okM (zgO l c):=by
 have hm:=h.len
 have hr:=zrc l c
 have hin:∀ k v,inM (zgO l c) k v→k.size≤3∧v.size≤3:=fun k v hv=>by
  obtain ⟨i,-,⟨s1,-,-⟩,e1,e2⟩:=(ztn h).1 hv
  obtain ⟨a,b⟩:=zrf (t:=(nth l i).t) (by omega)
  rw [e1] at a
  rw [e2] at b
  exact ⟨a,b⟩
 refine ⟨by omega,fun p hp=>?_⟩
 obtain ⟨hu,hne⟩:=(ziC l c).1.vals p hp
 obtain ⟨v,hv⟩:=List.exists_mem_of_ne_nil _ hne
 refine ⟨(hin p.1 v ⟨p,hp,rfl,hv⟩).1,?_,fun v hv=>(hin p.1 v ⟨p,hp,rfl,hv⟩).2⟩
 have hp2:=hp
 rw [← ziD h] at hp2
 obtain ⟨k',-,h2⟩:=List.mem_filterMap.1 hp2
 unfold zhH at h2
 split at h2
 ·
  cases h2
 ·
  cases h2
  have:=(zeL l c k' l.length).2
  show (zcN l c k' l.length).length≤_
  omega
noncomputable def zk1 (l:List Entry) (c:Int):ByteArray:=if zb1 l c=0 then wrL (zgO l c) else zlP
theorem zmY (l:List Entry) (c:Int) (hl:l.length≤9223372036854775806):zg Tryz.prog 55 [.list (l.map cE),.int .i64 c] [] (.tup [.str (zk1 l c),.int .i64 (zb1 l c)]) []:=by
 refine zg.of_walk Tryz.func55 Tryz.ntmps55 zyk zyl (by simp) fun x hx=>?_
 simp only [go_sem,L55,R55]
 refine za (.pureE (zpo l c hl) (by simp [go_sem])) ?_
 by_cases h:zb1 l c=0
 ·
  obtain ⟨hok,-⟩:=zpn.1 h
  have e1:ztF l c=zgO l c:=by rw [ztF,if_pos h]
  have e2:zk1 l c=wrL (zgO l c):=by rw [zk1,if_pos h]
  rw [e1,e2,h]
  simp only [go_sem,zq,Int.reduceLT,Int.reduceLE,Int.reduceToNat,Int.reduceAdd,frz]
  refine za (.pureE (zcJ (zgO l c) (zpB c hok)) (by simp [go_sem])) ?_
  simp only [go_sem,zq,Int.reduceLT,Int.reduceLE,Int.reduceToNat,Int.reduceAdd,frz]
  refine zb hx ?_
  simp [go_sem,L55,R55]
 ·
  have e2:zk1 l c=zlP:=by rw [zk1,if_neg h]
  rw [e2]
  simp only [go_sem,zq,Int.reduceLT,Int.reduceLE,Int.reduceToNat,Int.reduceAdd,frz,h]
  refine zb hx ?_
  simp [go_sem,L55,R55,zlP]
def zaX (ss:List Si) (ys:List (List Entry)) (c:Int):Int:=if Zw ss ys=0 then (if ZX c 1 7=true then 0 else 3) else Zw ss ys
noncomputable def zj3 (p q:List Entry) (c:Int):Bool:=decide (wrL (zgO p c)=wrL (zgO q c))
noncomputable def zdQ (ss:List Si) (ys:List (List Entry)) (c:Int):Bool:=if zaX ss ys c=0 then zj3 (nth ss 0).2.1 (nth ss 1).2.1 c else false
theorem zhI (ss : List Si) (ys : List (List Entry)) (c : Int) (hs : ss.length ≤ 1000000000000000) (hy : ys.length ≤ 1000000000000000) (ho : zg1 ss) (hoy : zkb ys) :
    zg Tryz.prog 56 [.agg (cWd ss ys),.int .i64 c] [] (.tup [.bool (zdQ ss ys c),.int .i64 (zaX ss ys c)]) []:=by
  refine zg.of_walk Tryz.func56 Tryz.ntmps56 zym zyn (by simp) fun x hx=>?_
  simp only [go_sem,L56,R56,cWd]
  refine za (.pureE (Z4 ss ys hs hy ho hoy) (by simp [go_sem,cWd])) ?_
  by_cases h:Zw ss ys=0
  · obtain ⟨w,rfl,rfl,hw⟩:=zjG h
    simp only [go_sem,zq,Int.reduceLT,Int.reduceLE,Int.reduceToNat,Int.reduceAdd,frz,h]
    refine za (.pureE (za8 c) (by simp [go_sem])) ?_
    cases hc:ZX c 1 7
    · have e:zaX w.ss w.ys c=3:=by rw [zaX,if_pos h,if_neg (by simp [hc])]
      simp only [go_sem,zq,Int.reduceLT,Int.reduceLE,Int.reduceToNat,Int.reduceAdd,frz]
      refine zb hx ?_
      simp [go_sem,L56,R56,zdQ,e]
    · have e:zaX w.ss w.ys c=0:=by rw [zaX,if_pos h,if_pos hc]
      have hp:=hw.log (i:=0) (.inl rfl)
      have hq:=hw.log (i:=1) (.inr rfl)
      have hp:LogOk w.p:=hp
      have hq:LogOk w.q:=hq
      simp only [go_sem,zq,Int.reduceLT,Int.reduceLE,Int.reduceToNat,Int.reduceAdd,frz,Wo.ss,Wo.ys,zp,cSi,List.map_cons,List.map_nil,List.length_cons,List.length_nil]
      refine za (.pureE (zfa w.p c hp hc (fun e hem=>by have:=ztk hp e hem; omega)) (by simp [go_sem])) ?_
      simp only [go_sem]
      refine za (.pureE (zcJ (zgO w.p c) (zpB c hp)) (by simp [go_sem])) ?_
      simp only [go_sem,zq,Int.reduceLT,Int.reduceLE,Int.reduceToNat,Int.reduceAdd,frz,Wo.ss,Wo.ys,zp,cSi,List.map_cons,List.map_nil,List.length_cons,List.length_nil]
      refine za (.pureE (zfa w.q c hq hc (fun e hem=>by have:=ztk hq e hem; omega)) (by simp [go_sem])) ?_
      simp only [go_sem]
      refine za (.pureE (zcJ (zgO w.q c) (zpB c hq)) (by simp [go_sem])) ?_
      simp only [go_sem]
      repeat refine ⟨rfl,?_⟩
      refine zb hx ?_
      have e2:zdQ w.ss w.ys c=zj3 w.p w.q c:=by rw [zdQ,if_pos e]; rfl
      have e3:zaX [(0,w.p,w.u),(1,w.q,w.v)] [w.a,w.b] c=0:=e
      have e4:zdQ [(0,w.p,w.u),(1,w.q,w.v)] [w.a,w.b] c=zj3 w.p w.q c:=e2
      simp [go_sem,L56,R56,e3,e4,Wo.ss,Wo.ys,zj3]
  · have e:zaX ss ys c=Zw ss ys:=by rw [zaX,if_neg h]
    simp only [go_sem,zq,Int.reduceLT,Int.reduceLE,Int.reduceToNat,Int.reduceAdd,frz,h]
    refine zb hx ?_
    simp [go_sem,L56,R56,zdQ,e,h]
def zj4:List Entry := [e0,e1,e2,e3]
theorem zmZ:z8 zj4=0:=by decide +kernel
theorem zrg:ztG zj4 3 = [(⟨#[97]⟩,[⟨#[121]⟩]),(⟨#[98]⟩,[⟨#[122]⟩])]:=by decide +kernel
theorem zrh:zgO zj4 3 = [(⟨#[97]⟩,[⟨#[121]⟩]),(⟨#[98]⟩,[⟨#[122]⟩])]:=by rw [← ziD (zaQ.1 zmZ),zrg]
def acL:List Ac := [(1,0,0,1,zo3),(1,1,0,1,zo4),(2,1,0,0,⟨#[]⟩),(3,0,0,0,⟨#[]⟩),(1,1,0,1,zo5),(2,0,0,0,⟨#[]⟩)]
theorem zri:wbA=acL.map cAc:=rfl
theorem ac1:zal (zlv,[]) (1,0,0,1,zo3)=(zmN,[0]):=by
 have e:zgC zlv (1,0,0,1,zo3)=0:=zs8
 rw [zal,e,acW,if_pos e,ze6 (w:=zlv) (e:=wa1) zwt]; rfl
theorem ac2:zal (zmN,[0]) (1,1,0,1,zo4)=(zm6,[0,0]):=by
 have e:zgC zmN (1,1,0,1,zo4)=0:=zs9
 rw [zal,e,acW,if_pos e,ze6 (w:=zmN) (e:=wb1) zwu]; rfl
theorem ac3:zal (zm6,[0,0]) (2,1,0,0,⟨#[]⟩)=(zmO,[0,0,0]):=by
 have e:zgC zm6 (2,1,0,0,⟨#[]⟩)=0:=ztb
 rw [zal,e,acW,if_pos e]
 show (doW zm6 2 1 0 0 ⟨#[]⟩,_)=_
 rw [zww]; rfl
theorem ac4:zal (zmO,[0,0,0]) (3,0,0,0,⟨#[]⟩)=(zlF,[0,0,0,0]):=by
 have e:zgC zmO (3,0,0,0,⟨#[]⟩)=0:=ztc
 rw [zal,e,acW,if_pos e]
 show (doW zmO 3 0 0 0 ⟨#[]⟩,_)=_
 rw [zwx]; rfl
theorem ac5:zal (zlF,[0,0,0,0]) (1,1,0,1,zo5)=(zm7,[0,0,0,0,0]):=by
 have e:zgC zlF (1,1,0,1,zo5)=0:=zta
 rw [zal,e,acW,if_pos e,ze6 (w:=zlF) (e:=wb2) zwv]; rfl
theorem ac6:zal (zm7,[0,0,0,0,0]) (2,0,0,0,⟨#[]⟩)=(zfL,[0,0,0,0,0,0]):=by
 have e:zgC zm7 (2,0,0,0,⟨#[]⟩)=0:=ztd
 rw [zal,e,acW,if_pos e]
 show (doW zm7 2 0 0 0 ⟨#[]⟩,_)=_
 rw [zwy]; rfl
theorem zto:zlG acL=(zfL,[0,0,0,0,0,0]):=by
 rw [zlG,acL,List.foldl_cons,ac1,List.foldl_cons,ac2,List.foldl_cons,ac3,List.foldl_cons,ac4,List.foldl_cons,ac5,List.foldl_cons,ac6]; rfl
theorem zj5 {p q:List Entry} {c:Int} (hp:LogOk p) (hq:LogOk q):zj3 p q c=decide (wrL (ztG p c)=wrL (ztG q c)):=by
 rw [zj3,ziD hp,ziD hq]
theorem zw0:zdQ zfL.ss zfL.ys 1=false∧zaX zfL.ss zfL.ys 1=0:=by
 have e:zaX zfL.ss zfL.ys 1=0:=by decide +kernel
 refine ⟨?_,e⟩
 rw [zdQ,if_pos e]
 show zj3 zfL.p zfL.q 1=false
 rw [zj5 (zaQ.1 (by decide +kernel)) (zaQ.1 (by decide +kernel))]
 decide +kernel
theorem zw1:WoOk wbS:=by rw [← zz2]; exact (zwd zhC).1
theorem zw2:zdQ wbS.ss wbS.ys 1=true∧zaX wbS.ss wbS.ys 1=0:=by
 have e:zaX wbS.ss wbS.ys 1=0:=by decide +kernel
 refine ⟨?_,e⟩
 rw [zdQ,if_pos e]
 show zj3 wbS.p wbS.q 1=true
 rw [zj5 (zaQ.1 (by decide +kernel)) (zaQ.1 (by decide +kernel))]
 decide +kernel
theorem zpC:zk1 zj4 3=⟨#[97,61,121,59,98,61,122,59]⟩:=by
 have e:zb1 zj4 3=0:=by decide +kernel
 rw [zk1,if_pos e,zrh]
 decide +kernel
theorem zgK:zg Tryz.prog 7 [] [] (.bool true) []:=by
 have h1:=zjS acL (by decide)
 rw [if_neg (by decide),zto] at h1
 have h2:=zmY zj4 3 (by decide)
 have hme:zb1 zj4 3=0:=by decide +kernel
 rw [zpC,hme] at h2
 obtain ⟨o1,o2⟩:=zdl zhC
 have h3:=zhI zfL.ss zfL.ys 1 (by simp [Wo.ss]) (by simp [Wo.ys]) o1 o2
 rw [zw0.1,zw0.2] at h3
 have h4:=zjM zfL zhC
 rw [zz2] at h4
 obtain ⟨o3,o4⟩:=zdl zw1
 have h5:=zhI wbS.ss wbS.ys 1 (by simp [Wo.ss]) (by simp [Wo.ys]) o3 o4
 rw [zw2.1,zw2.2] at h5
 have hac:=Zp
 rw [zri] at hac
 refine zg.of_walk Tryz.func7 Tryz.ntmps7 zAu zAv (by simp) fun x hx=>?_
 simp only [go_sem,L7,R7]
 refine za (.pure hac) ?_
 simp only [go_sem]
 refine za (.pureE h1 (by simp [go_sem])) ?_
 simp only [go_sem,zq,Int.reduceLT,Int.reduceLE,Int.reduceToNat,Int.reduceAdd,frz,cWo,cWd]
 refine za (.pure zeA) ?_
 simp only [go_sem,zq,Int.reduceLT,Int.reduceLE,Int.reduceToNat,Int.reduceAdd,frz]
 refine za (.pureE h2 (by simp [go_sem,zj4])) ?_
 simp only [go_sem,zq,Int.reduceLT,Int.reduceLE,Int.reduceToNat,Int.reduceAdd,frz,cWo,cWd]
 refine za (.pureE h3 (by simp [go_sem,cWd])) ?_
 simp only [go_sem,zq,Int.reduceLT,Int.reduceLE,Int.reduceToNat,Int.reduceAdd,frz,cWo,cWd]
 refine za (.pureE h4 (by simp [go_sem,cWo,cWd])) ?_
 simp only [go_sem,zq,Int.reduceLT,Int.reduceLE,Int.reduceToNat,Int.reduceAdd,frz,cWo,cWd]
 refine za (.pureE h5 (by simp [go_sem,cWd])) ?_
 have hb:((⟨#[97,61,121,59,98,61,122,59]⟩:ByteArray)=⟨#[97,61,121,59,98,61,122,59]⟩)=True:=eq_self _
 simp only [go_sem,zq,Int.reduceLT,Int.reduceLE,Int.reduceToNat,Int.reduceAdd,frz,cWo,cWd,hb,List.map_cons,List.map_nil,List.length_cons,List.length_nil,decide_true]
 refine zb hx ?_
 simp [go_sem,L7,R7]
def zxH (l:List Entry):Prop:=l.length * 64≤140737488355328∧∀ e ∈ l,e.ls.length * 16≤140737488355328
theorem zm0 (e:Entry):zck e e=true:=by simp [zck]
theorem zrj (ss : List Si) (ys : List (List Entry)) (k i n c : Int) (t : ByteArray) (hs : ss.length ≤ 1000000000000000) (hy : ys.length ≤ 1000000000000000) (hes : zg1 ss) (hey : zkb ys) :
    ∃ (u:Int) (wx dx sx rx:List Si) (wy dy sy ry:List (List Entry)) (es:List (List PV)) (vs vr:Int),
      (Zw ss ys=0→zg Tryz.prog 10 [.agg (cWd ss ys),.agg (zo k i n c t)] [] (.tup [.agg (cWd wx wy),.int .i64 u]) [])∧(Zw ss ys≠0→u=Zw ss ys∧wx = []∧wy = []) ∧
      zg Tryz.prog 11 [.agg (zaf ss ys),.agg (zo k i n c t)] [] (.tup [.agg (cWd dx dy),.int .i64 u]) [] ∧
      zg Tryz.prog 13 [.agg (zaf ss ys)] [] (.tup [.agg (cWd sx sy),.int .i64 vs]) [] ∧
      zg Tryz.prog 14 [.list [zo k i n c t]] [] (.tup [.agg (cWd rx ry),.list es,.int .i64 vr]) [] ∧
      zg Tryz.prog 12 [.agg (cWd dx dy),.int .i64 u,.int .i64 u,.agg (zaf wx wy)] [] (.bool true) []∧zs5 [(dx,dy),(sx,sy),(rx,ry)]:=by
  have hrun:=zjS [(k,i,n,c,t)] (by simp)
  rw [if_neg (by simp)] at hrun
  have o0:zg1 []:=fun s h=>by cases h
  have p0:zkb []:=fun s h=>by cases h
  by_cases h:Zw ss ys=0
  · obtain ⟨w,rfl,rfl,hw⟩:=zjG h
    have hdo:=zqS w hw k i n c t
    have hdo2:=zmM w hw k i n c t
    have hset:=zmz w hw
    have doC_wd:doC w k i n c t=if ZF w k i n c t=0 then cWd (doW w k i n c t).ss (doW w k i n c t).ys else za2:=rfl
    by_cases he:ZF w k i n c t=0
    · obtain ⟨-,hok3,-,-⟩:=zrR hw he
      obtain ⟨p1,p2⟩:=zdl hok3
      have his:=zcq 0 (doW w k i n c t).ss (doW w k i n c t).ys (by simp [Wo.ss]) (by simp [Wo.ys]) p1 p2
      rw [if_pos rfl] at his
      rw [doC_wd,if_pos he,he] at hdo hdo2
      exact ⟨0,_,_,_,_,_,_,_,_,_,_,_,fun _=>hdo2,fun hn=>(hn h).elim,hdo,hset,hrun,his,rfl,by simp [Wo.ss,Wo.ys]⟩
    · have his:=zcq (ZF w k i n c t) [] [] (by simp) (by simp) o0 p0
      rw [if_neg he] at his
      rw [doC_wd,if_neg he] at hdo hdo2
      exact ⟨ZF w k i n c t,[],[],_,_,[],[],_,_,_,_,_,fun _=>hdo2,fun hn=>(hn h).elim,hdo,hset,hrun,his,rfl,by simp [Wo.ss,Wo.ys]⟩
  · have hdo:=zoF ss ys k i n c t hs hy hes hey h
    have hset:=zkM ss ys hs hy hes hey h
    have his:=zcq (Zw ss ys) [] [] (by simp) (by simp) o0 p0
    rw [if_neg h] at his
    exact ⟨Zw ss ys,[],[],[],_,[],[],[],_,_,_,_,fun h0=>(h h0).elim,fun _=>⟨rfl,rfl,rfl⟩,hdo,hset,hrun,his,rfl,by simp [Wo.ss,Wo.ys]⟩
theorem zfA (ss : List Si) (ys : List (List Entry)) (k i n c : Int) (t : ByteArray) (e : Entry) (hs : ss.length ≤ 1048576) (hy : ys.length * 24 ≤ 140737488355328) (hes : ∀ s ∈ ss, zxH s.2.1 ∧ zxH s.2.2) (hey : ∀ y ∈ ys, zxH y) (hee : e.ls.length * 16 ≤ 140737488355328) :
    zg Tryz.prog 3 [.agg (cWd ss ys),.agg (zo k i n c t),.agg (cE e)] [] (.bool true) []:=by
  have oS:zg1 ss:=fun s h=>by obtain ⟨⟨a,-⟩,b,-⟩:=hes s h; omega
  have oY:zkb ys:=fun y h=>by obtain ⟨a,-⟩:=hey y h; omega
  obtain ⟨u,wx,dx,sx,rx,wy,dy,sy,ry,es,vs,vr,hu0,hu1,hdo,hse,hru,his,hok⟩:=zrj ss ys k i n c t (by omega) (by omega) oS oY
  refine zg.of_newL Tryz.func3 Tryz.ntmps3 zAo zAp (by simp) (by simp [zlw,cWd,zo,cE,PV.isPure]) fun x hx hxo=>?_
  simp only [LC.flat,L3,R3,List.cons_append,List.nil_append,cWd,zo,cE]
  refine Zq 13 [3,4,5,7,10,11,12] 8 (fun st=>∃ j:Int,st=⟨mkE .top [(3,.ptr 0 0),(4,.ptr 1 0),(5,.ptr 2 0),(7,.ptr 3 0),(10,.ptr 4 0),(11,.int .i64 u),(12,.ptr 5 0)],rwH ss ys k i n c t e wx wy⟩) (by simp [hx]) (by simp) ?_ ?_
  · simp only [List.take_succ_cons,List.take_zero]
    simp only [go_sem]
    refine za (.pureE zfz (by simp [go_sem])) ?_
    simp only [go_sem]
    refine za (.pureE zgB (by simp [go_sem])) ?_
    simp only [go_sem]
    refine za (.pureE zgK (by simp [go_sem])) ?_
    simp only [go_sem]
    refine zaa (Z9 3 0 0 36 3 true false rfl rfl (by omega)) ?_
    refine zr [3,4,5,7,8] 5 (fun m st=>∃ q:Nat,q + m=ss.length ∧
      st=⟨mkE .top [(3,.ptr 0 0),(4,.ptr 1 0),(5,.ptr 2 0),(7,.ptr 3 0),(8,.int .i64 q)],
        [.box (cWd ss ys),.box (zo k i n c t),.box (cE e),.box [.arr 4 q,.nilsl],.arr q true false 36 3 ((ss.take q).map zp)]⟩) ss.length (by simp [hx]) (by simp) ?_ ?_
    · refine ⟨0,by omega,?_⟩
      simp [zi,go_sem,zc,zd,ze,zf,pos,List.range_succ,cWd,zo,cE]
    · rintro m st ⟨q,hq,rfl⟩
      by_cases hlt:q < ss.length
      · have hg:ss[q]? = some (nth ss q):=zk _ _ hlt
        have wq:=zD (k:=q) (by omega)
        simp only [go_sem,cWd,hlt,hg,zp,cSi]
        obtain ⟨⟨a1,a2⟩,b1,b2⟩:=hes _ (List.mem_of_getElem? hg)
        refine za (.pureE (zaJ (nth ss q).2.1 a1 a2) (by simp [go_sem])) ?_
        simp only [go_sem,cWd,hlt,hg,zp,cSi]
        refine za (.pureE (zaJ (nth ss q).2.2 b1 b2) (by simp [go_sem])) ?_
        simp only [go_sem,cWd,hlt,hg,zp,cSi]
        rw [zB rfl rfl (by simp) (by simp; omega)]
        simp only [go_sem,wq]
        have htk:ss.take (q + 1)=ss.take q ++ [nth ss q]:=by rw [List.take_add_one,hg]; rfl
        refine ⟨by simp,m - 1,by omega,q + 1,by omega,?_⟩
        simp [zi,go_sem,zc,zd,ze,zf,pos,List.range_succ,htk,cWd,zo,cE,zp,cSi]
      · obtain rfl:q=ss.length:=by omega
        rw [List.take_length]
        simp only [go_sem,cWd,hlt]
        refine zaa (Z9 3 1 0 34 1 true false rfl rfl (by omega)) ?_
        refine zr [3,4,5,7,9] 6 (fun m st=>∃ q:Nat,q + m=ys.length ∧
          st=⟨mkE .top [(3,.ptr 0 0),(4,.ptr 1 0),(5,.ptr 2 0),(7,.ptr 3 0),(9,.int .i64 q)],
            [.box (cWd ss ys),.box (zo k i n c t),.box (cE e),.box [.arr 4 ss.length,.arr 5 q],.arr ss.length true false 36 3 (ss.map zp),.arr q true false 34 1 (cYs (ys.take q))]⟩) ys.length (by simp [hx]) (by simp) ?_ ?_
        · refine ⟨0,by omega,?_⟩
          simp [zi,go_sem,zc,zd,ze,zf,pos,List.range_succ,cWd,zo,cE,cYs]
        · rintro m st ⟨q,hq,rfl⟩
          by_cases hlt:q < ys.length
          · have hg:ys[q]? = some (nth ys q):=zk _ _ hlt
            have hg2:(cYs ys)[q]? = some [.list ((nth ys q).map cE)]:=zil hlt
            have wq:=zD (k:=q) (by omega)
            simp only [go_sem,cWd,hlt,hg2,zcp]
            obtain ⟨a1,a2⟩:=hey _ (List.mem_of_getElem? hg)
            refine za (.pureE (zaJ (nth ys q) a1 a2) (by simp [go_sem])) ?_
            simp only [go_sem,cWd,hlt,hg2,zcp]
            rw [zB rfl rfl (by simp) (by simp [cYs]; omega)]
            simp only [go_sem,wq]
            have htk:ys.take (q + 1)=ys.take q ++ [nth ys q]:=by rw [List.take_add_one,hg]; rfl
            refine ⟨by simp,m - 1,by omega,q + 1,by omega,?_⟩
            simp [zi,go_sem,zc,zd,ze,zf,pos,List.range_succ,htk,cWd,zo,cE,cYs]
          · obtain rfl:q=ys.length:=by omega
            rw [List.take_length]
            simp only [go_sem,cWd,hlt,zcp,cE]
            refine za (.pureE (zaJ [e] (by simp) (fun e' he=>by simp at he; subst he; exact hee)) (by simp [go_sem,cE])) ?_
            simp only [go_sem,cWd,cE,List.map_cons,List.map_nil,zq,Int.reduceLT,Int.reduceLE,Int.reduceToNat,Int.reduceAdd,frz]
            refine za (.pureE (zfv ss ys (by omega) (by omega) oS oY) (by simp [go_sem,cWd])) ?_
            by_cases h0:Zw ss ys=0
            · rw [h0]
              simp only [go_sem,cWd,zo]
              refine za (.pureE (hu0 h0) (by simp [go_sem,cWd,zo])) ?_
              simp only [go_sem,cWd,zo]
              rw [zI]
              refine ⟨by simp,_,?_,0,rfl⟩
              refine zbk.trans (zbz [3,4,5,7,10,11,12] [0,1,2,3,6,7] (by simp) (by simp [St.trim,zc]) (by simp [hx])) (Zh ?_ (zbk.refl _ _ _))
              simp [zi,zdM,go_sem,zc,zd,ze,zf,pos,List.range_succ,rwH,cWd,zo,cE,zu]
            · obtain ⟨rfl,rfl,rfl⟩:=hu1 h0
              simp only [go_sem,cWd,zo,h0]
              rw [zI]
              refine ⟨by simp,_,?_,0,rfl⟩
              refine Zh (st1:=⟨mkE .top [(3,.ptr 0 0),(4,.ptr 1 0),(5,.ptr 2 0),(7,.ptr 3 0),(10,.ptr 6 0),(11,.int .i64 (Zw ss ys)),(12,.ptr 7 0)],
                [.box (cWd ss ys),.box (zo k i n c t),.box (cE e),.box [.arr 4 ss.length,.arr 5 ys.length],.arr ss.length true false 36 3 (ss.map zp),.arr ys.length true false 34 1 (cYs ys),.box (cE e),.box [.nilsl,.nilsl]]⟩) ?_ ?_
              · simp [zi,go_sem,zc,zd,ze,zf,pos,List.range_succ,cWd,zo,cE]
              · refine zbk.trans (Z9 7 0 0 36 3 true false rfl rfl (by omega)) ?_
                refine zbk.trans (Z9 7 1 0 34 1 true false rfl rfl (by omega)) ?_
                refine zbk.trans (zbz [3,4,5,7,10,11,12] [0,1,2,3,6,7] (by simp) (by simp) (by simp [hx])) (Zh ?_ (zbk.refl _ _ _))
                simp [zdM,go_sem,zc,zd,ze,zf,pos,rwH,cWd,zo,cE,zu,cYs]
  · rintro st ⟨j,rfl⟩
    simp only [List.drop_succ_cons,List.drop_zero]
    refine zfy 1 ?_
    simp only [go_sem]
    refine Zx ?_
    simp only [List.drop_succ_cons,List.drop_zero]
    refine zdO ?_
    simp only [LC.flat]
    refine zwf [3,4,5,7,10,11,12,13] 6 (fun m st=>∃ q:Nat,q + m=2∧st=⟨mkE .top (rwE u q),rwH ss ys k i n c t e wx wy⟩) 2 (by simp [hx]) (by simp [rwH]) ?_ ?_
    · refine ⟨0,by omega,?_⟩
      simp [zi,go_sem,zc,zd,ze,zf,pos,List.range_succ,rwE,rwH,cWd,zo,cE]
    · rintro m st ⟨q,hq,rfl⟩
      by_cases hlt:q < 2
      · refine W.mono (zqX hx hxo ss ys k i n c t e wx wy u q ⟨by omega,by omega⟩ hs oS oY (by omega) (zm0 e) hdo hse hru his hok) ?_
        rintro e' st' ⟨rfl,h1,h2⟩
        refine ⟨h1,m - 1,by omega,q + 1,by omega,?_⟩
        rw [h2]
        simp
      · obtain rfl:q=2:=by omega
        refine zaC ?_
        simp only [go_sem,rwE,rwH,cWd,zo,cE,zq,Int.reduceLT,Int.reduceLE,Int.reduceToNat,Int.reduceAdd,frz]
        refine Zx ?_
        refine zY ?_
        simp only [go_sem]
        refine zi8 ?_
        simp [go_sem,L3,R3,frS,frA,frL]
end Go.Proofs.YtkcahmbcpkjpiaaGreatDoor
namespace Go.Proofs.YtkcahmbcpkjpiaaGreatDoor
open Go.RowKit Go.ChangeShapes Go.WideShapes Go.ChangeAt
section
variable {H:Type} {enc:TypeId × Value→H} {P:Program} {w:World} {sp:Nat→Bool} {held:Bool}
theorem zeM (hl : laidOutB P = true) {W W' : World} (hb : Below W.heap.size W W') : ∀ {ts : List TypeId} {vs : List Value} {ds : List (DataW H)} {ps : List MemPlace},
    (∀ t ∈ ts,P.readableRec t=true∧t < P.types.size)→(∀ x ∈ ps,x.block < W.heap.size)→DataW.TrodAll enc P W 0 (fun _=>true) true ts vs ds ps→DataW.TrodAll enc P W' 0 (fun b=>decide (b < W.heap.size)) true ts vs ds ps
  | [],[],[],_,_,_,h=>h
  | t :: ts,v :: vs,d :: ds,_,hr,hlt,h=>by
    obtain ⟨p,q,h1,h2,rfl⟩:=h
    refine ⟨p,q,Below.trod hl (hr t (by simp)).1 (hr t (by simp)).2 h1 hb (fun x hx=>hlt x (by simp [hx])),zeM hl hb (fun t' ht=>hr t' (by simp [ht])) (fun x hx=>hlt x (by simp [hx])) h2,rfl⟩
  | [],[],_ :: _,_,_,_,h=>h.elim
  | [],_ :: _,_,_,_,_,h=>by cases h
  | _ :: _,[],_,_,_,_,h=>by cases h
  | _ :: _,_ :: _,[],_,_,_,h=>h.elim
theorem zrk {f : Func} {s : ChangeSpec} {apart : Bool} {W W' : World} {args : Array Value} {ds gs : List (DataW H)} {before : List MemPlace} {tb : TypeId}
    (hl:laidOutB P=true) (hpar:∀ t ∈ f.params.toList,P.readableRec t=true∧t < P.types.size) (hres:f.resultTypes=#[tb]) (hub:P.underlying tb=some .bool) (hvars:s.vars = [])
    (hW:DataW.Whole enc P f.params.toList s.vars apart W args.toList ds gs before)
    (hs:s.fn H (ds ++ gs) = { results := [.lit (.bool true)],args:=ds }) (hb:Below W.heap.size W W'):s.post enc P f apart true false false W args (.bool true) W':=by
  have hlt:=hW.lt
  have hW':=hW
  obtain ⟨p,q,hA,hV,rfl,hfz,hnd⟩:=hW
  rw [hvars] at hV
  have hq:gs = []∧q = []:=by
    cases gs with
    | nil=>exact ⟨rfl,hV⟩
    | cons g gs=>exact hV.elim
  obtain ⟨rfl,rfl⟩:=hq
  refine ⟨ds,[],_,[],p,[],hW',?_,?_,?_,hb.frame _,fun h=>by cases h⟩
  · rw [hs,hres]
    exact trodAll_mk1 (shut_bool hub true)
  · rw [hs]
    exact zeM hl hb hpar (fun x hx=>hlt x (by simp [hx])) hA
  · rw [hs,hvars]
    rfl
theorem zw3 {ts:List TypeId} (h:(ts.all fun t=>P.readableRec t && decide (t < P.types.size))=true):∀ t ∈ ts,P.readableRec t=true∧t < P.types.size:=by
 intro t ht
 have:=List.all_eq_true.1 h t ht
 simpa only [Bool.and_eq_true,decide_eq_true_eq] using this
end
def I64 (n:Int):Prop := -9223372036854775808≤n∧n≤9223372036854775807
theorem zpD {n:Int} (h:(Lit.int .i64 n).wf=true):I64 n:=by simpa [Lit.wf,IntKind.min,IntKind.max,IntKind.signed,IntKind.bits,I64] using h
section
variable {H:Type} {enc:TypeId × Value→H} {w:World} {sp:Nat→Bool} {held:Bool}
theorem zw4:ownKnob Tryz.prog.godebug=none:=by kernel_rfl
theorem ztp:laidOutB Tryz.prog=true:=by kernel_rfl
theorem ztq:Tryz.prog.underlying 4=some .bool:=by kernel_rfl
theorem ztr:Tryz.prog.underlying 3=some (.int .i64):=by kernel_rfl
theorem zrl:Tryz.prog.cellsOf 3=1:=by kernel_rfl
theorem zAb:Tryz.prog.underlying 29=some (.struct (Tryz.prog.fieldsOf 29)):=by kernel_rfl
theorem zts:Tryz.prog.cellsOf 29=2:=by kernel_rfl
end
end Go.Proofs.YtkcahmbcpkjpiaaGreatDoor
namespace Go.Proofs.YtkcahmbcpkjpiaaGreatDoor
open Go.RowKit Go.ChangeShapes Go.WideShapes Go.ChangeAt
def zk2 (w:World) (ps:List PV) (cs:List Value):Prop:=cs.length=ps.length∧∀ (j:Nat) p v,ps[j]? = some p→cs[j]? = some v→RepP (fun b _=>b < w.heap.size) w p v
section
variable {H:Type} {enc:TypeId × Value→H} {P:Program} {w:World} {sp:Nat→Bool} {held:Bool}
def zb6 (enc:TypeId × Value→H) (P:Program) (w:World) (sp:Nat→Bool) (held:Bool) (t:TypeId) (n:Nat) (R:List PV→Prop):Prop :=
 P.cellsOf t=n∧∀ fuel cs (y:DataW H × List MemPlace),DataW.trod enc P w 0 sp held fuel t cs=some y→(∀ k ∈ y.1.weights P t,k≤reachBytes)→∃ ps,ps.length=n∧R ps∧zk2 w ps cs
theorem zb6.mono {t:TypeId} {n:Nat} {R R':List PV→Prop} (h:zb6 enc P w sp held t n R) (hR:∀ ps,R ps→R' ps):zb6 enc P w sp held t n R' :=
 ⟨h.1,fun fuel cs y hy hw=>by obtain ⟨ps,h1,h2,h3⟩:=h.2 fuel cs y hy hw; exact ⟨ps,h1,hR ps h2,h3⟩⟩
theorem zpE {p:PV} {v:Value} (h:RepP (fun b _=>b < w.heap.size) w p v):zk2 w [p] [v]:=by
 refine ⟨rfl,fun j q u hj hu=>?_⟩
 cases j with
 | zero=>simp at hj hu; subst hj; subst hu; exact h
 | succ j=>simp at hj
theorem zpF {t:TypeId} (ht:P.underlying t=some (.int .i64)) (hc:P.cellsOf t=1):zb6 enc P w sp held t 1 fun ps=>∃ n,I64 n∧ps = [.int .i64 n]:=by
 refine ⟨hc,fun fuel cs y h _=>?_⟩
 obtain ⟨n,rfl,-,hw⟩:=DataW.trod_int ht h
 exact ⟨[.int .i64 n],rfl,⟨n,zpD hw,rfl⟩,zpE (.int _ _)⟩
theorem zpG {t:TypeId} (ht:P.underlying t=some .string) (hc:P.cellsOf t=1):zb6 enc P w sp held t 1 fun ps=>∃ s:ByteArray,s.size≤reachBytes∧ps = [.str s]:=by
 refine ⟨hc,fun fuel cs y h hw=>?_⟩
 obtain ⟨s,rfl,rfl,-⟩:=DataW.trod_string ht h
 have hs:=hw s.data.toList.length (by simp [DataW.weights])
 exact ⟨[.str s],rfl,⟨s,by simpa using hs,rfl⟩,zpE (.str _)⟩
theorem zk3 {t e : TypeId} {fuel : Nat} {v : Value} {x : DataW H × List MemPlace} (ht : P.underlying t = some (.slice e)) (hsz : 0 < P.cellsOf e) (h : DataW.trod enc P w 0 sp held fuel t [v] = some x) (hw : ∀ k ∈ x.1.weights P t, k ≤ reachBytes) :
    ∃ a n c,v = .slice a n c∧n≤c∧c≤maxLen∧n * P.bytesOf e≤reachBytes∧∀ k,k < n→∃ b o cs m y,a=some ⟨b,o,none⟩∧b < w.heap.size∧cs.length=P.cellsOf e∧(∀ j,j < P.cellsOf e→w.cell? ⟨b,o + k * P.cellsOf e + j,none⟩=cs[j]?) ∧
      DataW.trod enc P w 0 sp held m e cs=some y∧∀ q ∈ y.1.weights P e,q≤reachBytes:=by
  have memAll:∀ (ds:List (DataW H)) (d:DataW H),d ∈ ds→∀ q ∈ d.weights P e,q ∈ DataW.weightsAll P e ds:=by
    intro ds
    induction ds with
    | nil=>intro d hd; cases hd
    | cons d0 ds ih =>
      intro d hd q hq
      simp only [DataW.weightsAll,List.mem_append]
      rcases List.mem_cons.1 hd with rfl | hd
      · exact .inl hq
      · exact .inr (ih d hd q hq)
  rcases DataW.trod_slice ht h with ⟨hv,-⟩ | ⟨a,len,cap,elems,rest,m,-,hv,hx,-,h1,h2,hl,hel,-,-⟩
  · exact ⟨none,0,0,by simpa using hv,by omega,by unfold maxLen; omega,by omega,fun k hk=>by omega⟩
  · obtain rfl:v = .slice (some a) len cap:=by simpa using hv
    have hwt:len * P.bytesOf e≤reachBytes:=by
      have:=hw ((elems.length + rest.length) * P.bytesOf e) (by rw [hx]; simp [DataW.weights,ht])
      have h3:len * P.bytesOf e≤(elems.length + rest.length) * P.bytesOf e:=Nat.mul_le_mul_right _ (by omega)
      omega
    have key:∀ k,k < len→∃ cs y,w.cells? 0 (a.add (k * P.cellsOf e)) (P.cellsOf e)=some cs∧DataW.trod enc P w 0 sp held m e cs=some y∧∀ q ∈ y.1.weights P e,q≤reachBytes:=by
      intro k hk
      have:=hel k hk
      rw [List.getElem?_eq_getElem (by omega)] at this
      obtain ⟨cs,hcs,hy⟩:=Option.bind_eq_some_iff.1 this
      refine ⟨cs,_,hcs,hy,fun q hq=>hw q ?_⟩
      rw [hx]
      simp only [DataW.weights,ht,List.mem_cons,List.mem_append]
      exact .inr (.inl (memAll _ _ (List.mem_map.2 ⟨_,List.getElem_mem _,rfl⟩) q hq))
    refine ⟨some a,len,cap,rfl,h1,h2,hwt,fun k hk=>?_⟩
    obtain ⟨cs0,y0,hc0,-⟩:=key 0 (by omega)
    have h0:=(World.cells?_some hc0).2.2 0 hsz
    obtain ⟨ab,ao,asp⟩:=a
    have hl0:=(World.cells?_some hc0).2.1
    have has:asp=none:=by
      simp only [Nat.zero_mul,Addr.add,if_true] at h0
      rw [List.getElem?_eq_getElem (by omega)] at h0
      cases asp with
      | none=>rfl
      | some s =>
        simp only [World.cell?] at h0
        split at h0 <;> simp at h0
    subst has
    obtain ⟨cs,y,hcs,hy,hq⟩:=key k hk
    have h3:=World.cells?_some hcs
    have add_eq:∀ (o n:Nat),(⟨ab,o,none⟩:Addr).add n=⟨ab,o + n,none⟩:=by
      intro o n; unfold Addr.add; split <;> simp_all
    refine ⟨ab,ao,cs,m,y,rfl,?_,h3.2.1,fun j hj=>?_,hy,hq⟩
    · exact World.cells?_block (a:=⟨ab,ao,none⟩) (by simpa [add_eq] using hc0) hsz
    · have:=h3.2.2 j hj
      simpa [add_eq] using this
theorem zk4 {α:Type} {n:Nat} {Q:Nat→α→Prop} (h:∀ k,k < n→∃ x,Q k x):∃ l:List α,l.length=n∧∀ (k:Nat) x,l[k]? = some x→Q k x:=by
 induction n with
 | zero=>exact ⟨[],rfl,fun k x hk=>by simp at hk⟩
 | succ n ih =>
  obtain ⟨l,h1,h2⟩:=ih fun k hk=>h k (by omega)
  obtain ⟨x,hx⟩:=h n (by omega)
  refine ⟨l ++ [x],by simp [h1],fun k y hk=>?_⟩
  by_cases hlt:k < l.length
  ·
   rw [List.getElem?_append_left hlt] at hk; exact h2 k y hk
  ·
   rw [List.getElem?_append_right (by omega)] at hk
   have:k - l.length=0:=by
    have:=(List.getElem?_eq_some_iff.1 hk).1
    simp at this; omega
   rw [this] at hk
   simp at hk
   subst hk
   rw [show k=n by omega]; exact hx
theorem zcK {t e : TypeId} {n : Nat} {R : List PV → Prop} (ht : P.underlying t = some (.slice e)) (hc : P.cellsOf t = 1) (hn : 0 < n) (he : zb6 enc P w sp held e n R) :
    zb6 enc P w sp held t 1 fun ps=>∃ rows,rows.length * P.bytesOf e≤reachBytes∧(∀ row ∈ rows,row.length=n∧R row)∧ps = [.list rows]:=by
  refine ⟨hc,fun fuel cs y h hw=>?_⟩
  have hcs:∃ v,cs = [v]:=by
    rcases DataW.trod_slice ht h with ⟨hv,-⟩ | ⟨a,len,cap,elems,rest,m,-,hv,-⟩ <;> exact ⟨_,hv⟩
  obtain ⟨v,rfl⟩:=hcs
  obtain ⟨hce,he⟩:=he
  obtain ⟨a,len,c,rfl,h1,h2,hby,h3⟩:=zk3 ht (by omega) h hw
  rw [hce] at h3
  obtain ⟨rows,r1,r2⟩:=zk4 (Q:=fun k (row:List PV)=>row.length=n∧R row∧∃ b o cs,a=some ⟨b,o,none⟩∧b < w.heap.size∧cs.length=n∧(∀ j,j < n→w.cell? ⟨b,o + k * n + j,none⟩=cs[j]?)∧zk2 w row cs) fun k hk=>by
    obtain ⟨b,o,cs,m,y,q1,q2,q3,q4,q5,q6⟩:=h3 k hk
    obtain ⟨ps,p1,p2,p3⟩:=he m cs y q5 q6
    exact ⟨ps,p1,p2,b,o,cs,q1,q2,q3,q4,p3⟩
  refine ⟨[.list rows],rfl,⟨rows,by rw [r1]; exact hby,fun row hr=>?_,rfl⟩,zpE ?_⟩
  · obtain ⟨k,hk⟩:=List.getElem?_of_mem hr
    exact ⟨(r2 k row hk).1,(r2 k row hk).2.1⟩
  · have key:∀ k row j p,rows[k]? = some row→row[j]? = some p→∃ b o,a=some ⟨b,o,none⟩∧b < w.heap.size∧∃ u,w.cell? ⟨b,o + k * n + j,none⟩=some u∧RepP (fun b _=>b < w.heap.size) w p u:=by
      intro k row j p hk hj
      obtain ⟨hl,-,b,o,cs,q1,q2,q3,q4,q5⟩:=r2 k row hk
      have hlt:j < n:=by rw [← hl]; exact (List.getElem?_eq_some_iff.1 hj).1
      refine ⟨b,o,q1,q2,cs[j]'(by omega),?_,?_⟩
      · rw [q4 j hlt,List.getElem?_eq_getElem (by omega)]
      · exact q5.2 j p _ hj (List.getElem?_eq_getElem (by omega))
    have := RepP.list (S := fun b _ => b < w.heap.size) (w := w) rows a c n (fun k j => match a with | some ad => (w.cell? ⟨ad.block, ad.off + k * n + j, none⟩).getD Go.undef | none => Go.undef) (by omega) h2 hn (fun row hr => by
        obtain ⟨k,hk⟩:=List.getElem?_of_mem hr
        exact (r2 k row hk).1) (fun k row j p hk hj=>by
        obtain ⟨b,o,q1,q2,u,q3,q4⟩:=key k row j p hk hj
        subst q1
        exact ⟨b,o,rfl,q2,by simp [q3]⟩) (fun k row j p hk hj=>by
        obtain ⟨b,o,q1,q2,u,q3,q4⟩:=key k row j p hk hj
        subst q1
        simp only [q3,Option.getD_some]
        exact q4)
    rw [r1] at this
    exact this
def zxI:Nat→List (TypeId × Nat)→List (TypeId × Nat)
 | _,[] => []
 | o,(t,n) :: r=>(t,o) :: zxI (o + n) r
def zAc:List (Nat × (List PV→Prop))→List PV→Prop
 | [],ps=>ps = []
 | (n,R) :: r,ps=>∃ a b,ps=a ++ b∧a.length=n∧R a∧zAc r b
def ziE (enc:TypeId × Value→H) (P:Program) (w:World) (sp:Nat→Bool) (held:Bool):List (TypeId × Nat × (List PV→Prop))→Prop
 | []=>True
 | (t,n,R) :: r=>zb6 enc P w sp held t n R∧ziE enc P w sp held r
theorem zj6 {a b:List PV} {cs ds:List Value} (h1:zk2 w a cs) (h2:zk2 w b ds):zk2 w (a ++ b) (cs ++ ds):=by
 refine ⟨by simp [h1.1,h2.1],fun j p v hj hv=>?_⟩
 by_cases hlt:j < a.length
 ·
  rw [List.getElem?_append_left hlt] at hj
  rw [List.getElem?_append_left (by rw [h1.1]; exact hlt)] at hv
  exact h1.2 j p v hj hv
 ·
  rw [List.getElem?_append_right (by omega)] at hj
  rw [List.getElem?_append_right (by rw [h1.1]; omega),h1.1] at hv
  exact h2.2 _ p v hj hv
theorem zfp : ∀ (fl : List (TypeId × Nat × (List PV → Prop))) (o : Nat) (cs : List Value), ziE enc P w sp held fl → cs.length = o + (fl.map (·.2.1)).sum →
    (∀ (i:Nat) (t':TypeId) (o':Nat),(zxI o (fl.map fun f=>(f.1,f.2.1)))[i]? = some (t',o')→∃ n y,DataW.trod enc P w 0 sp held n t' ((cs.drop o').take (P.cellsOf t'))=some y∧∀ k ∈ y.1.weights P t',k≤reachBytes) →
    ∃ ps,ps.length=(fl.map (·.2.1)).sum∧zAc (fl.map (·.2)) ps∧zk2 w ps (cs.drop o)
  | [], o, cs, _, hl, _ => ⟨[], rfl, rfl, by
      rw [List.drop_eq_nil_of_le (by simp at hl; omega)]
      exact ⟨rfl,fun j p v hj=>by simp at hj⟩⟩
  | (t,n,R) :: fl,o,cs,ho,hl,hx=>by
    obtain ⟨⟨hc,h1⟩,h2⟩:=ho
    obtain ⟨m,y,hy,hwy⟩:=hx 0 t o rfl
    obtain ⟨ps,p1,p2,p3⟩:=h1 m _ y hy hwy
    simp only [List.map_cons,List.sum_cons] at hl
    obtain ⟨qs,q1,q2,q3⟩:=zfp fl (o + n) cs h2 (by omega) fun i t' o' hi=>hx (i + 1) t' o' hi
    refine ⟨ps ++ qs,by simp [p1,q1],⟨ps,qs,rfl,p1,p2,q2⟩,?_⟩
    rw [hc] at p3
    have:cs.drop o=(cs.drop o).take n ++ cs.drop (o + n):=by rw [← List.drop_drop,List.take_append_drop]
    rw [this]
    exact zj6 p3 q3
theorem zbf {t : TypeId} {n : Nat} (fl : List (TypeId × Nat × (List PV → Prop))) (hs : P.underlying t = some (.struct (P.fieldsOf t))) (hf : (P.fieldsOf t).toList.map (fun f => (f.type, f.offset)) = zxI 0 (fl.map fun f => (f.1, f.2.1)))
    (hc:P.cellsOf t=n) (hn:(fl.map (·.2.1)).sum=n) (ho:ziE enc P w sp held fl):zb6 enc P w sp held t n (zAc (fl.map (·.2))):=by
  refine ⟨hc,fun fuel cs y h hw=>?_⟩
  obtain ⟨xs,m,_,hy,hl,hlen,hq⟩:=DataW.trod_struct hs h
  have hx:∀ (i:Nat) (t':TypeId) (o':Nat),(zxI 0 (fl.map fun f=>(f.1,f.2.1)))[i]? = some (t',o')→∃ n y,DataW.trod enc P w 0 sp held n t' ((cs.drop o').take (P.cellsOf t'))=some y∧∀ k ∈ y.1.weights P t',k≤reachBytes:=by
    intro i t' o' hi
    rw [← hf,List.getElem?_map] at hi
    obtain ⟨f,h1,h2⟩:=Option.map_eq_some_iff.1 hi
    simp only [Prod.mk.injEq] at h2
    obtain ⟨rfl,rfl⟩:=h2
    have h3:=hq i f (by simpa using h1)
    have hi2:i < (P.fieldsOf t).toList.length:=(List.getElem?_eq_some_iff.1 h1).1
    have hi3:i < xs.length:=by rw [hlen]; simpa using hi2
    refine ⟨m,xs[i],by rw [h3]; simp,fun k hk=>hw k ?_⟩
    rw [hy]
    simp only [DataW.weights,hs]
    refine DataW.weights_mem_each (j:=i) (t:=f.type) (d:=xs[i].1) ?_ ?_ k hk
    · rw [List.getElem?_map,h1]; rfl
    · rw [List.getElem?_map,List.getElem?_eq_getElem hi3]; rfl
  obtain ⟨ps,h1,h2,h3⟩:=zfp fl 0 cs ho (by omega) hx
  exact ⟨ps,by omega,h2,h3⟩
theorem ziF {t:TypeId} {n:Nat} {R:List PV→Prop} (ho:zb6 enc P w sp held t n R) {v:Value} (h1:∃ cs,v = .agg cs) {d:DataW H} {p:List MemPlace} (h:DataW.Trod enc P w 0 sp held t v d p) (hw:∀ k ∈ d.weights P t,k≤reachBytes) (S:Nat→Nat→Prop) (hS:∀ b o,b < w.heap.size→S b o) (C:Conc):∃ ps,R ps∧RepV S w C (.agg ps) v:=by
 obtain ⟨fuel,hf⟩:=h
 obtain ⟨cs,rfl⟩:=h1
 obtain ⟨ps,p1,p2,p3⟩:=ho.2 fuel _ _ hf hw
 have hk:∀ (j:Nat) q x,ps[j]? = some q→cs.toList[j]? = some x→RepP (fun b _=>b < w.heap.size) w q x:=fun j q x hj hx=>p3.2 j q x hj hx
 refine ⟨ps,p2,?_⟩
 have:=RepV.agg (S:=S) (w:=w) (C:=C) ps cs.toList p3.1 (fun j x hx=>?_) fun j q x hj hx => .pure ((hk j q x hj hx).mono (fun b o h=>hS b o h) fun _ _ _=>rfl)
 ·
  simpa using this
 ·
  have hlt:j < ps.length:=by rw [← p3.1]; exact (List.getElem?_eq_some_iff.1 hx).1
  exact (hk j _ x (List.getElem?_eq_getElem hlt) hx).one
end
def zcS (w:World):Cx:=⟨w,fun b _=>b < w.heap.size,⟨0,fun _=>0,fun _=>Go.undef,fun _=>0,fun _ _=>False⟩,[]⟩
theorem zAd (w:World):HR (zcS w) (zcS w).C0 [] w :=
 ⟨rfl,fun id ob h=>by simp at h,fun id id' ob ob' b h=>by simp at h,fun id ob b h=>by simp at h,fun b o h=>⟨h,fun id ob h=>by simp at h,rfl⟩,Nat.le_refl _,rfl,rfl,rfl,fun b _ _=>rfl,Nat.le_refl _,fun i hi=>rfl,fun i hi => .inl ⟨rfl,rfl⟩,fun b o h=>h.elim,fun _ _ h=>h,fun _ _ h=>h⟩
theorem ziG {w:World} {b o:Nat} (h:b < w.heap.size):zA (zcS w) (zcS w).C0 [] w b o:=⟨.inl h,h,fun id ob h=>by simp at h⟩
def Arg (w:World) (p:PV) (v:Value):Prop:=RepV (zA (zcS w) (zcS w).C0 [] w) w (zcS w).C0 p v
theorem Arg.of {w:World} {p:PV} {v:Value} (h:RepP (fun b _=>b < w.heap.size) w p v):Arg w p v := .pure (h.mono (fun _ _ h=>ziG h) fun _ _ _=>rfl)
inductive ArgsAre (w:World):List PV→List Value→Prop
 | nil:ArgsAre w [] []
 | cons {p:PV} {v:Value} {ps:List PV} {vs:List Value} (h:Arg w p v) (t:ArgsAre w ps vs):ArgsAre w (p :: ps) (v :: vs)
theorem ArgsAre.reps {w:World} {ps:List PV} {vs:List Value} (h:ArgsAre w ps vs):zk5 (zA (zcS w) (zcS w).C0 [] w) w (zcS w).C0 ps vs:=by
 induction h with
 | nil=>exact ⟨rfl,fun j p v hj=>by simp at hj⟩
 | cons h t ih =>
  refine ⟨by simp [ih.1],fun j p v hj hv=>?_⟩
  cases j with
  | zero=>simp at hj hv; subst hj; subst hv; exact h
  | succ j=>exact ih.2 j p v (by simpa using hj) (by simpa using hv)
theorem zpH {P:Program} {f:Nat} {args:List PV} {vs:Array Value} {w:World} (h:zg P f args [] (.bool true) []) (hp:ArgsAre w args vs.toList):Calls P f vs w fun e w'=>e = .returned (.bool true)∧Below w.heap.size w w':=by
 refine (h (zcS w) vs rfl (zAd w) hp.reps).mono fun e w' ⟨v,C',h1,h2,h3⟩=>?_
 have hv:=h3.bool_inv
 subst hv
 exact ⟨h1,⟨h2.os,h2.tape,h2.output,h2.size,fun b hb=>h2.frame b hb fun i ob0 hi=>by simp [zcS] at hi⟩⟩
end Go.Proofs.YtkcahmbcpkjpiaaGreatDoor
namespace Go.Proofs.YtkcahmbcpkjpiaaGreatDoor
open Go.RowKit Go.ChangeShapes Go.WideShapes Go.ChangeAt
section
variable {H:Type} {enc:TypeId × Value→H} {w:World} {sp:Nat→Bool} {held:Bool}
theorem zeN {α:Type} {f:α→List PV} {Q:α→Prop} {n:Nat}:∀ {rows:List (List PV)},(∀ row ∈ rows,row.length=n∧∃ x,Q x∧row=f x)→∃ l:List α,(∀ x ∈ l,Q x)∧rows=l.map f
 | [],_=>⟨[],by simp,rfl⟩
 | row :: rows,h=>by
  obtain ⟨-,x,h1,rfl⟩:=h row (by simp)
  obtain ⟨l,h2,rfl⟩:=zeN (rows:=rows) fun row hr=>h row (by simp [hr])
  exact ⟨x :: l,by simpa using ⟨h1,h2⟩,rfl⟩
theorem zj7:zb6 enc Tryz.prog w sp held 3 1 fun ps=>∃ n,I64 n∧ps = [.int .i64 n]:=zpF ztr zrl
theorem zw5:zb6 enc Tryz.prog w sp held 9 1 fun ps=>∃ s:ByteArray,s.size≤reachBytes∧ps = [.str s]:=zpG (by kernel_rfl) (by kernel_rfl)
def zxJ (x:Id):Prop:=I64 x.r∧I64 x.n
theorem zAl:zb6 enc Tryz.prog w sp held 29 2 fun ps=>∃ x:Id,zxJ x∧ps=cId x :=
 (zbf [(3,1,_),(3,1,_)] zAb (by kernel_rfl) zts rfl ⟨zj7,zj7,trivial⟩).mono (by
  rintro ps ⟨a,b,rfl,-,⟨n,hn,rfl⟩,c,d,rfl,-,⟨m,hm,rfl⟩,rfl⟩
  exact ⟨⟨n,m⟩,⟨hn,hm⟩,rfl⟩)
theorem zAe:zb6 enc Tryz.prog w sp held 30 1 fun ps=>∃ l:List Id,l.length * 16≤reachBytes∧(∀ x ∈ l,zxJ x)∧ps = [.list (l.map cId)] :=
 (zcK (by kernel_rfl) (by kernel_rfl) (by omega) zAl).mono (by
  rintro ps ⟨rows,hm,hr,rfl⟩
  obtain ⟨l,h1,rfl⟩:=zeN hr
  rw [show Tryz.prog.bytesOf 29=16 by kernel_rfl] at hm
  exact ⟨l,by simpa using hm,h1,rfl⟩)
def wfE (e:Entry):Prop:=zxJ e.id∧I64 e.c∧e.t.size≤reachBytes∧e.ls.length * 16≤reachBytes∧∀ x ∈ e.ls,zxJ x
theorem zlT:Tryz.prog.underlying 32=some (.struct (Tryz.prog.fieldsOf 32)):=by kernel_rfl
theorem zpI:zb6 enc Tryz.prog w sp held 32 5 fun ps=>∃ e:Entry,wfE e∧ps=cE e :=
 (zbf [(29,2,_),(3,1,_),(9,1,_),(30,1,_)] zlT (by kernel_rfl) (by kernel_rfl) rfl ⟨zAl,zj7,zw5,zAe,trivial⟩).mono (by
  rintro ps ⟨a,b,rfl,-,⟨x,hx,rfl⟩,c,d,rfl,-,⟨n,hn,rfl⟩,f,g,rfl,-,⟨s,hs,rfl⟩,k,q,rfl,-,⟨l,hl,hq,rfl⟩,rfl⟩
  exact ⟨⟨x,n,s,l⟩,⟨hx,hn,hs,hl,hq⟩,rfl⟩)
theorem zrm {b0:Nat} {v:Value} {d:DataW H} {p:List MemPlace} (hv:Value.okWide Tryz.prog w .any b0 32 v) (h:DataW.Trod enc Tryz.prog w 0 sp held 32 v d p) (hw:∀ k ∈ d.weights Tryz.prog 32,k≤reachBytes):∃ e:Entry,wfE e∧Arg w (.agg (cE e)) v:=by
 obtain ⟨cs,rfl,-⟩:=okWide_struct zlT hv
 obtain ⟨ps,⟨x,hx,rfl⟩,h2⟩:=ziF zpI ⟨_,rfl⟩ h hw (zA (zcS w) (zcS w).C0 [] w) (fun _ _ h=>ziG h) _
 exact ⟨x,hx,h2⟩
end
end Go.Proofs.YtkcahmbcpkjpiaaGreatDoor
namespace Go.Proofs.YtkcahmbcpkjpiaaGreatDoor
open Go.RowKit Go.ChangeShapes Go.WideShapes Go.ChangeAt
section
variable {H:Type} {enc:TypeId × Value→H} {w:World} {sp:Nat→Bool} {held:Bool}
end
end Go.Proofs.YtkcahmbcpkjpiaaGreatDoor
namespace Go.Proofs.YtkcahmbcpkjpiaaGreatDoor
open Go.RowKit Go.ChangeShapes Go.WideShapes Go.ChangeAt
section
variable {H:Type} {enc:TypeId × Value→H} {w:World} {sp:Nat→Bool} {held:Bool}
theorem ztt:Tryz.prog.underlying 36=some (.struct (Tryz.prog.fieldsOf 36)):=by kernel_rfl
end
end Go.Proofs.YtkcahmbcpkjpiaaGreatDoor
namespace Go.Proofs.YtkcahmbcpkjpiaaGreatDoor
open Go.RowKit Go.ChangeShapes Go.WideShapes Go.ChangeAt
section
variable {H:Type} {enc:TypeId × Value→H} {w:World} {sp:Nat→Bool} {held:Bool}
theorem ziH:Tryz.prog.underlying 25=some (.struct (Tryz.prog.fieldsOf 25)):=by kernel_rfl
theorem zrW:Tryz.prog.underlying 27=some (.struct (Tryz.prog.fieldsOf 27)):=by kernel_rfl
theorem zAf:zb6 enc Tryz.prog w sp held 27 5 fun ps=>∃ (k i n c:Int) (t:ByteArray),True∧ps = [.int .i64 k,.int .i64 i,.int .i64 n,.int .i64 c,.str t] :=
 (zbf [(3,1,_),(3,1,_),(3,1,_),(3,1,_),(9,1,_)] zrW (by kernel_rfl) (by kernel_rfl) rfl ⟨zj7,zj7,zj7,zj7,zw5,trivial⟩).mono (by
  rintro ps ⟨a,b,rfl,-,⟨x,hx,rfl⟩,c,d,rfl,-,⟨y,hy,rfl⟩,k,q,rfl,-,⟨l,hl,rfl⟩,k2,q2,rfl,-,⟨l2,hl2,rfl⟩,k3,q3,rfl,-,⟨t,ht,rfl⟩,rfl⟩
  exact ⟨x,y,l,l2,t,trivial,rfl⟩)
theorem zw6 {b0 : Nat} {v : Value} {d : DataW H} {p : List MemPlace} (hv : Value.okWide Tryz.prog w .any b0 27 v) (h : DataW.Trod enc Tryz.prog w 0 sp held 27 v d p) (hw : ∀ k ∈ d.weights Tryz.prog 27, k ≤ reachBytes) :
    ∃ (k i n c:Int) (t:ByteArray),Arg w (.agg [.int .i64 k,.int .i64 i,.int .i64 n,.int .i64 c,.str t]) v:=by
  obtain ⟨cs,rfl,-⟩:=okWide_struct zrW hv
  obtain ⟨ps,⟨k,i,n,c,t,-,rfl⟩,h4⟩:=ziF zAf ⟨_,rfl⟩ h hw (zA (zcS w) (zcS w).C0 [] w) (fun _ _ h=>ziG h) _
  exact ⟨k,i,n,c,t,h4⟩
end
end Go.Proofs.YtkcahmbcpkjpiaaGreatDoor
namespace Go.Proofs.YtkcahmbcpkjpiaaGreatDoor
open Go.RowKit Go.ChangeShapes Go.WideShapes Go.ChangeAt
section
variable {H:Type} {enc:TypeId × Value→H} {w:World} {sp:Nat→Bool} {held:Bool}
theorem zm1:zb6 enc Tryz.prog w sp held 34 1 fun ps=>∃ l:List Entry,l.length * 64≤reachBytes∧(∀ e ∈ l,wfE e)∧ps = [.list (l.map cE)] :=
 (zcK (by kernel_rfl) (by kernel_rfl) (by omega) zpI).mono (by
  rintro ps ⟨rows,hm,hr,rfl⟩
  obtain ⟨l,h1,rfl⟩:=zeN hr
  have hb:Tryz.prog.bytesOf 32=64:=by decide +kernel
  rw [hb,List.length_map] at hm
  exact ⟨l,hm,h1,rfl⟩)
end
end Go.Proofs.YtkcahmbcpkjpiaaGreatDoor
namespace Go.Proofs.YtkcahmbcpkjpiaaGreatDoor
open Go.RowKit Go.ChangeShapes Go.WideShapes Go.ChangeAt
def zm2 (l:List Entry):Prop:=l.length * 64≤reachBytes∧∀ e ∈ l,e.ls.length * 16≤reachBytes
section
variable {H:Type} {enc:TypeId × Value→H} {w:World} {sp:Nat→Bool} {held:Bool}
theorem zpJ:zb6 enc Tryz.prog w sp held 34 1 fun ps=>∃ l:List Entry,zm2 l∧ps = [.list (l.map cE)] :=
 zm1.mono (by
  rintro ps ⟨l,h1,h2,rfl⟩
  exact ⟨l,⟨h1,fun e he=>(h2 e he).2.2.2.1⟩,rfl⟩)
theorem ztu:zb6 enc Tryz.prog w sp held 36 3 fun ps=>∃ s:Si,(zm2 s.2.1∧zm2 s.2.2)∧ps=zp s :=
 (zbf [(3,1,_),(34,1,_),(34,1,_)] ztt (by kernel_rfl) (by kernel_rfl) rfl ⟨zj7,zpJ,zpJ,trivial⟩).mono (by
  rintro ps ⟨a,b,rfl,-,⟨x,hx,rfl⟩,c,d,rfl,-,⟨y,hy,rfl⟩,k,q,rfl,-,⟨l,hl,rfl⟩,rfl⟩
  exact ⟨(x,y,l),⟨hy,hl⟩,rfl⟩)
theorem zrn:zb6 enc Tryz.prog w sp held 22 1 fun ps=>∃ ss:List Si,(∀ s ∈ ss,zm2 s.2.1∧zm2 s.2.2)∧ps = [.list (ss.map zp)] :=
 (zcK (by kernel_rfl) (by kernel_rfl) (by omega) ztu).mono (by
  rintro ps ⟨rows,hm,hr,rfl⟩
  obtain ⟨l,h1,rfl⟩:=zeN hr
  exact ⟨l,h1,rfl⟩)
theorem ztv:zb6 enc Tryz.prog w sp held 23 1 fun ps=>∃ ys:List (List Entry),ys.length * 24≤reachBytes∧(∀ y ∈ ys,zm2 y)∧ps = [.list (cYs ys)] :=
 (zcK (by kernel_rfl) (by kernel_rfl) (by omega) zpJ).mono (by
  rintro ps ⟨rows,hm,hr,rfl⟩
  obtain ⟨l,h1,rfl⟩:=zeN (f:=fun l:List Entry => [PV.list (l.map cE)]) hr
  have hb:Tryz.prog.bytesOf 34=24:=by decide +kernel
  rw [hb,List.length_map] at hm
  exact ⟨l,hm,h1,rfl⟩)
theorem zro:zb6 enc Tryz.prog w sp held 25 2 fun ps=>∃ (ss:List Si) (ys:List (List Entry)),((∀ s ∈ ss,zm2 s.2.1∧zm2 s.2.2)∧ys.length * 24≤reachBytes∧∀ y ∈ ys,zm2 y)∧ps=cWd ss ys :=
 (zbf [(22,1,_),(23,1,_)] ziH (by kernel_rfl) (by kernel_rfl) rfl ⟨zrn,ztv,trivial⟩).mono (by
  rintro ps ⟨a,b,rfl,-,⟨ss,h1,rfl⟩,c,d,rfl,-,⟨ys,h2,h3,rfl⟩,rfl⟩
  exact ⟨ss,ys,⟨h1,h2,h3⟩,rfl⟩)
theorem zrp (d:DataW H):1≤Rows.uptoBulk d:=by
 cases d <;> unfold Rows.uptoBulk <;> first | omega | (split <;> omega)
theorem zlU:∀ ds:List (DataW H),ds.length≤Rows.uptoBulkAll ds
 | []=>Nat.zero_le _
 | d :: ds=>by
  have h1:=zrp d
  have h2:=zlU ds
  simp only [Rows.uptoBulkAll,List.length_cons]
  omega
theorem zpK:∀ {ds:List (DataW H)} {d:DataW H},d ∈ ds→Rows.uptoBulk d≤Rows.uptoBulkAll ds
 | [],_,h=>by cases h
 | d0 :: ds,d,h=>by
  simp only [Rows.uptoBulkAll]
  rcases List.mem_cons.1 h with rfl | h
  ·
   omega
  ·
   have:=zpK h; omega
theorem zm3 {v:Value} {d:DataW H} {p:List MemPlace} {ss:List Si} {ys:List (List Entry)} (h:DataW.Trod enc Tryz.prog w 0 sp held 25 v d p) (ha:Arg w (.agg (cWd ss ys)) v):ss.length≤Rows.uptoBulk d:=by
 obtain ⟨vs,rfl,hl,-,h2⟩:=ha.agg_inv
 obtain ⟨fuel,hf⟩:=h
 obtain ⟨xs,m,-,hy,-,hlen,hq⟩:=DataW.trod_struct ziH hf
 have e0:(Tryz.prog.fieldsOf 25).toList.map (fun f=>(f.type,f.offset)) = [(22,0),(23,1)]:=by kernel_rfl
 have hn:(Tryz.prog.fieldsOf 25).toList.length=2:=by have:=congrArg List.length e0; simpa using this
 have hx0:0 < xs.length:=by rw [hlen]; simp at hn; omega
 obtain ⟨f,hf0⟩:∃ f,(Tryz.prog.fieldsOf 25).toList[0]? = some f:=⟨_,List.getElem?_eq_getElem (by omega)⟩
 have e1:(f.type,f.offset)=(22,0):=by
  have:=congrArg (fun l=>l[0]?) e0
  simp only [List.getElem?_map,hf0,Option.map_some,List.getElem?_cons_zero,Option.some.injEq] at this
  exact this
 simp only [Prod.mk.injEq] at e1
 have h3:=hq 0 f (by simpa using hf0)
 rw [e1.1,e1.2] at h3
 have hc1:Tryz.prog.cellsOf 22=1:=by kernel_rfl
 have hl2:vs.length=2:=by rw [hl]; rfl
 obtain ⟨v0,v1,rfl⟩:∃ a b,vs = [a,b]:=by
  match vs,hl2 with
  | [a,b],_=>exact ⟨a,b,rfl⟩
 rw [hc1,List.getElem?_eq_getElem hx0] at h3
 have h3:DataW.trod enc Tryz.prog w 0 sp held m 22 [v0]=some xs[0]:=by simpa [Value.cells] using h3
 have hv:=(h2 0 _ v0 rfl rfl).list_inv
 have hle:ss.length≤Rows.uptoBulk xs[0].1:=by
  have hv0:∃ a c,v0 = .slice a ss.length c:=by
   generalize hrs:ss.map zp=rows at hv
   cases hv with
   | list rows a c sz y hc hm=>subst hrs; exact ⟨a,c,by simp⟩
  obtain ⟨a,c,rfl⟩:=hv0
  rcases DataW.trod_slice (e:=36) (by kernel_rfl) h3 with ⟨hv,-⟩ | ⟨a',len,cap,elems,rest,n,-,hv,hx,-,-,-,hlen,-⟩
  ·
   simp only [List.cons.injEq,Value.slice.injEq,and_true] at hv
   omega
  ·
   simp only [List.cons.injEq,Value.slice.injEq,and_true] at hv
   rw [hx]
   simp only [Rows.uptoBulk]
   have:=zlU (elems.map (·.1))
   rw [List.length_map] at this
   omega
 have hd:Rows.uptoBulk xs[0].1≤Rows.uptoBulkAll (xs.map (·.1)):=zpK (List.mem_map.2 ⟨_,List.getElem_mem hx0,rfl⟩)
 have hdd:d = .agg (xs.map (·.1)):=congrArg Prod.fst hy
 rw [hdd]
 simp only [Rows.uptoBulk]
 omega
theorem zpL {b0 : Nat} {v : Value} {d : DataW H} {p : List MemPlace} (hv : Value.okWide Tryz.prog w .any b0 25 v) (h : DataW.Trod enc Tryz.prog w 0 sp held 25 v d p) (hw : ∀ k ∈ d.weights Tryz.prog 25, k ≤ reachBytes) :
    ∃ (ss:List Si) (ys:List (List Entry)),((∀ s ∈ ss,zm2 s.2.1∧zm2 s.2.2)∧ys.length * 24≤reachBytes∧(∀ y ∈ ys,zm2 y)∧ss.length≤Rows.uptoBulk d)∧Arg w (.agg (cWd ss ys)) v:=by
  obtain ⟨cs,rfl,-⟩:=okWide_struct ziH hv
  obtain ⟨ps,⟨ss,ys,⟨a,b,c⟩,rfl⟩,h4⟩:=ziF zro ⟨_,rfl⟩ h hw (zA (zcS w) (zcS w).C0 [] w) (fun _ _ h=>ziG h) _
  exact ⟨ss,ys,⟨a,b,c,zm3 h h4⟩,h4⟩
end
end Go.Proofs.YtkcahmbcpkjpiaaGreatDoor
namespace Go.Proofs.YtkcahmbcpkjpiaaGreatDoor
open Go.RowKit Go.ChangeShapes Go.WideShapes Go.ChangeAt
section
variable {H:Type} {enc:TypeId × Value→H}
theorem zfB {a : Assume} {C : Checked} {os : Os} {f : FuncId} {fn : Func} {s : OpenSpec} {k : (H : Type) → List (DataW H) → Bool} (hk : s.cond = some k) {F : Stop.Interp} {conds : List PathCond} {apart fresh handsOn zi3 : Bool} {X : World → Array Value → Prop}
    (hX:∀ (w w':World) (args:Array Value),w.heap=w'.heap→X w args→X w' args)
    (own:ownKnob C.prog.godebug=none) (started:os.Started) (noInit:C.prog.inits.idxOf? f=none) (hfn:C.prog.funcs[f]? = some fn)
    (witness:∃ (w:World) (tape:Tape) (i:Input),w.os=os∧(w.forCall tape i).Shaped C.prog∧i.vars = []∧Input.okWide C.prog (w.forCall tape i) .any w.heap.size f i ∧
      ((s.pre enc C.prog fn conds apart (w.forCall tape i).memory i.args∧X (w.forCall tape i).memory i.args)∧sizedMet enc C.prog fn s apart (w.forCall tape i).memory i.args)∧a.holds C.prog (lone (Frame.enter C.prog f i.args .normal) [] (w.forCall tape i)))
    (contract:∀ (W:World) (base:Nat) (args:Array Value) (ds gs:List (DataW H)) (before:List MemPlace),
      (∀ (j:Nat) t v,fn.params[j]? = some t→args[j]? = some v→Value.okWide C.prog W .any base t v) →
      DataW.Whole enc C.prog fn.params.toList s.vars apart W args.toList ds gs before →
      conds.all (PathCond.test C.prog ⟨fn.params.toList,ds,s.bare.plain.varTypes C.prog,gs⟩)=true →
      (DataW.weightsEach C.prog (fn.params.toList ++ s.bare.plain.varTypes C.prog) (ds ++ gs)).all (· ≤ reachBytes)=true→X W args→k H (ds ++ gs)=true →
      a.holds C.prog (lone (Frame.enter C.prog f args .normal) [] W) →
      Calls C.prog f args W fun e W'=>∃ v,e = .returned v∧(s.at F).post enc C.prog fn apart fresh handsOn zi3 W args v W') :
    ReturnsInHanded a C os f .any (fun w args=>(s.pre enc C.prog fn conds apart w args∧X w args)∧sizedMet enc C.prog fn s apart w args) ((s.at F).post enc C.prog fn apart fresh handsOn zi3):=by
  refine returnsInHanded_of_calls own started noInit witness ?_
  intro w tape i _ _ _ hok hpre hholds
  obtain ⟨_,_,_,fn',hfn',_,_,_,_,hval⟩:=hok
  have e:fn'=fn:=Option.some.inj (hfn'.symm.trans hfn)
  subst e
  obtain ⟨⟨hp,hx⟩,hz⟩:=hpre
  obtain ⟨ds,gs,before,hw,hc,hkk⟩:=(OpenSpec.pre_some hk conds apart _ _).1 hp
  have hw':=DataW.Whole.of_heap (w':=w.forCall tape i) (by rfl) hw
  refine (contract (w.forCall tape i) w.heap.size i.args ds gs before hval hw' hc (hz.weights hw) (hX _ _ _ (by rfl) hx) hkk hholds).mono fun e W' ⟨v,he,hp⟩=>?_
  subst he
  exact ChangeSpec.post_blind hp
theorem zj8 {C : Checked} {os : Os} {f : FuncId} {fn : Func} {s : OpenSpec} {k : (H : Type) → List (DataW H) → Bool} (hk : s.cond = some k) {conds : List PathCond} {apart : Bool} {X : World → Array Value → Prop} (w0 : World) (args : Array Value) (fuel : Nat) (hos : w0.os = os)
    (hsh:(w0.forCall (fun _ _=>0) ⟨#[],args,[]⟩).Shaped C.prog)
    (hok:Input.okWideB C.prog (w0.forCall (fun _ _=>0) ⟨#[],args,[]⟩) f ⟨#[],args,[]⟩=true)
    {x:List (DataW H) × List (DataW H) × List MemPlace} (hx:DataW.whole enc C.prog (w0.forCall (fun _ _=>0) ⟨#[],args,[]⟩).memory fn.params.toList s.vars apart args.toList fuel=some x)
    (hconds:conds.all (PathCond.test C.prog ⟨fn.params.toList,x.1,s.bare.plain.varTypes C.prog,x.2.1⟩)=true) (hkk:k H (x.1 ++ x.2.1)=true)
    (hsz:s.bare.sizedB enc C.prog fn apart (w0.forCall (fun _ _=>0) ⟨#[],args,[]⟩).memory args fuel=true)
    (hX:X (w0.forCall (fun _ _=>0) ⟨#[],args,[]⟩).memory args) :
    ∃ (w:World) (tape:Tape) (i:Input),w.os=os∧(w.forCall tape i).Shaped C.prog∧i.vars = []∧Input.okWide C.prog (w.forCall tape i) .any w.heap.size f i ∧
      ((s.pre enc C.prog fn conds apart (w.forCall tape i).memory i.args∧X (w.forCall tape i).memory i.args)∧sizedMet enc C.prog fn s apart (w.forCall tape i).memory i.args)∧({}:Assume).holds C.prog (lone (Frame.enter C.prog f i.args .normal) [] (w.forCall tape i)) :=
  ⟨w0,fun _ _=>0,⟨#[],args,[]⟩,hos,hsh,(Input.okWide_of_okWideB (base:=0) hok).1,(Input.okWide_of_okWideB hok).2,⟨⟨(OpenSpec.pre_some hk conds apart _ _).2 ⟨x.1,x.2.1,x.2.2,DataW.Whole_of_whole hx,hconds,hkk⟩,hX⟩,sizedMet_of_sizedB hsz⟩,by
    simp only [Assume.holds]
    exact ⟨by simp,by simp,fun _=>Modest.zero,by simp,by simp⟩⟩
end
end Go.Proofs.YtkcahmbcpkjpiaaGreatDoor
