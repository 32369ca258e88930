/- Joined texts of this claim: D6 D7 D8 D9 D10 G2 D11 G3 M4 D12 D13 D14 D15 T1 U2 T2 T3 T4 U3 T5 T6 T7 E7 L7 L8 L10 T8 T9 T10 T11 V1 V2 V3 V4 V5 V6 V7 V8 V9 V10 V11 U4 V12 U10 U11 U13. -/
import Derived.Test.YtkcahmbcpkjpiaaGreatDoorKE
import Derived.Test.YtkcahmbcpkjpiaaGreatDoorKC
import Derived.Test.YtkcahmbcpkjpiaaGreatDoorKB
set_option linter.unusedSimpArgs false
set_option linter.unusedVariables false
set_option linter.unusedSectionVars false
set_option maxHeartbeats 8000000
set_option maxRecDepth 100000
namespace Go.Proofs.YtkcahmbcpkjpiaaGreatDoor
open Go.RowKit
open Tryz
def zaG (l:List Id) (y:Id):Bool:=l.any fun x=>decide (y=x)
theorem zam {l:List Id} {y:Id}:zaG l y=true↔y ∈ l:=by simp [zaG]
theorem zkn (l:List Id) (y:Id) (hl:l.length≤9223372036854775806):zg prog 245 [.list (l.map cId),.agg (cId y)] [] (.int .i64 (zaC (fun x=>decide (y=x)) l 0)) []:=by
 refine zg.of_walk func245 ntmps245 zw1.1 zw1.2 (by simp) fun x hx=>?_
 simp only [go_sem,zCn,zCo,cId]
 refine zy [0,3,7,8] 1 (fun n st=>∃ k:Nat,k + n=l.length∧zaC (fun x=>decide (y=x)) (l.drop k) k=zaC (fun x=>decide (y=x)) l 0 ∧
  st=⟨mkE .top [(0,.list (l.map cId)),(3,.ptr 0 0),(7,.int .i64 l.length),(8,.int .i64 k)],[.box (cId y)]⟩) l.length (by simp [hx]) (by simp) ?_ ?_
 ·
  refine ⟨0,by omega,by simp,?_⟩
  simp [zh,go_sem,ze,zf,pos,yaa,cId]
 ·
  rintro n st ⟨k,hk,hi,rfl⟩
  by_cases hlt:k < l.length
  ·
   have hg:l[k]? = some (nth l k):=zk _ _ hlt
   have wk:=zM (k:=k) (by omega)
   rw [zaS _ l k hlt] at hi
   by_cases he:y=nth l k
   ·
    simp only [go_sem,hlt,hg,cId,zgT,he]
    refine zd hx ?_
    simp [he] at hi
    simp [go_sem,zCn,zCo,hi,he]
   ·
    simp only [go_sem,hlt,hg,cId,zgT,he,wk]
    refine ⟨by simp,n - 1,by omega,k + 1,by omega,by simpa [he] using hi,?_⟩
    simp [zh,go_sem,ze,zf,pos,yaa,cId]
  ·
   have:l.drop k = []:=ya2 (by omega)
   rw [this] at hi
   simp only [go_sem,hlt]
   refine zd hx ?_
   simp [go_sem,zCn,zCo,← hi,zaC]
theorem zbj (l:List Id) (y:Id) (hl:l.length≤9223372036854775806):zg prog 219 [.list (l.map cId),.agg (cId y)] [] (.bool (zaG l y)) []:=by
 refine zg.of_walk func219 ntmps219 zwR.1 zwR.2 (by simp) fun x hx=>?_
 simp only [go_sem,zDG,zDH,cId]
 refine zc (.pureE (zkn l y hl) (by simp [go_sem,cId])) ?_
 simp only [go_sem]
 refine zd hx ?_
 simp [go_sem,zDG,zDH,zaG,zcH]
theorem zdq (l : List Entry) (ps : List (List Id)) (y z : Id) (hl : l.length ≤ 9223372036854775806) (h0 : 0 ≤ zG l z) (h1 : zG l z < ps.length) (h2 : (z8 ps l z).length ≤ 9223372036854775806) :
    zg prog 176 [zj l ps,.agg (cId y),.agg (cId z)] [] (.bool (zaG (z8 ps l z) y)) []:=by
  refine zg.of_walk func176 ntmps176 zwz.1 zwz.2 (by simp) fun x hx=>?_
  simp only [go_sem,zDm,zDn,cId,zj]
  refine zc (.pureE (zoI l ps z hl h0 h1) (by simp [go_sem,cId,zj])) ?_
  simp only [go_sem]
  refine zc (.pureE (zbj (z8 ps l z) y h2) (by simp [go_sem,cId])) ?_
  simp only [go_sem]
  refine zd hx ?_
  simp [go_sem,zDm,zDn]
def zgE (c:Int) (i:Nat):Bool:=decide (c / 2 ^ i % 2=1)
def zan (a b:Int):Bool:=(zgE a 0 && zgE b 0) || (zgE a 1 && zgE b 1) || (zgE a 2 && zgE b 2)
theorem zrY {a b:Int} (ha:ZI a 1 7=true) (hb:ZI b 1 7=true):(!decide (IntKind.i64.wrap ((BitVec.ofInt IntKind.i64.bits a &&& BitVec.ofInt IntKind.i64.bits b).toNat:Int)=0))=zan a b:=by
 have key:∀ a b:Fin 8,(!decide (IntKind.i64.wrap ((BitVec.ofInt IntKind.i64.bits (a.val:Int) &&& BitVec.ofInt IntKind.i64.bits (b.val:Int)).toNat:Int)=0))=zan (a.val:Int) (b.val:Int):=by decide +kernel
 rw [zY] at ha hb
 have:=key ⟨a.toNat,by omega⟩ ⟨b.toNat,by omega⟩
 simp only [Int.toNat_of_nonneg (show 0≤a by omega),Int.toNat_of_nonneg (show 0≤b by omega)] at this
 exact this
theorem zuH {a b:Int} (ha:ZI a 1 7=true) (hb:ZI b 1 7=true):(!decide (IntKind.i64.wrap ((@HAnd.hAnd (BitVec 64) (BitVec 64) (BitVec 64) (@instHAndOfAndOp (BitVec IntKind.i64.bits) _) (BitVec.ofInt 64 a) (BitVec.ofInt 64 b)).toNat:Int)=0))=zan a b:=zrY ha hb
def zL (l:List Entry) (c:Int):List Entry:=l.filter fun e=>zan e.c c
theorem zpW {l:List Entry} {c:Int} {k:Nat} (h:k < l.length):zL (l.take (k + 1)) c=zL (l.take k) c ++ if zan (nth l k).c c then [nth l k] else []:=by
 unfold zL
 rw [yaE h,yb7,zv _ _ h]
 simp only [List.filter_cons,List.filter_nil]
theorem zbk (l:List Entry) (c:Int):(zL l c).length≤l.length:=ybj _ _
theorem LogOk.col {l:List Entry} (h:LogOk l) {k:Nat} (hk:k < l.length):ZI (nth l k).c 1 7=true:=(zV (h.chk k hk)).2.1
theorem zc9 (l:List Entry) (c:Int) (h:LogOk l) (hc:ZI c 1 7=true):zg prog 174 [.list (l.map cE),.int .i64 c] [] (.list ((zL l c).map cE)) []:=by
 have hm:=h.len
 refine zg.of_walk func174 ntmps174 zwx.1 zwx.2 (by simp) fun x hx=>?_
 simp only [go_sem,zDi,zDj]
 refine zaM (ZR 5 0 32 5 false false rfl (by omega)) ?_
 refine zy [1,5,8,9,10] 1 (fun n st=>∃ k v:Nat,k + n=l.length ∧
  st=⟨mkE .top [(1,.int .i64 c),(5,.arr 0 v),(8,.list (l.map cE)),(9,.int .i64 l.length),(10,.int .i64 k)],[.arr v false false 32 5 ((zL (l.take k) c).map cE)]⟩) l.length (by simp [hx]) (by simp [St.put]) ?_ ?_
 ·
  refine ⟨0,0,by omega,?_⟩
  simp [zh,go_sem,ze,zf,pos,yaa,zL]
 ·
  rintro n st ⟨k,v,hk,rfl⟩
  by_cases hlt:k < l.length
  ·
   have hg:l[k]? = some (nth l k):=zk _ _ hlt
   have wk:=zM (k:=k) (by omega)
   have hw:=zpW (c:=c) hlt
   have hle:=zbk (l.take k) c
   rw [yaz] at hle
   have ha:=zuH (h.col hlt) hc
   cases hb:zan (nth l k).c c
   ·
    rw [hb] at ha hw
    simp only [go_sem,hlt,hg,cE,ha,wk]
    refine ⟨by simp,n - 1,by omega,k + 1,v,by omega,?_⟩
    simp [zh,go_sem,ze,zf,pos,yaa,hw]
   ·
    rw [hb] at ha hw
    simp only [go_sem,hlt,hg,cE,ha,wk]
    rw [Zf rfl rfl (by simp) (by simp; omega)]
    simp only [go_sem,wk]
    refine ⟨by simp,n - 1,by omega,k + 1,v + 1,by omega,?_⟩
    simp [zh,go_sem,ze,zf,pos,yaa,hw,cE]
  ·
   have:l.take k=l:=yan (by omega)
   simp only [go_sem,hlt,this]
   refine zd hx ?_
   simp [go_sem,zDi,zDj,zt,pos]
theorem znk (c d : List PV) (h : c.map (zn false (pos [0, 1]) (zt false [.box c, .box d])) = c) (h2 : c.map (zn false (pos [0, 1]) (zt true [.box c, .box d])) = c) (h3 : c.map (zn false (ZV 2 [0, 1]) zpu) = c)
    (g:d.map (zn false (pos [0,1]) (zt false [.box c,.box d]))=d) (g2:d.map (zn false (pos [0,1]) (zt true [.box c,.box d]))=d) (g3:d.map (zn false (ZV 2 [0,1]) zpu)=d) :
    ClosedH [.box c,.box d] [.ptr 0 0,.ptr 1 0]:=by
  refine ⟨?_,?_,?_,?_,?_⟩
  · simp [zp,pos,yaa]
  · simp [ren,zn,zp,pos,yaa]
  · simp only [yax,yaS,yaa,yb0,yas,yau,ze,yaA,ya3,ya8,ybP,ybA,zf,h,g]
  · simp only [yax,yaS,yaa,yb0,yas,yau,ZN,yaA,ya3,zS,zT,yaF,Nat.sub_self,ybh]
    simp [pos,zf,h3,g3]
  · simp only [yax,yaS,yaa,yb0,yas,yau,ze,yaA,ya3,ya8,ybP,ybA,zf,h2,g2]
theorem zrZ (l:List Entry) (ps:List (List Id)) (e:Entry):ClosedH [.box [zj l ps],.box (cE e)] [.ptr 0 0,.ptr 1 0]:=by
 refine znk _ _ ?_ ?_ ?_ ?_ ?_ ?_ <;> simp [zj,cE,zn,zp]
theorem zjt (l : List Entry) (ps : List (List Id)) (e f : Entry) (hl : l.length ≤ 9223372036854775806) (h0 : 0 ≤ zG l f.id) (h1 : zG l f.id < ps.length) (h2 : (z8 ps l f.id).length ≤ 9223372036854775806) :
    zg prog 175 [.agg (cE f),.ptr 0 0,.ptr 1 0] [.box [zj l ps],.box (cE e)] (.bool (zaG (z8 ps l f.id) e.id)) [.box [zj l ps],.box (cE e)]:=by
  refine zg.of_walk func175 ntmps175 zwy.1 zwy.2 (by simp) fun x hx=>?_
  simp only [go_sem,zDk,zDl,cE]
  refine zc (.pureE (zdq l ps e.id f.id hl h0 h1 h2) (by simp [go_sem,cId,zj])) ?_
  simp only [go_sem]
  refine zI [] (by simp) (by simp) (by simp [hx]) ?_ ?_
  · simp [go_sem,zDk,zDl,hx]
  · simp [ze,zf,hx,go_sem,pos,yaa,cE,zj]
def zbF (l:List Entry) (c:Int) (e:Entry):Bool:=(zL l c).any fun f=>zaG (z8 (zQ l) l f.id) e.id
def zbG (l:List Entry) (c:Int):List Id:=((zL l c).filter fun e => !zbF l c e).map (·.id)
theorem zhK {l:List Entry} {c:Int} {s:List Entry} {k:Nat} (h:k < s.length):((s.take (k + 1)).filter fun e => !zbF l c e).map (·.id)=((s.take k).filter fun e => !zbF l c e).map (·.id) ++ if zbF l c (nth s k) then [] else [(nth s k).id]:=by
 rw [yaE h,yb7,zv _ _ h,List.map_append]
 simp only [List.filter_cons,List.filter_nil]
 cases zbF l c s[k] <;> rfl
theorem zhL {l:List Entry} {c:Int} {e:Entry} (h:e ∈ zL l c):∃ k,k < l.length∧nth l k=e:=by
 obtain ⟨k,hk,rfl⟩:=yaq (ya1.1 h).1
 exact ⟨k,hk,zv _ _ hk⟩
theorem Z7 {l:List Entry} (x:Id):z8 (zQ l) l x=zaF l (zG l x).toNat:=rfl
theorem zr0 (l:List Entry) (c:Int) (h:LogOk l) (hc:ZI c 1 7=true):zg prog 104 [.list (l.map cE),.int .i64 c] [] (.list ((zb6 (zbG l c)).map cId)) []:=by
 have hm:=h.len
 have hle:=zbk l c
 refine zg.of_walk func104 ntmps104 zor.1 zor.2 (by simp) fun x hx=>?_
 simp only [go_sem,zAx,zAy]
 refine zc (.pureE (zaj l h) (by simp [go_sem])) ?_
 simp only [go_sem,zj]
 refine zc (.pureE (zc9 l c h hc) (by simp [go_sem])) ?_
 simp only [go_sem]
 refine zaM (ZR 7 0 29 2 true false rfl (by omega)) ?_
 refine zy [5,6,7,15,16,17] 2 (fun n st=>∃ k v:Nat,k + n=(zL l c).length ∧
  st=⟨mkE .top [(5,.ptr 0 0),(6,.list ((zL l c).map cE)),(7,.arr 1 v),(15,.list ((zL l c).map cE)),(16,.int .i64 (zL l c).length),(17,.int .i64 k)],
   [.box [zj l (zQ l)],.arr v true false 29 2 ((((zL l c).take k).filter fun e => !zbF l c e).map (·.id) |>.map cId)]⟩) (zL l c).length (by simp [hx]) (by simp [St.put]) ?_ ?_
 ·
  refine ⟨0,0,by omega,?_⟩
  simp [zh,go_sem,ze,zf,pos,yaa,zj]
 ·
  rintro n st ⟨k,v,hk,rfl⟩
  by_cases hlt:k < (zL l c).length
  ·
   have hg:(zL l c)[k]? = some (nth (zL l c) k):=zk _ _ hlt
   have wk:=zM (k:=k) (by omega)
   have hw:=zhK (l:=l) (c:=c) hlt
   have hle2:((((zL l c).take k).filter fun e => !zbF l c e).map (·.id)).length≤40:=by
    rw [yah]
    refine yaP (ybj _ _) ?_
    rw [yaz]; omega
   simp only [go_sem,hlt,hg,cE]
   have hcf:=zdU (zL l c) 175 [.ptr 0 0,.ptr 1 0] [.box [zj l (zQ l)],.box (cE (nth (zL l c) k))] (fun f=>zaG (z8 (zQ l) l f.id) (nth (zL l c) k).id) (by kernel_rfl) (by omega) (zrZ _ _ _) (fun f hf=>by
    obtain ⟨j,hj,rfl⟩:=zhL hf
    have e:=h.find hj
    exact zjt l (zQ l) _ _ (by omega) (by omega) (by simp [zQ]; omega) (by rw [Z7,e,yaB]; have:=za5 h hj; omega))
   refine zc (.heapE [0,2] (r' := .bool (zbF l c (nth (zL l c) k))) (H' := [.box [zj l (zQ l)],.arr v true false 29 2 ((((zL l c).take k).filter fun e => !zbF l c e).map (·.id) |>.map cId),.box (cE (nth (zL l c) k))]) hcf
    (by simp) (by simp) (by simp [go_sem,pos]) (by simp [ze,zf,go_sem,pos,cE,zj]) rfl (by simp [ZN,zS,zT,zf,pos,go_sem,yaa,ZV,Zh,cE,zj])) ?_
   cases hu:zbF l c (nth (zL l c) k)
   ·
    rw [hu] at hw
    simp only [go_sem,cE]
    rw [Zf rfl rfl (by simp) (by simp at hle2 ⊢; omega)]
    simp only [go_sem,wk]
    refine ⟨by simp,n - 1,by omega,k + 1,v + 1,by omega,?_⟩
    rw [hw]
    simp [zh,go_sem,ze,zf,pos,yaa,cId,zj]
   ·
    rw [hu] at hw
    simp only [go_sem,wk]
    refine ⟨by simp,n - 1,by omega,k + 1,v,by omega,?_⟩
    rw [hw]
    simp [zh,go_sem,ze,zf,pos,yaa,cId,zj]
  ·
   have:(zL l c).take k=zL l c:=yan (by omega)
   have hle2:(zbG l c).length≤40:=by
    unfold zbG
    rw [yah]
    refine yaP (ybj _ _) ?_
    omega
   simp only [go_sem,hlt,this]
   have hso:=zb7 (zbG l c) v 29 (by omega)
   refine zc (.heapE [1] (r' := .tup []) (H' := [.box [zj l (zQ l)],.arr v true false 29 2 ((zb6 (zbG l c)).map cId)]) hso
    (by simp) (by simp) (by simp [go_sem,pos]) (by simp [ze,zf,go_sem,pos,zbG]) rfl (by simp [ZN,zS,zT,zf,pos,go_sem,yaa,ZV,Zh,zj])) ?_
   simp only [go_sem]
   refine zd hx ?_
   simp [go_sem,zAx,zAy,zt,pos]
def zbS (l:List Entry) (y:Id):Int:=if zJ l≠0 then zJ l else if zG l y < 0 then 5 else 0
def zcu (l:List Entry) (y:Id):List Id:=if zbS l y=0 then zaF l (zG l y).toNat else []
theorem zko (l:List Entry) (y:Id) (hl:l.length≤9223372036854775806):zg prog 33 [.list (l.map cE),.agg (cId y)] [] (.tup [.list ((zcu l y).map cId),.int .i64 (zbS l y)]) []:=by
 refine zg.of_walk func33 ntmps33 zun.1 zun.2 (by simp) fun x hx=>?_
 simp only [go_sem,L33,R33,cId]
 refine zc (.pureE (ZD l hl) (by simp [go_sem])) ?_
 by_cases h0:zJ l=0
 ·
  have hok:=zaE.1 h0
  simp only [go_sem,h0]
  refine zc (.pureE (zaL l y hl) (by simp [go_sem,cId])) ?_
  by_cases h1:zG l y < 0
  ·
   simp only [go_sem,h1]
   refine zd hx ?_
   simp [go_sem,L33,R33,zbS,zcu,h0,h1]
  ·
   obtain ⟨k,f1,f2,f3⟩:=z7 (show 0≤zG l y by omega)
   simp only [go_sem,h1]
   refine zc (.pureE (zaj l hok) (by simp [go_sem])) ?_
   simp only [go_sem,zj]
   refine zc (.pureE (zoI l (zQ l) y (by omega) (by omega) (by simp [zQ]; omega)) (by simp [go_sem,cId,zj])) ?_
   simp only [go_sem]
   repeat refine ⟨rfl,?_⟩
   refine zd hx ?_
   simp [go_sem,L33,R33,zbS,zcu,h0,h1,Z7]
 ·
  simp only [go_sem,h0]
  refine zd hx ?_
  simp [go_sem,L33,R33,zbS,zcu,h0]
def zaX (l:List Entry) (c:Int):Int:=if zJ l≠0 then zJ l else if ZI c 1 7=false then 3 else 0
def zbl (l:List Entry) (c:Int):List Id:=if zaX l c=0 then zb6 (zbG l c) else []
theorem ziN (l:List Entry) (c:Int) (hl:l.length≤9223372036854775806):zg prog 32 [.list (l.map cE),.int .i64 c] [] (.tup [.list ((zbl l c).map cId),.int .i64 (zaX l c)]) []:=by
 refine zg.of_walk func32 ntmps32 zum.1 zum.2 (by simp) fun x hx=>?_
 simp only [go_sem,L32,R32]
 refine zc (.pureE (ZD l hl) (by simp [go_sem])) ?_
 by_cases h0:zJ l=0
 ·
  have hok:=zaE.1 h0
  simp only [go_sem,h0]
  refine zc (.pureE (zaB c) (by simp [go_sem])) ?_
  cases h1:ZI c 1 7
  ·
   simp only [go_sem]
   refine zd hx ?_
   simp [go_sem,L32,R32,zaX,zbl,h0,h1]
  ·
   simp only [go_sem]
   refine zc (.pureE (zr0 l c hok h1) (by simp [go_sem])) ?_
   simp only [go_sem]
   refine zd hx ?_
   simp [go_sem,L32,R32,zaX,zbl,h0,h1]
 ·
  simp only [go_sem,h0]
  refine zd hx ?_
  simp [go_sem,L32,R32,zaX,zbl,h0]
def zju (l:List Entry) (r:Int):Int:=if zJ l=0 then zax l r else 0
theorem ziO (l:List Entry) (hl:l.length≤9223372036854775806):zg prog 74 [.list (l.map cE)] [] (.tup [.agg [.int .i64 (zju l 0),.int .i64 (zju l 1)],.int .i64 (zJ l)]) []:=by
 refine zg.of_walk func74 ntmps74 zz7.1 zz7.2 (by simp) fun x hx=>?_
 simp only [go_sem,L74,R74]
 refine zc (.pureE (ZD l hl) (by simp [go_sem])) ?_
 by_cases h0:zJ l=0
 ·
  have hok:=zaE.1 h0
  simp only [go_sem,h0]
  refine zc (.pureE (zc7 l hok.reg (by have:=hok.len; omega)) (by simp [go_sem])) ?_
  simp only [go_sem]
  refine zd hx ?_
  simp [go_sem,L74,R74,zju,h0]
 ·
  simp only [go_sem,h0]
  refine zd hx ?_
  simp [go_sem,L74,R74,zju,h0]
/-! the same in the law text's words -/
theorem zjv (c:Int) (i:Nat) (hi:i < 3) (h0:0≤c) (h7:c≤7):zg prog 166 [.int .i64 c,.int .i64 i] [] (.bool (zgE c i)) []:=by
 obtain ⟨m,rfl⟩:∃ m:Fin 8,c=(m.val:Int):=⟨⟨c.toNat,by omega⟩,by simp; omega⟩
 have key:∀ (m:Fin 8) (d:Fin 3),decide (((IntKind.i64.wrap ((m.val:Int).tdiv (2 ^ d.val))).tmod 2)=1)=zgE (m.val:Int) d.val:=by decide +kernel
 refine zg.of_walk func166 ntmps166 zwq.1 zwq.2 (by simp) fun x hx=>?_
 rcases i with _ | _ | _ | i
 ·
  have k0:=key m 0
  simp only [Fin.isValue,Fin.val_zero,Int.pow_zero] at k0
  simp only [go_sem,zxX,zxY,yaX,yaD,Int.reduceLT,Int.reduceLE,Int.reduceNe,yao,Int.reduceToNat,ne_eq,k0]
  refine zd hx ?_
  simp [go_sem,zxX,zxY,k0]
 ·
  have k0:=key m 1
  simp only [Fin.isValue,Fin.val_one,Int.pow_succ,Int.pow_zero,Int.one_mul] at k0
  simp only [go_sem,zxX,zxY,yaX,yaD,Int.reduceLT,Int.reduceLE,Int.reduceNe,yao,Int.reduceToNat,ne_eq,ybr,Int.reduceAdd,Int.natCast_add,k0]
  refine zd hx ?_
  simp [go_sem,zxX,zxY,k0]
 ·
  have k0:=key m 2
  simp only [Fin.isValue,Fin.val_two,Int.pow_succ,Int.pow_zero,Int.one_mul,Int.reduceMul] at k0
  simp only [go_sem,zxX,zxY,yaX,yaD,Int.reduceLT,Int.reduceLE,Int.reduceNe,yao,Int.reduceToNat,ne_eq,ybr,Int.reduceAdd,Int.natCast_add,k0]
  refine zd hx ?_
  simp [go_sem,zxX,zxY,k0]
 ·
  omega
theorem ze2 (a b:Int) (ha:0≤a∧a≤7) (hb:0≤b∧b≤7):zg prog 97 [.int .i64 a,.int .i64 b] [] (.bool (zan a b)) []:=by
 refine zg.of_walk func97 ntmps97 zAs.1 zAs.2 (by simp) fun x hx=>?_
 simp only [go_sem,L97,R97]
 refine zy [0,1,5] 0 (fun n st=>∃ k:Nat,k + n=3∧(∀ j,j < k→(zgE a j && zgE b j)=false) ∧
  st=⟨mkE .top [(0,.int .i64 a),(1,.int .i64 b),(5,.int .i64 k)],[]⟩) 3 (by simp [hx]) (by simp) ?_ ?_
 ·
  refine ⟨0,by omega,by simp,?_⟩
  simp [zh,go_sem,ze,zf,pos]
 ·
  rintro n st ⟨k,hk,hi,rfl⟩
  by_cases hlt:k < 3
  ·
   have d3:decide ((k:Int) < 3)=true:=by simp; omega
   have wk:=zM (k:=k) (by omega)
   simp only [go_sem,d3]
   refine zc (.pureE (zjv a k hlt ha.1 ha.2) (by simp [go_sem])) ?_
   cases h1:zgE a k
   ·
    simp only [go_sem,wk]
    refine ⟨by simp,n - 1,by omega,k + 1,by omega,fun j hj=>?_,?_⟩
    ·
     by_cases e:j=k
     ·
      subst e; simp [h1]
     ·
      exact hi j (by omega)
    ·
     simp [zh,go_sem,ze,zf,pos]
   ·
    simp only [go_sem]
    refine zc (.pureE (zjv b k hlt hb.1 hb.2) (by simp [go_sem])) ?_
    cases h2:zgE b k
    ·
     simp only [go_sem,wk]
     refine ⟨by simp,n - 1,by omega,k + 1,by omega,fun j hj=>?_,?_⟩
     ·
      by_cases e:j=k
      ·
       subst e; simp [h2]
      ·
       exact hi j (by omega)
     ·
      simp [zh,go_sem,ze,zf,pos]
    ·
     simp only [go_sem]
     refine zd hx ?_
     have:zan a b=true:=by
      rcases k with _ | _ | _ | k
      ·
       simp [zan,h1,h2]
      ·
       simp [zan,h1,h2]
      ·
       simp [zan,h1,h2]
      ·
       omega
     simp [go_sem,L97,R97,this]
  ·
   have d3:decide ((k:Int) < 3)=false:=by simp; omega
   simp only [go_sem,d3]
   refine zd hx ?_
   have:zan a b=false:=by simp only [zan,hi 0 (by omega),hi 1 (by omega),hi 2 (by omega)]; rfl
   simp [go_sem,L97,R97,this]
theorem zr1 {l:List Id} {y:Id} {k:Nat} (h:k < l.length):zaG (l.take (k + 1)) y=(zaG (l.take k) y || decide (y=nth l k)):=by
 unfold zaG
 rw [yaE h,List.any_append,zv _ _ h]
 simp
theorem ze3 (l:List Id) (y:Id) (hl:l.length≤9223372036854775806):zg prog 100 [.list (l.map cId),.agg (cId y)] [] (.bool (zaG l y)) []:=by
 refine zg.of_walk func100 ntmps100 zvN.1 zvN.2 (by simp) fun x hx=>?_
 simp only [go_sem,zBz,zBA,cId]
 refine zy [0,3,5] 1 (fun n st=>∃ k:Nat,k + n=l.length∧zaG (l.take k) y=false ∧
  st=⟨mkE .top [(0,.list (l.map cId)),(3,.ptr 0 0),(5,.int .i64 k)],[.box (cId y)]⟩) l.length (by simp [hx]) (by simp) ?_ ?_
 ·
  refine ⟨0,by omega,by simp [zaG],?_⟩
  simp [zh,go_sem,ze,zf,pos,yaa,cId]
 ·
  rintro n st ⟨k,hk,hi,rfl⟩
  by_cases hlt:k < l.length
  ·
   have hg:l[k]? = some (nth l k):=zk _ _ hlt
   have wk:=zM (k:=k) (by omega)
   by_cases he:nth l k=y
   ·
    simp only [go_sem,hlt,hg,cId,zgT,he]
    refine zd hx ?_
    have:zaG l y=true:=zam.2 (by rw [← he,zv _ _ hlt]; exact yaw hlt)
    simp [go_sem,zBz,zBA,this]
   ·
    simp only [go_sem,hlt,hg,cId,zgT,he,wk]
    refine ⟨by simp,n - 1,by omega,k + 1,by omega,by rw [zr1 hlt,hi]; simp [Ne.symm he],?_⟩
    simp [zh,go_sem,ze,zf,pos,yaa,cId]
  ·
   have:l.take k=l:=yan (by omega)
   rw [this] at hi
   simp only [go_sem,hlt]
   refine zd hx ?_
   simp [go_sem,zBz,zBA,hi]
def rB (b:Bool):List PV := [.bool b]
def zbT (l:List Entry) (ls:List Id) (M:List Bool):List Bool:=ls.foldl (fun M x=>M.set (zG l x).toNat true) M
def zkp (l:List Entry) (a i:Nat) (M:List Bool):List Bool:=if i=a∨nth M i=true then zbT l (nth l i).ls M else M
def zcU (l:List Entry) (a:Nat):Nat→List Bool
 | 0=>List.replicate l.length false
 | s + 1=>zkp l a (a - s) (zcU l a s)
def zao (l:List Entry) (a:Nat):List Bool:=zcU l a (a + 1)
theorem zcI (l:List Entry):∀ (ls:List Id) (M:List Bool),(zbT l ls M).length=M.length
 | [],_=>rfl
 | x :: ls,M=>by
  show (zbT l ls (M.set _ true)).length=_
  rw [zcI l ls]; simp
theorem zjw {l:List Entry} {ls:List Id} {M:List Bool} {j:Nat} (h:j < ls.length):zbT l (ls.take (j + 1)) M=(zbT l (ls.take j) M).set (zG l (nth ls j)).toNat true:=by
 unfold zbT
 rw [yaE h,ybM,zv _ _ h]
 rfl
theorem zbH (l:List Entry) (a:Nat):∀ s,(zcU l a s).length=l.length
 | 0=>by simp [zcU]
 | s + 1=>by
  simp only [zcU,zkp]
  split
  ·
   rw [zcI,zbH l a s]
  ·
   exact zbH l a s
theorem zft (l:List Entry) (a:Nat) (h:LogOk l) (ha:a < l.length):zg prog 167 [.list (l.map cE),.int .i64 a] [] (.list ((zao l a).map rB)) []:=by
 have hm:=h.len
 refine zg.of_walk func167 ntmps167 zwr.1 zwr.2 (by simp) fun x hx=>?_
 have hb:(l.length:Int) * ((1:Nat):Int)≤140737488355328:=by omega
 have hn0:(0:Int)≤(l.length:Int):=by omega
 simp only [go_sem,zC8,zC9,hb,hn0]
 refine zy [0,1,5,6] 1 (fun n st=>∃ m:Nat,m=n∧m≤a + 1 ∧
  st=⟨mkE .top [(0,.list (l.map cE)),(1,.int .i64 a),(5,.arr 0 0),(6,.int .i64 ((m:Int) - 1))],[.arr 0 true false 4 1 ((zcU l a (a + 1 - m)).map rB)]⟩) (a + 1) (by simp [hx]) (by simp) ?_ ?_
 ·
  refine ⟨a + 1,rfl,by omega,?_⟩
  simp [zh,go_sem,ze,zf,pos,yaa,zcU,rB]
 ·
  rintro n st ⟨m,rfl,hma,rfl⟩
  have hml:=zbH l a (a + 1 - m)
  rcases m with _ | i
  ·
   have d0:decide ((0:Int)≤((0:Nat):Int) - 1)=false:=by simp
   simp only [go_sem,d0]
   refine zd hx ?_
   simp [go_sem,zC8,zC9,zt,pos,zao]
  ·
   have e1:(((i + 1:Nat):Int) - 1)=(i:Int):=by omega
   have hil:i < l.length:=by omega
   have hg:l[i]? = some (nth l i):=zk _ _ hil
   have hls:=h.links hil
   have hM:(zcU l a (a + 1 - (i + 1)))[i]? = some (nth (zcU l a (a + 1 - (i + 1))) i):=zk _ _ (by omega)
   have wi:IntKind.i64.wrap ((i:Int) - 1)=(i:Int) - 1:=by rw [IntWalk.i64_in _ (by omega)]
   have hstep:zcU l a (a + 1 - i)=zkp l a i (zcU l a (a + 1 - (i + 1))):=by
    rw [show a + 1 - i=(a + 1 - (i + 1)) + 1 by omega]
    simp only [zcU]
    rw [show a - (a + 1 - (i + 1))=i by omega]
   generalize hMd:zcU l a (a + 1 - (i + 1))=M at *
   by_cases hia:i=a
   ·
    have da:decide ((i:Int)=(a:Int))=true:=by simp; omega
    simp only [go_sem,e1,da]
    refine zy [0,1,5,6,7] 1 (fun n st=>∃ j:Nat,j + n=(nth l i).ls.length ∧
     st=⟨mkE .top [(0,.list (l.map cE)),(1,.int .i64 a),(5,.arr 0 0),(6,.int .i64 i),(7,.int .i64 j)],[.arr 0 true false 4 1 ((zbT l ((nth l i).ls.take j) M).map rB)]⟩) (nth l i).ls.length (by simp [hx]) (by simp) ?_ ?_
    ·
     refine ⟨0,by omega,?_⟩
     simp [zh,go_sem,ze,zf,pos,yaa,zbT,rB]
    ·
     rintro n2 st ⟨j,hj,rfl⟩
     by_cases hlj:j < (nth l i).ls.length
     ·
      have hgj:(nth l i).ls[j]? = some (nth (nth l i).ls j):=zk _ _ hlj
      have wj:=zM (k:=j) (by omega)
      obtain ⟨f1,f2⟩:=h.link_lt hil (x:=nth (nth l i).ls j) (by rw [zv _ _ hlj]; exact yaw hlj)
      have hL:(zbT l ((nth l i).ls.take j) M).length=l.length:=by rw [zcI]; exact hml
      have f3:zG l (nth (nth l i).ls j) < ((zbT l ((nth l i).ls.take j) M).length:Nat):=by omega
      have hM2:(zbT l ((nth l i).ls.take j) M)[(zG l (nth (nth l i).ls j)).toNat]? = some (nth (zbT l ((nth l i).ls.take j) M) (zG l (nth (nth l i).ls j)).toNat):=zk _ _ (by omega)
      simp only [go_sem,hil,hg,cE,hlj,hgj,cId]
      refine zc (.pureE (ZT l (nth (nth l i).ls j) (by omega)) (by simp [go_sem,cId])) ?_
      simp only [go_sem,f1,f3,hM2,rB,wj,yag,frz,or_true,false_or]
      refine ⟨by simp,n2 - 1,by omega,j + 1,by omega,?_⟩
      simp [zh,go_sem,ze,zf,pos,yaa,zjw hlj,rB,ycb]
     ·
      have htl:(nth l i).ls.take j=(nth l i).ls:=yan (by omega)
      simp only [go_sem,hil,hg,cE,hlj,htl,wi]
      refine ⟨by simp,i,by omega,i,rfl,by omega,?_⟩
      rw [hstep,zkp,if_pos (.inl hia)]
      simp [zh,go_sem,ze,zf,pos,yaa,rB]
   ·
    have da:decide ((i:Int)=(a:Int))=false:=by simp; omega
    have hil':i < M.length:=by omega
    simp only [go_sem,e1,da,hil,hM,hml,rB,yag]
    cases hMi:nth M i
    ·
     simp only [go_sem,wi]
     refine ⟨by simp,i,by omega,i,rfl,by omega,?_⟩
     rw [hstep,zkp,if_neg (by simp [hia,hMi])]
     simp [zh,go_sem,ze,zf,pos,yaa,rB]
    ·
     simp only [go_sem]
     refine zy [0,1,5,6,7] 1 (fun n st=>∃ j:Nat,j + n=(nth l i).ls.length ∧
      st=⟨mkE .top [(0,.list (l.map cE)),(1,.int .i64 a),(5,.arr 0 0),(6,.int .i64 i),(7,.int .i64 j)],[.arr 0 true false 4 1 ((zbT l ((nth l i).ls.take j) M).map rB)]⟩) (nth l i).ls.length (by simp [hx]) (by simp) ?_ ?_
     ·
      refine ⟨0,by omega,?_⟩
      simp [zh,go_sem,ze,zf,pos,yaa,zbT,rB]
     ·
      rintro n2 st ⟨j,hj,rfl⟩
      by_cases hlj:j < (nth l i).ls.length
      ·
       have hgj:(nth l i).ls[j]? = some (nth (nth l i).ls j):=zk _ _ hlj
       have wj:=zM (k:=j) (by omega)
       obtain ⟨f1,f2⟩:=h.link_lt hil (x:=nth (nth l i).ls j) (by rw [zv _ _ hlj]; exact yaw hlj)
       have hL:(zbT l ((nth l i).ls.take j) M).length=l.length:=by rw [zcI]; exact hml
       have f3:zG l (nth (nth l i).ls j) < ((zbT l ((nth l i).ls.take j) M).length:Nat):=by omega
       have hM2:(zbT l ((nth l i).ls.take j) M)[(zG l (nth (nth l i).ls j)).toNat]? = some (nth (zbT l ((nth l i).ls.take j) M) (zG l (nth (nth l i).ls j)).toNat):=zk _ _ (by omega)
       simp only [go_sem,hil,hg,cE,hlj,hgj,cId]
       refine zc (.pureE (ZT l (nth (nth l i).ls j) (by omega)) (by simp [go_sem,cId])) ?_
       simp only [go_sem,f1,f3,hM2,rB,wj,yag,frz,or_true,false_or]
       refine ⟨by simp,n2 - 1,by omega,j + 1,by omega,?_⟩
       simp [zh,go_sem,ze,zf,pos,yaa,zjw hlj,rB,ycb]
      ·
       have htl:(nth l i).ls.take j=(nth l i).ls:=yan (by omega)
       simp only [go_sem,hil,hg,cE,hlj,htl,wi]
       refine ⟨by simp,i,by omega,i,rfl,by omega,?_⟩
       rw [hstep,zkp,if_pos (.inr hMi)]
       simp [zh,go_sem,ze,zf,pos,yaa,rB]
def znl (r n:Nat):List Id:=(List.range n).map fun m=>⟨r,((m + 1:Nat):Int)⟩
def zgf (r n:Nat):List Id:=(List.range r).flatMap (fun q=>znl q 20) ++ znl r n
theorem zyj (r n:Nat):zgf r (n + 1)=zgf r n ++ [⟨r,((n + 1:Nat):Int)⟩]:=by
 simp only [zgf,znl,yaa,List.map_append,yaA,ya3,ybb]
theorem zyk (r:Nat):zgf (r + 1) 0=zgf r 20:=by
 simp only [zgf,znl,yaa,yb3,ybx,List.flatMap_nil,yb0,ya3,ya6]
def zeI:List Id:=zgf 2 0
def zAT (l:List Entry) (M:List Bool) (x:Id):Bool:=decide (0≤zG l x) && nth M (zG l x).toNat
def zhM (l:List Entry) (M:List Bool):List Id:=zeI.filter (zAT l M)
def zAU (M P:List Bool):List Bool:=List.zipWith (fun a p=>a && !p) M P
def zr3 (l:List Entry) (c:Int):List Bool:=l.map fun e=>zan e.c c
def ziP (l:List Entry) (c:Int):Nat→List Bool
 | 0=>zr3 l c
 | k + 1=>if zan (nth l k).c c then zAU (ziP l c k) (zao l k) else ziP l c k
theorem zbw (l:List Entry) (a:Nat):(zao l a).length=l.length:=zbH l a (a + 1)
theorem zdZ (l:List Entry) (c:Int):∀ k,(ziP l c k).length=l.length
 | 0=>by simp [ziP,zr3]
 | k + 1=>by
  simp only [ziP]
  split
  ·
   simp [zAU,zdZ l c k,zbw]
  ·
   exact zdZ l c k
def zw5 (l:List Entry) (c:Int):List Id:=zhM l (ziP l c l.length)
theorem LogOk.col07 {l:List Entry} (h:LogOk l) {k:Nat} (hk:k < l.length):0≤(nth l k).c∧(nth l k).c≤7:=by
 have:=h.col hk
 rw [zY] at this
 omega
theorem zlJ {l:List Entry} (h:LogOk l) {j:Nat} (hj:j < l.length):∀ (a:Nat),a < l.length→(nth l j).id ∈ zaF l a→∀ y ∈ zaF l j,y ∈ zaF l a:=by
 intro a
 induction a using Nat.strongRecOn with
 | _ a ih =>
  intro ha hm y hy
  obtain ⟨x,hx,he⟩:=(zbr h ha).1 hm
  obtain ⟨f1,f2⟩:=h.link_lt ha hx
  refine (zbr h ha).2 ⟨x,hx,.inr ?_⟩
  rcases he with rfl | he
  ·
   rw [h.find hj,yaB]; exact hy
  ·
   exact ih _ (by omega) (by omega) he y hy
theorem zyl {M:List Bool} {i k:Nat} (hk:k < M.length):nth (M.set i true) k=(nth M k || decide (i=k)):=by
 rw [zv _ _ (by simpa using hk),zv _ _ hk,List.getElem_set]
 by_cases e:i=k
 ·
  simp [e]
 ·
  simp [e]
theorem zlK {l:List Entry}:∀ (ls:List Id) (M:List Bool) (k:Nat),k < M.length→nth (zbT l ls M) k=(nth M k || ls.any fun x=>decide ((zG l x).toNat=k))
 | [],M,k,_=>by simp [zbT]
 | x :: ls,M,k,h=>by
  show nth (zbT l ls (M.set (zG l x).toNat true)) k=_
  rw [zlK ls _ k (by simpa using h),zyl h]
  simp [Bool.or_assoc]
theorem zjx {l : List Entry} (h : LogOk l) {i k : Nat} (hi : i < l.length) (hk : k < l.length) {M : List Bool} (hM : M.length = l.length) :
    nth (zbT l (nth l i).ls M) k=true↔nth M k=true∨(nth l k).id ∈ (nth l i).ls:=by
  rw [zlK _ _ _ (by omega),ybI,ybn]
  constructor
  · rintro (h1 | ⟨x,hx,hd⟩)
    · exact .inl h1
    · obtain ⟨f1,f2⟩:=h.link_lt hi hx
      obtain ⟨m,g1,g2,g3⟩:=z7 f1
      have:m=k:=by simpa [g1] using hd
      subst this
      exact .inr (by rw [g3]; exact hx)
  · rintro (h1 | hx)
    · exact .inl h1
    · exact .inr ⟨_,hx,by simp [h.find hk]⟩
theorem zuI {n k:Nat} (h:k < n):nth (List.replicate n false) k=false:=by
 rw [zv _ _ (by simpa using h)]; simp
theorem zlL {l : List Entry} (h : LogOk l) {a : Nat} (ha : a < l.length) : ∀ s, s ≤ a →
    (∀ k,k < l.length→nth (zcU l a (s + 1)) k=true→(nth l k).id ∈ zaF l a) ∧
    (∀ k,k < l.length→(nth l k).id ∈ zaF l a→nth (zcU l a (s + 1)) k=true∨∃ j,j < a - s∧nth (zcU l a (s + 1)) j=true∧(nth l k).id ∈ zaF l j)
  | 0,_=>by
    have e:zcU l a 1=zbT l (nth l a).ls (List.replicate l.length false):=by simp [zcU,zkp]
    rw [yaF,e]
    have hlk:∀ k,k < l.length→(nth (zbT l (nth l a).ls (List.replicate l.length false)) k=true↔(nth l k).id ∈ (nth l a).ls):=fun k hk=>by
      rw [zjx h ha hk (by simp),zuI hk]; simp
    refine ⟨fun k hk hm=>(zbr h ha).2 ⟨_,(hlk k hk).1 hm,.inl rfl⟩,fun k hk hp=>?_⟩
    obtain ⟨x,hx,he⟩:=(zbr h ha).1 hp
    rcases he with rfl | he
    · exact .inl ((hlk k hk).2 hx)
    · obtain ⟨f1,f2⟩:=h.link_lt ha hx
      obtain ⟨m,g1,g2,g3⟩:=z7 f1
      rw [g1,yaB] at he
      exact .inr ⟨m,by omega,(hlk m g2).2 (by rw [g3]; exact hx),he⟩
  | s + 1,hs=>by
    obtain ⟨iA,iB⟩:=zlL h ha s (by omega)
    have hi:a - (s + 1) < l.length:=by omega
    have e:zcU l a (s + 1 + 1)=zkp l a (a - (s + 1)) (zcU l a (s + 1)):=rfl
    rw [e]
    generalize hM:zcU l a (s + 1)=M at *
    have hMl:M.length=l.length:=by rw [← hM]; exact zbH l a _
    generalize hid:a - (s + 1)=i at *
    have hne:¬ i=a:=by omega
    unfold zkp
    by_cases hm:nth M i=true
    · rw [if_pos (.inr hm)]
      have hlk:∀ k,k < l.length→(nth (zbT l (nth l i).ls M) k=true↔nth M k=true∨(nth l k).id ∈ (nth l i).ls):=fun k hk=>zjx h hi hk hMl
      refine ⟨fun k hk hkm=>?_,fun k hk hp=>?_⟩
      · rcases (hlk k hk).1 hkm with h1 | h1
        · exact iA k hk h1
        · exact zlJ h hi a ha (iA i hi hm) _ ((zbr h hi).2 ⟨_,h1,.inl rfl⟩)
      · rcases iB k hk hp with h1 | ⟨j,hj,h2,h3⟩
        · exact .inl ((hlk k hk).2 (.inl h1))
        · by_cases hji:j=i
          · subst hji
            obtain ⟨x,hx,he⟩:=(zbr h hi).1 h3
            rcases he with rfl | he
            · exact .inl ((hlk k hk).2 (.inr hx))
            · obtain ⟨f1,f2⟩:=h.link_lt hi hx
              obtain ⟨m,g1,g2,g3⟩:=z7 f1
              rw [g1,yaB] at he
              exact .inr ⟨m,by omega,(hlk m g2).2 (.inr (by rw [g3]; exact hx)),he⟩
          · exact .inr ⟨j,by omega,(hlk j (by omega)).2 (.inl h2),h3⟩
    · rw [if_neg (by simp [hne,hm])]
      refine ⟨iA,fun k hk hp=>?_⟩
      rcases iB k hk hp with h1 | ⟨j,hj,h2,h3⟩
      · exact .inl h1
      · have:j≠i:=fun e=>hm (e ▸ h2)
        exact .inr ⟨j,by omega,h2,h3⟩
theorem za1 {l:List Entry} (h:LogOk l) {a k:Nat} (ha:a < l.length) (hk:k < l.length):nth (zao l a) k=true↔(nth l k).id ∈ zaF l a:=by
 obtain ⟨h1,h2⟩:=zlL h ha a (yag _)
 refine ⟨h1 k hk,fun hp=>?_⟩
 rcases h2 k hk hp with h3 | ⟨j,hj,-⟩
 ·
  exact h3
 ·
  omega
theorem zgg:Asc zeI:=by
 unfold Asc
 have:(zeI.Pairwise fun a b=>Zi a b=true):=by decide +kernel
 exact this
theorem zgh {x:Id}:x ∈ zeI↔zcS x=true:=by
 obtain ⟨r,n⟩:=x
 simp only [zcS,yat,zY]
 constructor
 ·
  intro h
  have key:∀ y ∈ zeI,(0≤y.r∧y.r≤1)∧1≤y.n∧y.n≤20:=by decide +kernel
  exact key _ h
 ·
  rintro ⟨⟨h1,h2⟩,h3,h4⟩
  have key:∀ (a:Fin 2) (b:Fin 20),(⟨(a.val:Int),(b.val:Int) + 1⟩:Id) ∈ zeI:=by decide +kernel
  have:=key ⟨r.toNat,by omega⟩ ⟨(n - 1).toNat,by omega⟩
  simp only [Int.toNat_of_nonneg h1,Int.toNat_of_nonneg (show 0≤n - 1 by omega),Int.sub_add_cancel] at this
  exact this
theorem zhN (l:List Entry) (M:List Bool):Asc (zhM l M):=zgg.filter _
theorem zhO {l:List Entry} (h:LogOk l) {M:List Bool} {x:Id}:x ∈ zhM l M↔∃ k,k < l.length∧(nth l k).id=x∧nth M k=true:=by
 unfold zhM
 rw [ya1,zgh,zAT,yat,decide_eq_true_eq]
 constructor
 ·
  rintro ⟨h1,h2,h3⟩
  obtain ⟨k,g1,g2,g3⟩:=z7 h2
  rw [g1,yaB] at h3
  exact ⟨k,g2,g3,h3⟩
 ·
  rintro ⟨k,hk,rfl,h3⟩
  rw [h.find hk,yaB]
  exact ⟨h.id_ok hk,by omega,h3⟩
theorem zhP {l:List Entry} (h:LogOk l) {a:Nat} (ha:a < l.length):zhM l (zao l a)=zaF l a:=by
 refine znj (zhN _ _) (zjr h ha) fun x=>?_
 rw [zhO h]
 constructor
 ·
  rintro ⟨k,hk,rfl,hm⟩
  exact (za1 h ha hk).1 hm
 ·
  intro hx
  obtain ⟨j,hj,rfl⟩:=zhG h a ha x hx
  exact ⟨j,by omega,rfl,(za1 h ha (by omega)).2 hx⟩
theorem zym {M P:List Bool} {k:Nat} (h1:k < M.length) (h2:k < P.length):nth (zAU M P) k=(nth M k && !nth P k):=by
 rw [zv _ _ (by simp [zAU]; omega),zv _ _ h1,zv _ _ h2]; simp [zAU]
theorem zhQ {l:List Entry} (h:LogOk l) {c:Int} {k:Nat} (hk:k < l.length):∀ n,n≤l.length→(nth (ziP l c n) k=true↔zan (nth l k).c c=true∧∀ i,i < n→zan (nth l i).c c=true→(nth l k).id ∉ zaF l i)
 | 0,_=>by
  have:nth (ziP l c 0) k=zan (nth l k).c c:=by
   simp only [ziP,zr3]
   rw [zv _ _ (by simpa using hk)]; simp [zv _ _ hk]
  rw [this]
  exact ⟨fun e=>⟨e,fun i hi=>by omega⟩,fun e=>e.1⟩
 | n + 1,hn=>by
  have ih:=zhQ h (c:=c) hk n (by omega)
  simp only [ziP]
  split
  ·
   rename_i hm
   rw [zym (by rw [zdZ]; exact hk) (by rw [zbw]; exact hk),yat,ih,yaQ,← ybt,za1 h (by omega) hk]
   constructor
   ·
    rintro ⟨⟨h1,h2⟩,h3⟩
    refine ⟨h1,fun i hi hmi=>?_⟩
    by_cases e:i=n
    ·
     subst e; exact h3
    ·
     exact h2 i (by omega) hmi
   ·
    rintro ⟨h1,h2⟩
    exact ⟨⟨h1,fun i hi=>h2 i (by omega)⟩,h2 n (by omega) hm⟩
  ·
   rename_i hm
   rw [ih]
   constructor
   ·
    rintro ⟨h1,h2⟩
    refine ⟨h1,fun i hi hmi=>?_⟩
    by_cases e:i=n
    ·
     subst e; exact (hm hmi).elim
    ·
     exact h2 i (by omega) hmi
   ·
    rintro ⟨h1,h2⟩
    exact ⟨h1,fun i hi=>h2 i (by omega)⟩
theorem zr4 {l:List Entry} (h:LogOk l):(l.map (·.id)).Nodup:=by
 rw [List.Nodup,yca,yaT]
 intro i j hi hj hij e
 rw [← zv l i hi,← zv l j hj] at e
 have:=h.inj hi hj e
 omega
theorem zlM {l:List Entry} (h:LogOk l) (c:Int):(zbG l c).Nodup:=by
 refine List.Nodup.sublist (List.Sublist.map _ ?_) (zr4 h)
 exact List.filter_sublist.trans List.filter_sublist
theorem zaH {l:List Entry} {c:Int} {e:Entry}:e ∈ zL l c↔∃ k,k < l.length∧nth l k=e∧zan e.c c=true:=by
 unfold zL
 rw [ya1]
 constructor
 ·
  rintro ⟨h1,h2⟩
  obtain ⟨k,hk,rfl⟩:=yaq h1
  exact ⟨k,hk,zv _ _ hk,h2⟩
 ·
  rintro ⟨k,hk,rfl,h2⟩
  exact ⟨by rw [zv _ _ hk]; exact yaw hk,h2⟩
theorem zpX {l:List Entry} (h:LogOk l) {c:Int} {x:Id}:x ∈ zbG l c↔∃ k,k < l.length∧(nth l k).id=x∧zan (nth l k).c c=true∧∀ i,i < l.length→zan (nth l i).c c=true→x ∉ zaF l i:=by
 unfold zbG
 rw [yaG]
 constructor
 ·
  rintro ⟨e,he,rfl⟩
  obtain ⟨h1,h2⟩:=ya1.1 he
  obtain ⟨k,hk,rfl,hm⟩:=zaH.1 h1
  refine ⟨k,hk,rfl,hm,fun i hi hmi hp=>?_⟩
  simp only [yaQ,zbF,yaZ] at h2
  have:=h2 (nth l i) (zaH.2 ⟨i,hi,rfl,hmi⟩)
  rw [Z7,h.find hi,yaB] at this
  exact this (zam.2 hp)
 ·
  rintro ⟨k,hk,rfl,hm,hp⟩
  refine ⟨nth l k,ya1.2 ⟨zaH.2 ⟨k,hk,rfl,hm⟩,?_⟩,rfl⟩
  simp only [yaQ,zbF,yaZ]
  intro f hf
  obtain ⟨i,hi,rfl,hmi⟩:=zaH.1 hf
  rw [Z7,h.find hi,yaB]
  exact fun hh=>hp i hi hmi (zam.1 hh)
theorem zuJ {l:List Entry} (h:LogOk l) (c:Int):zw5 l c=zb6 (zbG l c):=by
 refine znj (zhN _ _) (zlE (zlM h c)) fun x=>?_
 rw [zw5,zhO h,zhF,zpX h]
 constructor
 ·
  rintro ⟨k,hk,rfl,hm⟩
  obtain ⟨h1,h2⟩:=(zhQ h hk l.length (yag _)).1 hm
  exact ⟨k,hk,rfl,h1,h2⟩
 ·
  rintro ⟨k,hk,rfl,hm,hp⟩
  exact ⟨k,hk,rfl,(zhQ h hk l.length (yag _)).2 ⟨hm,hp⟩⟩
theorem zgF (l:List Id) (hb:l.length≤1000000000):zg prog 213 [.list (l.map cId)] [] (.list (l.map cId)) []:=by
 refine zg.of_walk func213 ntmps213 zoD.1 zoD.2 (by simp) fun x hx=>?_
 simp only [go_sem,zx3,zx4]
 refine zc6 rfl fun b hb'=>?_
 cases b
 ·
  simp only [go_sem]
  rw [Zf rfl rfl (by simp [cId]) (by simp; omega)]
  simp only [go_sem]
  refine zd hx ?_
  simp [go_sem,zx3,zx4,pos,zt]
 ·
  simp only [go_sem]
  have:l = []:=by simpa using hb' rfl
  subst this
  refine zd hx ?_
  simp [go_sem,zx3,zx4]
theorem zfu (l:List Id) (hb:l.length≤1000000000):zg prog 213 [.list (l.map cId)] [] (.arr 0 1) [.arr 1 true false 29 2 (l.map cId)]:=by
 refine zg.of_walk func213 ntmps213 zoD.1 zoD.2 (by simp) fun x hx=>?_
 simp only [go_sem,zx3,zx4]
 refine zc6 rfl fun b hb'=>?_
 cases b
 ·
  simp only [go_sem]
  rw [Zf rfl rfl (by simp [cId]) (by simp; omega)]
  simp only [go_sem]
  refine zI [0] (by simp) (by simp [hx]) (by simp [hx]) ?_ ?_
  ·
   simp [go_sem,zx3,zx4,hx,pos]
  ·
   simp [ze,zf,hx]
 ·
  simp only [go_sem]
  refine zN (ZR 2 1 29 2 true false rfl (by omega)) ?_
  have:l = []:=by simpa using hb' rfl
  subst this
  rw [zc4]
  refine zI [0] (by simp) (by simp [hx]) (by simp [hx]) ?_ ?_
  ·
   simp [go_sem,zx3,zx4,hx,pos]
  ·
   simp [ze,zf,hx]
def pvP (l:List Entry) (c:Int) (out:List Id):PV := .rptr [.int .i64 c,.list (out.map cId),.list ((zL l c).map cE),zj l (zQ l)]
theorem znm (l:List Entry) (c:Int) (ids:List Id) (h:LogOk l) (hc:ZI c 1 7=true) (hb:ids.length≤1000000000):zg prog 169 [.list (l.map cE),.int .i64 c,.list (ids.map cId)] [] (pvP l c ids) []:=by
 refine zg.of_walk func169 ntmps169 zoA.1 zoA.2 (by simp) fun x hx=>?_
 simp only [go_sem,zAQ,zAR]
 refine zc (.pureE (zgF ids hb) (by simp [go_sem])) ?_
 simp only [go_sem]
 refine zc (.pureE (zc9 l c h hc) (by simp [go_sem])) ?_
 simp only [go_sem]
 refine zc (.pureE (zaj l h) (by simp [go_sem])) ?_
 simp only [go_sem,zj]
 refine zN (zbE (cells' := [.int .i64 c,.list (ids.map cId),.list ((zL l c).map cE),zj l (zQ l)]) 6 0 rfl rfl rfl (by simp [PV.isPure,zj]) rfl) ?_
 refine zd hx ?_
 simp [go_sem,zAQ,zAR,pvP,zj]
theorem zgG (l : List Entry) (c : Int) (ids : List Id) (h : LogOk l) (hc : ZI c 1 7 = true) (hb : ids.length ≤ 1000000000) : zg prog 169 [.list (l.map cE), .int .i64 c, .list (ids.map cId)] [] (.ptr 0 0)
    [.box [.int .i64 c,.arr 1 1,.list ((zL l c).map cE),zj l (zQ l)],.arr 1 true false 29 2 (ids.map cId)]:=by
  refine zg.of_walk func169 ntmps169 zoA.1 zoA.2 (by simp) fun x hx=>?_
  simp only [go_sem,zAQ,zAR]
  refine zc (.heapE [] (r' := .arr 0 1) (H' := [.arr 1 true false 29 2 (ids.map cId)]) (zfu ids hb) (by simp) (by simp) (by simp [go_sem]) rfl rfl rfl) ?_
  simp only [go_sem]
  refine zc (.pureE (zc9 l c h hc) (by simp [go_sem])) ?_
  simp only [go_sem]
  refine zc (.pureE (zaj l h) (by simp [go_sem])) ?_
  simp only [go_sem,zj]
  refine zI [1,0] (by simp) (by simp [hx]) (by simp [hx]) ?_ ?_
  · simp [go_sem,zAQ,zAR,hx,pos]
  · simp [ze,zf,hx,pos,zn,zp,zj]
def zw6 (l:List Entry) (out:List Id) (y:Id) (e:Entry):Bool:=zaG (z8 (zQ l) l y) e.id && !zaG out e.id
def zhR (l:List Entry) (c:Int) (out:List Id) (y:Id):Bool := !(zL l c).any (zw6 l out y)
theorem zpY (l : List Entry) (c : Int) (out : List Id) (y : Id) (e : Entry) (h : LogOk l) (hy : 0 ≤ zG l y) (hb : out.length ≤ 1000000000000) :
    zg prog 225 [.agg (cE e),.ptr 0 0,.ptr 1 0] [.box [pvP l c out],.box (cId y)] (.bool (zw6 l out y e)) [.box [pvP l c out],.box (cId y)]:=by
  have hm:=h.len
  obtain ⟨k,f1,f2,f3⟩:=z7 hy
  have hpl:(z8 (zQ l) l y).length≤40:=by rw [Z7,f1,yaB]; exact za5 h f2
  refine zg.of_walk func225 ntmps225 zwV.1 zwV.2 (by simp) fun x hx=>?_
  simp only [go_sem,zCc,zCd,cE,cId,pvP]
  refine zc (.pureE (zdq l (zQ l) e.id y (by omega) hy (by simp [zQ]; omega) (by omega)) (by simp [go_sem,cId,zj])) ?_
  cases h1:zaG (z8 (zQ l) l y) e.id
  · simp only [go_sem]
    refine zI [] (by simp) (by simp) (by simp [hx]) ?_ ?_
    · simp [go_sem,zCc,zCd,hx,zw6,h1]
    · simp [ze,zf,hx,go_sem,pos,yaa,cId,zj,pvP]
  · simp only [go_sem]
    refine zc (.pureE (zbj out e.id (by omega)) (by simp [go_sem,cId])) ?_
    simp only [go_sem]
    refine zI [] (by simp) (by simp) (by simp [hx]) ?_ ?_
    · simp [go_sem,zCc,zCd,hx,zw6,h1]
    · simp [ze,zf,hx,go_sem,pos,yaa,cId,zj,pvP]
theorem zyn (l:List Entry) (c:Int) (out:List Id) (y:Id):ClosedH [.box [pvP l c out],.box (cId y)] [.ptr 0 0,.ptr 1 0]:=by
 refine znk _ _ ?_ ?_ ?_ ?_ ?_ ?_ <;> simp [pvP,zj,cId,zn,zp]
theorem zlN (l : List Entry) (c : Int) (out : List Id) (y : Id) (h : LogOk l) (hy : 0 ≤ zG l y) (hb : out.length ≤ 1000000000000) :
    zg prog 171 [pvP l c out,.agg (cId y)] [] (.bool (zhR l c out y)) []:=by
  have hm:=h.len
  have hw:=zbk l c
  refine zg.of_walk func171 ntmps171 zwu.1 zwu.2 (by simp) fun x hx=>?_
  simp only [go_sem,zDc,zDd,cId,pvP]
  refine zc (.heapE [0,1] (r' := .bool ((zL l c).any (zw6 l out y))) (H' := [.box [pvP l c out],.box (cId y)]) (zdU (zL l c) 225 [.ptr 0 0,.ptr 1 0] [.box [pvP l c out],.box (cId y)] (zw6 l out y) (by kernel_rfl) (by omega) (zyn l c out y) (fun e _=>zpY l c out y e h hy hb))
    (by simp) (by simp) (by simp [go_sem,pos]) (by simp [ze,zf,go_sem,pos,cId,pvP,zj]) rfl (by simp [ZN,zS,zT,zf,pos,go_sem,yaa,ZV,Zh,cId,pvP,zj])) ?_
  simp only [go_sem]
  refine zd hx ?_
  simp [go_sem,zDc,zDd,zhR]
def zhS (l:List Entry) (c:Int) (out:List Id) (a:Id × Bool) (e:Entry):Id × Bool:=if (!zaG out e.id && zhR l c out e.id && (!a.2 || Zi e.id a.1))=true then (e.id,true) else a
def zey (l:List Entry) (c:Int) (out:List Id) (k:Nat):Id × Bool:=((zL l c).take k).foldl (zhS l c out) (⟨0,0⟩,false)
theorem zjy {l:List Entry} {c:Int} {out:List Id} {k:Nat} (h:k < (zL l c).length):zey l c out (k + 1)=zhS l c out (zey l c out k) (nth (zL l c) k):=by
 unfold zey
 rw [yaE h,ybM,zv _ _ h]
 rfl
theorem zei (l : List Entry) (c : Int) (out : List Id) (h : LogOk l) (hb : out.length ≤ 1000000000000) :
    zg prog 172 [pvP l c out] [] (.tup [.agg (cId (zey l c out (zL l c).length).1),.bool (zey l c out (zL l c).length).2]) []:=by
  have hm:=h.len
  have hw:=zbk l c
  refine zg.of_walk func172 ntmps172 zwv.1 zwv.2 (by simp) fun x hx=>?_
  simp only [go_sem,zDe,zDf,pvP]
  refine zy [0,2,4,5,11,12,13] 2 (fun n st=>∃ k:Nat,k + n=(zL l c).length ∧
    st=⟨mkE .top [(0,pvP l c out),(2,.ptr 0 0),(4,.ptr 1 0),(5,.bool (zey l c out k).2),(11,.list ((zL l c).map cE)),(12,.int .i64 (zL l c).length),(13,.int .i64 k)],[.box [.int .i64 0,.int .i64 0],.box (cId (zey l c out k).1)]⟩) (zL l c).length (by simp [hx]) (by simp) ?_ ?_
  · refine ⟨0,by omega,?_⟩
    simp [zh,go_sem,ze,zf,pos,yaa,zey,cId,pvP,zj]
  · rintro n st ⟨k,hk,rfl⟩
    by_cases hlt:k < (zL l c).length
    · have hg:(zL l c)[k]? = some (nth (zL l c) k):=zk _ _ hlt
      have wk:=zM (k:=k) (by omega)
      have hs:=zjy (out:=out) hlt
      have hy:0≤zG l (nth (zL l c) k).id:=by
        obtain ⟨j,j1,j2⟩:=zhL (l:=l) (c:=c) (e:=nth (zL l c) k) (by rw [zv _ _ hlt]; exact yaw hlt)
        rw [← j2,h.find j1]; omega
      generalize hE:nth (zL l c) k=e at *
      generalize hA:zey l c out k=a at *
      obtain ⟨ai,ab⟩:=a
      simp only [go_sem,hlt,hg,cE,cId,pvP]
      refine zc (.pureE (zbj out e.id (by omega)) (by simp [go_sem,cId])) ?_
      cases h1:zaG out e.id
      · simp only [go_sem,pvP]
        refine zc (.pureE (zlN l c out e.id h hy hb) (by simp [go_sem,cId,pvP,zj])) ?_
        cases h2:zhR l c out e.id
        · simp only [go_sem,wk]
          refine ⟨by simp,n - 1,by omega,k + 1,by omega,?_⟩
          rw [hs]
          simp [zh,go_sem,ze,zf,pos,yaa,zhS,cId,pvP,zj,h1,h2]
        · cases ab
          · simp only [go_sem,wk]
            refine ⟨by simp,n - 1,by omega,k + 1,by omega,?_⟩
            rw [hs]
            simp [zh,go_sem,ze,zf,pos,yaa,zhS,cId,pvP,zj,h1,h2]
          · simp only [go_sem]
            refine zc (.pureE (zjn e.id ai) (by simp [go_sem,cId])) ?_
            cases h3:Zi e.id ai
            · simp only [go_sem,wk]
              refine ⟨by simp,n - 1,by omega,k + 1,by omega,?_⟩
              rw [hs]
              simp [zh,go_sem,ze,zf,pos,yaa,zhS,cId,pvP,zj,h1,h2,h3]
            · simp only [go_sem,wk]
              refine ⟨by simp,n - 1,by omega,k + 1,by omega,?_⟩
              rw [hs]
              simp [zh,go_sem,ze,zf,pos,yaa,zhS,cId,pvP,zj,h1,h2,h3]
      · simp only [go_sem,wk]
        refine ⟨by simp,n - 1,by omega,k + 1,by omega,?_⟩
        rw [hs]
        simp [zh,go_sem,ze,zf,pos,yaa,zhS,cId,pvP,zj,h1]
    · obtain rfl:k=(zL l c).length:=by omega
      simp only [go_sem,ybO,cId]
      refine zd hx ?_
      simp [go_sem,zDe,zDf,cId]
def zdr (l:List Entry) (c:Int) (out:List Id) (x:Id):Bool:=decide (0≤zG l x) && zan (nth l (zG l x).toNat).c c && !zaG out x && zhR l c out x
def zda (l:List Entry) (c:Int) (out:List Id):Option Id:=zeI.find? (zdr l c out)
theorem zd0 {l:List Entry} (h:LogOk l) {c:Int} {out:List Id} {x:Id}:zdr l c out x=true↔(∃ e ∈ zL l c,e.id=x)∧x ∉ out∧zhR l c out x=true:=by
 unfold zdr
 simp only [yat,decide_eq_true_eq,yaQ]
 constructor
 ·
  rintro ⟨⟨⟨h1,h2⟩,h3⟩,h4⟩
  obtain ⟨k,f1,f2,f3⟩:=z7 h1
  rw [f1,yaB] at h2
  exact ⟨⟨_,zaH.2 ⟨k,f2,rfl,h2⟩,f3⟩,fun hm=>(by rw [zam.2 hm] at h3; cases h3),h4⟩
 ·
  rintro ⟨⟨e,he,rfl⟩,h3,h4⟩
  obtain ⟨k,hk,rfl,hm⟩:=zaH.1 he
  refine ⟨⟨⟨by rw [h.find hk]; omega,by rw [h.find hk,yaB]; exact hm⟩,?_⟩,h4⟩
  cases e:zaG out (nth l k).id
  ·
   rfl
  ·
   exact (h3 (zam.1 e)).elim
theorem zej {l:List Entry} (h:LogOk l) {c:Int} {out:List Id} {x:Id} (hc:zdr l c out x=true):x ∈ zeI:=by
 obtain ⟨⟨e,he,rfl⟩,-⟩:=(zd0 h).1 hc
 obtain ⟨k,hk,rfl,-⟩:=zaH.1 he
 exact zgh.2 (h.id_ok hk)
theorem za6 {l:List Entry} (h:LogOk l) {c:Int} {out:List Id} {x:Id}:zda l c out=some x↔zdr l c out x=true∧∀ y,zdr l c out y=true→Zi y x=false:=by
 constructor
 ·
  intro hn
  obtain ⟨h1,us,vs,h2,h3⟩:=List.find?_eq_some_iff_append.1 hn
  refine ⟨h1,fun y hy=>?_⟩
  have ha:=zgg
  rw [h2] at ha
  have hy2:=zej h hy
  rw [h2] at hy2
  rcases yai.1 hy2 with hy3 | hy3
  ·
   have:=h3 y hy3; rw [hy] at this; cases this
  ·
   rcases yaN.1 hy3 with rfl | hy4
   ·
    exact zaD _
   ·
    have h4:=(ya7.1 (ybf.1 ha).2.1).1 y hy4
    cases e:Zi y x
    ·
     rfl
    ·
     have:=zcs h4 e; rw [zaD] at this; cases this
 ·
  rintro ⟨h1,h2⟩
  cases hn:zda l c out with
  | none =>
   have:=List.find?_eq_none.1 hn x (zej h h1)
   exact (this h1).elim
  | some y =>
   obtain ⟨g1,us,vs,g2,g3⟩:=List.find?_eq_some_iff_append.1 hn
   have ha:=zgg
   rw [g2] at ha
   have hx:=zej h h1
   rw [g2] at hx
   rcases yai.1 hx with hx2 | hx2
   ·
    have:=g3 x hx2; rw [h1] at this; cases this
   ·
    rcases yaN.1 hx2 with rfl | hx3
    ·
     rfl
    ·
     have h4:=(ya7.1 (ybf.1 ha).2.1).1 x hx3
     rw [h2 y g1] at h4; cases h4
theorem zjz {l:List Entry} (h:LogOk l) {c:Int} {out:List Id}:zda l c out=none↔∀ y,zdr l c out y=false:=by
 unfold zda
 rw [List.find?_eq_none]
 constructor
 ·
  intro hn y
  cases e:zdr l c out y
  ·
   rfl
  ·
   exact (hn y (zej h e) e).elim
 ·
  intro hn y _
  rw [hn y]; simp
theorem zlO {l : List Entry} {c : Int} {out : List Id} : ∀ k, k ≤ (zL l c).length →
    (zey l c out k=(⟨0,0⟩,false)∧∀ e ∈ (zL l c).take k,(!zaG out e.id && zhR l c out e.id)=false) ∨
    (∃ e ∈ zL l c,(!zaG out e.id && zhR l c out e.id)=true∧zey l c out k=(e.id,true)∧∀ e' ∈ (zL l c).take k,(!zaG out e'.id && zhR l c out e'.id)=true→Zi e'.id e.id=false)
  | 0,_ => .inl ⟨rfl,by simp⟩
  | k + 1,hk=>by
    have hlt:k < (zL l c).length:=by omega
    have hmem:∀ e,e ∈ (zL l c).take (k + 1)↔e ∈ (zL l c).take k∨e=nth (zL l c) k:=fun e=>by
      rw [yaE hlt,yai,zv _ _ hlt]; simp
    have hin:nth (zL l c) k ∈ zL l c:=by rw [zv _ _ hlt]; exact yaw hlt
    rw [zjy hlt]
    rcases zlO (l:=l) (c:=c) (out:=out) k (by omega) with ⟨h1,h2⟩ | ⟨e,he,h1,h2,h3⟩
    · rw [h1]
      cases hc:(!zaG out (nth (zL l c) k).id && zhR l c out (nth (zL l c) k).id)
      · refine .inl ⟨by simp [zhS,hc],fun e he=>?_⟩
        rcases (hmem e).1 he with h4 | rfl
        · exact h2 e h4
        · exact hc
      · refine .inr ⟨_,hin,hc,by simp [zhS,hc],fun e' he' hc'=>?_⟩
        rcases (hmem e').1 he' with h4 | rfl
        · rw [h2 e' h4] at hc'; cases hc'
        · exact zaD _
    · rw [h2]
      cases hc:(!zaG out (nth (zL l c) k).id && zhR l c out (nth (zL l c) k).id && Zi (nth (zL l c) k).id e.id)
      · refine .inr ⟨e,he,h1,by simp only [zhS,Bool.not_true,Bool.false_or,hc]; rfl,fun e' he' hc'=>?_⟩
        rcases (hmem e').1 he' with h4 | rfl
        · exact h3 e' h4 hc'
        · rw [hc',ycg] at hc; exact hc
      · have hc2:=hc
        simp only [yat] at hc2
        refine .inr ⟨_,hin,by simp only [yat]; exact hc2.1,by simp only [zhS,Bool.not_true,Bool.false_or,hc]; rfl,fun e' he' hc'=>?_⟩
        rcases (hmem e').1 he' with h4 | rfl
        · have h5:=h3 e' h4 hc'
          cases h6:Zi e'.id (nth (zL l c) k).id
          · rfl
          · rw [zcs h6 hc2.2] at h5; cases h5
        · exact zaD _
theorem zoJ {l:List Entry} (h:LogOk l) (c:Int) (out:List Id):zey l c out (zL l c).length=match zda l c out with | some x=>(x,true) | none=>(⟨0,0⟩,false):=by
 have hcand:∀ e ∈ zL l c,(!zaG out e.id && zhR l c out e.id)=zdr l c out e.id:=fun e he=>by
  rw [ybJ,zd0 h,yat,yaQ]
  constructor
  ·
   rintro ⟨h1,h2⟩
   exact ⟨⟨e,he,rfl⟩,fun hm=>(by rw [zam.2 hm] at h1; cases h1),h2⟩
  ·
   rintro ⟨-,h1,h2⟩
   refine ⟨?_,h2⟩
   cases g:zaG out e.id
   ·
    rfl
   ·
    exact (h1 (zam.1 g)).elim
 rcases zlO (l:=l) (c:=c) (out:=out) (zL l c).length (yag _) with ⟨h1,h2⟩ | ⟨e,he,h1,h2,h3⟩
 ·
  rw [ybF] at h2
  have:zda l c out=none:=(zjz h).2 fun y=>by
   cases hy:zdr l c out y
   ·
    rfl
   ·
    obtain ⟨⟨e,he,rfl⟩,-⟩:=(zd0 h).1 hy
    rw [← hcand e he,h2 e he] at hy; cases hy
  rw [h1,this]
 ·
  rw [ybF] at h3
  have:zda l c out=some e.id:=(za6 h).2 ⟨by rw [← hcand e he]; exact h1,fun y hy=>by
   obtain ⟨⟨e',he',rfl⟩,-⟩:=(zd0 h).1 hy
   exact h3 e' he' (by rw [hcand e' he']; exact hy)⟩
  rw [h2,this]
def zfc (l:List Entry) (c:Int) (out:List Id):Nat:=(zL l c).countP fun e => !zaG out e.id
theorem zkq {l:List Entry} (h:LogOk l) (c:Int) (out:List Id):zfc l c out≤40:=yaP List.countP_le_length (yaP (zbk l c) h.len)
theorem zhT {α:Type} {p q:α→Bool}:∀ {l:List α},(∀ x ∈ l,q x=true→p x=true)→(∃ x ∈ l,p x=true∧q x=false)→l.countP q < l.countP p
 | [],_,h=>by obtain ⟨x,hx,-⟩:=h; cases hx
 | y :: l,h1,h2=>by
  simp only [List.countP_cons]
  have hle:l.countP q≤l.countP p:=List.countP_mono_left fun x hx hq=>h1 x (by simp [hx]) hq
  obtain ⟨x,hx,hp,hq⟩:=h2
  rcases yaN.1 hx with rfl | hx
  ·
   rw [hp,hq]; simp; omega
  ·
   have ih:=zhT (l:=l) (fun z hz=>h1 z (by simp [hz])) ⟨x,hx,hp,hq⟩
   have:=h1 y (by simp)
   cases hy:q y
   ·
    simp; omega
   ·
    rw [this hy]; simp; omega
theorem zlP {out:List Id} {x y:Id}:zaG (out ++ [x]) y=(zaG out y || decide (y=x)):=by simp [zaG]
theorem zdb {l:List Entry} (h:LogOk l) {c:Int} {out:List Id} {x:Id} (hn:zdr l c out x=true):zfc l c (out ++ [x]) < zfc l c out:=by
 obtain ⟨⟨e,he,rfl⟩,h2,-⟩:=(zd0 h).1 hn
 refine zhT (fun y _ hy=>?_) ⟨e,he,?_,?_⟩
 ·
  rw [zlP] at hy
  cases g:zaG out y.id
  ·
   rfl
  ·
   rw [g] at hy; cases hy
 ·
  cases g:zaG out e.id
  ·
   rfl
  ·
   exact (h2 (zam.1 g)).elim
 ·
  rw [zlP]; simp
def zez (l:List Entry) (c:Int):Nat→List Id→List Id
 | 0,out=>out
 | n + 1,out=>match zda l c out with
  | some x=>zez l c n (out ++ [x])
  | none=>out
def zf1 (l:List Entry) (c:Int) (out:List Id):List Id:=zez l c (zfc l c out) out
theorem zlQ {l:List Entry} (h:LogOk l) {c:Int} {out:List Id} (hm:zfc l c out=0):zda l c out=none:=by
 cases hn:zda l c out with
 | none=>rfl
 | some x =>
  have:=zdb h ((za6 h).1 hn).1
  omega
theorem zoK {l:List Entry} (h:LogOk l) {c:Int}:∀ (n m:Nat) (out:List Id),zfc l c out≤n→zfc l c out≤m→zez l c n out=zez l c m out
 | 0,0,_,_,_=>rfl
 | 0,m + 1,out,h1,_=>by
  have:=zlQ h (show zfc l c out=0 by omega)
  simp [zez,this]
 | n + 1,0,out,_,h2=>by
  have:=zlQ h (show zfc l c out=0 by omega)
  simp [zez,this]
 | n + 1,m + 1,out,h1,h2=>by
  simp only [zez]
  cases hn:zda l c out with
  | none=>rfl
  | some x =>
   have:=zdb h ((za6 h).1 hn).1
   exact zoK h n m _ (by omega) (by omega)
theorem zhU {l:List Entry} (h:LogOk l) {c:Int} {out:List Id} {x:Id} (hn:zda l c out=some x):zf1 l c out=zf1 l c (out ++ [x]):=by
 have hlt:=zdb h ((za6 h).1 hn).1
 obtain ⟨m,hm⟩:∃ m,zfc l c out=m + 1:=⟨zfc l c out - 1,by omega⟩
 unfold zf1
 rw [hm]
 simp only [zez,hn]
 exact zoK h _ _ _ (by omega) (yag _)
theorem zfv {l:List Entry} {c:Int} {out:List Id} (hn:zda l c out=none):zf1 l c out=out:=by
 unfold zf1
 cases zfc l c out <;> simp [zez,hn]
section
variable {P:Program} {x:Cx} {nt:Nat} {st:St}
def St.sel (st:St) (live ks:List Nat):St :=
 ⟨fun t=>if t ∈ live then zdA false (pos ks) (zt true st.heap) (st.env t) else .top,ze (pos ks) (zt true st.heap) st.heap ks⟩
theorem Zk (live ks:List Nat) (hnd:ks.Nodup) (hlt:∀ k ∈ ks,k < st.heap.length) (hpre:∀ i,i < x.H0.length→ks[i]? = some i):za3 x nt st (st.sel live ks):=by
 intro a w ⟨⟨C,hr,he⟩,hdf,hsz⟩
 obtain ⟨k1,k2⟩:=hr.restrict hnd hlt hpre
 refine ⟨⟨_,k1,fun t=>?_⟩,hdf,hsz⟩
 simp only [St.sel]
 split
 ·
  exact zcE k2 (he t)
 ·
  exact .any
theorem zad (d:PV) (l:List (Nat × PV)) (H:List AObj) (live ks:List Nat):(St.mk (mkE d l) H).sel live ks=⟨mkE .top (live.map fun t=>(t,zdA false (pos ks) (zt true H) (mkE d l t))),ze (pos ks) (zt true H) H ks⟩:=by
 simp only [St.sel,St.mk.injEq,and_true]
 funext t
 induction live with
 | nil=>simp [mkE]
 | cons k live ih =>
  simp only [yaA,mkE]
  by_cases e:k=t
  ·
   subst e; simp
  ·
   rw [if_neg e,← ih]
   simp [Ne.symm e]
def zAV (x:Cx) (nt:Nat) (I:Nat→St→Prop) (n:Nat) (st:St):Prop:=∃ n' st',n' < n∧za3 x nt st st'∧I n' st'
theorem zfw {b : LC} {Q : AE → St → Prop} (I : Nat → St → Prop) (n : Nat) (h0 : ∃ st', za3 x nt st st' ∧ I n st')
    (hstep:∀ n st,I n st→zf2 P x nt b (@zga ⟨zAV x nt I n⟩ Q) st):W P x nt (.loop b) Q st:=by
  refine zol (fun n st=>∃ st',za3 x nt st st'∧I n st') n h0 ?_
  rintro n st ⟨st',hw,hI⟩
  refine zcF hw ((zbd (hstep n st' hI)).mono fun e st2 hq=>?_)
  cases e with
  | normal=>obtain ⟨n',st3,g2,g3,g4⟩:=hq; exact ⟨n',g2,st3,g3,g4⟩
  | exit id=>exact hq
  | ret=>exact hq
end
def zbs (l:List Entry) (ids:List Id) (k:Nat):Int:=if zG l (nth ids k) < 0 then 5 else if zaG (ids.take k) (nth ids k)=true then 6 else 0
def zae (l:List Entry) (ids:List Id):Int:=zP (zbs l ids) ids.length
theorem znn (l:List Id):∀ row ∈ l.map cId,row.length=2:=by simp [cId]
theorem zjA (l:List Entry) (ids:List Id) (hl:l.length≤9223372036854775806) (hi:ids.length≤9223372036854775806):zg prog 148 [.list (l.map cE),.list (ids.map cId)] [] (.int .i64 (zae l ids)) []:=by
 refine zg.of_walk func148 ntmps148 zwa.1 zwa.2 (by simp) fun x hx=>?_
 simp only [go_sem,zAO,zAP]
 refine zy [0,1,7,8,9] 0 (fun n st=>∃ k:Nat,k + n=ids.length∧zP (zbs l ids) k=0 ∧
  st=⟨mkE .top [(0,.list (l.map cE)),(1,.list (ids.map cId)),(7,.list (ids.map cId)),(8,.int .i64 ids.length),(9,.int .i64 k)],[]⟩) ids.length (by simp [hx]) (by simp) ?_ ?_
 ·
  refine ⟨0,by omega,rfl,?_⟩
  simp [zh,go_sem,ze,zf,pos]
 ·
  rintro n st ⟨k,hk,hz,rfl⟩
  by_cases hlt:k < ids.length
  ·
   have hg:ids[k]? = some (nth ids k):=zk _ _ hlt
   have wk:=zM (k:=k) (by omega)
   have hle:k≤ids.length:=by omega
   have hrow:(∀ row ∈ List.map cId ids,row.length=2)=True:=eq_true (znn ids)
   have htk:List.take k (List.map cId ids)=List.map cId (List.take k ids):=List.map_take.symm
   have fin:∀ r:Int,zbs l ids k=r→r≠0→zae l ids=r:=fun r h1 h2=>by rw [zae,Zg hz (by rw [h1]; exact h2) hlt,h1]
   simp only [go_sem,hlt,hg,cId]
   refine zc (.pureE (zaL l (nth ids k) hl) (by simp [go_sem,cId])) ?_
   by_cases h1:zG l (nth ids k) < 0
   ·
    simp only [go_sem,h1]
    refine zd hx ?_
    simp [go_sem,zAO,zAP,fin 5 (by simp [zbs,h1]) (by decide)]
   ·
    simp only [go_sem,h1,hle,hrow,htk,yaO,ybK,yaD,ybm,cId]
    refine zc (.pureE (zbj (ids.take k) (nth ids k) (by rw [yaz]; omega)) (by simp [go_sem,cId])) ?_
    cases h2:zaG (ids.take k) (nth ids k)
    ·
     simp only [go_sem,wk]
     refine ⟨by simp,n - 1,by omega,k + 1,by omega,Zv hz (by simp [zbs,h1,h2]),?_⟩
     simp [zh,go_sem,ze,zf,pos]
    ·
     simp only [go_sem]
     refine zd hx ?_
     simp [go_sem,zAO,zAP,fin 6 (by simp [zbs,h1,h2]) (by decide)]
  ·
   have hke:k=ids.length:=by omega
   subst hke
   simp only [go_sem,ybO]
   refine zd hx ?_
   simp [go_sem,zAO,zAP,zae,hz]
structure SomeOk (l:List Entry) (ids:List Id):Prop where
 there:∀ x ∈ ids,0≤zG l x
 once:ids.Nodup
theorem zgi {l:List Entry} {ids:List Id}:zae l ids=0↔SomeOk l ids:=by
 have key:∀ k,zbs l ids k=0↔0≤zG l (nth ids k)∧zaG (ids.take k) (nth ids k)=false:=fun k=>by
  unfold zbs
  split
  ·
   exact ⟨fun e=>(by cases e),fun e=>by omega⟩
  ·
   split
   ·
    rename_i h; exact ⟨fun e=>(by cases e),fun e=>by rw [h] at e; simp at e⟩
   ·
    rename_i h1 h; exact ⟨fun _=>⟨by omega,by simpa using h⟩,fun _=>rfl⟩
 rw [zae,zai]
 constructor
 ·
  intro h
  refine ⟨fun x hx=>?_,?_⟩
  ·
   obtain ⟨k,hk,rfl⟩:=yaq hx
   rw [← zv _ _ hk]; exact ((key k).1 (h k hk)).1
  ·
   rw [List.Nodup,yaT]
   intro i j hi hj hij e
   have:=((key j).1 (h j hj)).2
   have h2:zaG (ids.take j) (nth ids j)=true:=zam.2 (by rw [zv _ _ hj,← e,ybH]; exact ⟨i,by omega,rfl⟩)
   rw [h2] at this; cases this
 ·
  intro h k hk
  refine (key k).2 ⟨h.there _ (by rw [zv _ _ hk]; exact yaw hk),?_⟩
  cases e:zaG (ids.take k) (nth ids k)
  ·
   rfl
  ·
   have h2:=zam.1 e
   rw [ybH] at h2
   obtain ⟨i,hi,h3⟩:=h2
   have:=yaT.1 h.once i k (by omega) hk (by omega)
   rw [zv _ _ hk] at h3
   exact (this h3).elim
def zpZ (l:List Entry) (ids:List Id) (i:Nat):Bool:=(ids.drop i).any fun y=>zaG (z8 (zQ l) l (nth ids i)) y
def zlR (l:List Entry) (ids:List Id):Bool := !(List.range ids.length).any (zpZ l ids)
theorem ziQ (l : List Entry) (x y : Id) (h : LogOk l) (hy : 0 ≤ zG l x) :
    zg prog 220 [.agg (cId y),.ptr 0 0,.ptr 1 0] [.box [zj l (zQ l)],.box (cId x)] (.bool (zaG (z8 (zQ l) l x) y)) [.box [zj l (zQ l)],.box (cId x)]:=by
  have hm:=h.len
  obtain ⟨k,f1,f2,f3⟩:=z7 hy
  have hpl:(z8 (zQ l) l x).length≤40:=by rw [Z7,f1,yaB]; exact za5 h f2
  refine zg.of_walk func220 ntmps220 zwS.1 zwS.2 (by simp) fun xx hx=>?_
  simp only [go_sem,zDI,zDJ,cId]
  refine zc (.pureE (zdq l (zQ l) y x (by omega) hy (by simp [zQ]; omega) (by omega)) (by simp [go_sem,cId,zj])) ?_
  simp only [go_sem]
  refine zI [] (by simp) (by simp) (by simp [hx]) ?_ ?_
  · simp [go_sem,zDI,zDJ,hx]
  · simp [ze,zf,hx,go_sem,pos,yaa,cId,zj]
theorem zyo (l:List Entry) (x:Id):ClosedH [.box [zj l (zQ l)],.box (cId x)] [.ptr 0 0,.ptr 1 0]:=by
 refine znk _ _ ?_ ?_ ?_ ?_ ?_ ?_ <;> simp [zj,cId,zn,zp]
theorem zfx (l : List Entry) (ids : List Id) (h : LogOk l) (hs : ∀ x ∈ ids, 0 ≤ zG l x) (hi : ids.length ≤ 9223372036854775806) :
    zg prog 149 [zj l (zQ l),.list (ids.map cId)] [] (.bool (zlR l ids)) []:=by
  refine zg.of_walk func149 ntmps149 zwb.1 zwb.2 (by simp) fun x hx=>?_
  simp only [go_sem,zBM,zBN,zj]
  refine zy [1,2,7,8,9] 1 (fun n st=>∃ k:Nat,k + n=ids.length∧(∀ j,j < k→zpZ l ids j=false) ∧
    st=⟨mkE .top [(1,.list (ids.map cId)),(2,.ptr 0 0),(7,.list (ids.map cId)),(8,.int .i64 ids.length),(9,.int .i64 k)],[.box [zj l (zQ l)]]⟩) ids.length (by simp [hx]) (by simp) ?_ ?_
  · refine ⟨0,by omega,by simp,?_⟩
    simp [zh,go_sem,ze,zf,pos,yaa,zj]
  · rintro n st ⟨k,hk,hz,rfl⟩
    by_cases hlt:k < ids.length
    · have hg:ids[k]? = some (nth ids k):=zk _ _ hlt
      have wk:=zM (k:=k) (by omega)
      have hle:k≤ids.length:=by omega
      have hrow:(∀ row ∈ List.map cId ids,row.length=2)=True:=eq_true (znn ids)
      have hsub:(((ids.length:Nat):Int) - (k:Int)).toNat=ids.length - k:=by omega
      have htd:List.take (ids.length - k) (List.drop k (List.map cId ids))=List.map cId (ids.drop k):=by
        rw [← List.map_drop,yan (by simp)]
      have hy:0≤zG l (nth ids k):=hs _ (by rw [zv _ _ hlt]; exact yaw hlt)
      simp only [go_sem,hlt,hg,hle,hrow,hsub,htd,cId,ybm,yaO]
      refine zc (.heapE [0,1] (r' := .bool (zpZ l ids k)) (H' := [.box [zj l (zQ l)],.box (cId (nth ids k))]) (zdV (ids.drop k) 220 [.ptr 0 0,.ptr 1 0] [.box [zj l (zQ l)],.box (cId (nth ids k))] (fun y=>zaG (z8 (zQ l) l (nth ids k)) y) (by kernel_rfl) (by simp; omega) (zyo l (nth ids k)) (fun y _=>ziQ l (nth ids k) y h hy))
        (by simp) (by simp) (by simp [go_sem,pos]) (by simp [ze,zf,go_sem,pos,cId,zj]) rfl (by simp [ZN,zS,zT,zf,pos,go_sem,yaa,ZV,Zh,cId,zj])) ?_
      cases ho:zpZ l ids k
      · simp only [go_sem,wk]
        refine ⟨by simp,n - 1,by omega,k + 1,by omega,fun j hj=>?_,?_⟩
        · by_cases e:j=k
          · subst e; exact ho
          · exact hz j (by omega)
        · simp [zh,go_sem,ze,zf,pos,yaa,zj]
      · simp only [go_sem]
        refine zd hx ?_
        have:zlR l ids=false:=by
          simp only [zlR,Bool.not_eq_false',ybn,yaW]
          exact ⟨k,hlt,ho⟩
        simp [go_sem,zBM,zBN,this]
    · simp only [go_sem,hlt]
      refine zd hx ?_
      have:zlR l ids=true:=by
        simp only [zlR,yaQ,yaZ,yaW]
        intro j hj
        rw [hz j (by omega)]; simp
      simp [go_sem,zBM,zBN,this]
theorem zlS (l : List Entry) (c : Int) (ids : List Id) (h : LogOk l) (hc : ZI c 1 7 = true) (hb : ids.length ≤ 1000000000) :
    zg prog 102 [.list (l.map cE),.int .i64 c,.list (ids.map cId)] [] (.list ((zf1 l c ids).map cId)) []:=by
  have hm:=h.len
  refine zg.of_walk func102 ntmps102 zoq.1 zoq.2 (by simp) fun x hx=>?_
  simp only [go_sem,zAv,zAw]
  refine zc (.heapE [] (r' := .ptr 0 0) (H' := [.box [.int .i64 c,.arr 1 1,.list ((zL l c).map cE),zj l (zQ l)],.arr 1 true false 29 2 (ids.map cId)]) (zgG l c ids h hc hb) (by simp) (by simp) (by simp [go_sem]) rfl rfl (by simp [ZN,zS,zT,zf,pos,go_sem,yaa,ZV,Zh,zj])) ?_
  simp only [go_sem]
  refine zc (.lookE (zei l c ids h (by omega)) rfl (by simp [zjY,zf6,go_sem,pvP,zj,zt,pos])) ?_
  simp only [go_sem,cId]
  refine zfw (fun n st=>∃ (out:List Id) (v:Nat),n=zfc l c out∧zf1 l c ids=zf1 l c out∧out.length + zfc l c out≤ids.length + 40 ∧
    st=⟨mkE .top [(7,.ptr 0 0),(8,.ptr 2 0),(9,.bool (zey l c out (zL l c).length).2)],[.box [.int .i64 c,.arr 1 v,.list ((zL l c).map cE),zj l (zQ l)],.arr v true false 29 2 (out.map cId),.box (cId (zey l c out (zL l c).length).1)]⟩) (zfc l c ids) ?_ ?_
  · refine ⟨_,Zk [7,8,9] [0,1,2] (by simp) (by simp) (by simp [hx]),ids,1,rfl,rfl,by have:=zkq h c ids; omega,?_⟩
    simp [zad,go_sem,ze,zf,pos,yaa,zj,cId]
  · rintro n st ⟨out,v,rfl,hmore,hlen,rfl⟩
    have hF:=zoJ h c out
    cases hn:zda l c out with
    | none =>
      rw [hn] at hF
      rw [hF]
      simp only [go_sem]
      refine zd hx ?_
      simp [go_sem,zAv,zAw,hmore,zfv hn,zt,pos]
    | some y =>
      rw [hn] at hF
      rw [hF]
      have hlt:=zdb h ((za6 h).1 hn).1
      simp only [go_sem,cId]
      rw [Zf rfl rfl (by simp) (by simp; omega)]
      simp only [go_sem,cId]
      have hrows:(List.map cId out ++ [[PV.int IntKind.i64 y.r,PV.int IntKind.i64 y.n]])=(out ++ [y]).map cId:=by simp [cId]
      rw [hrows]
      refine zc (.lookE (zei l c (out ++ [y]) h (by simp; omega)) rfl (by simp [zjY,zf6,go_sem,pvP,zj,zt,pos])) ?_
      simp only [go_sem,cId]
      refine ⟨zfc l c (out ++ [y]),_,hlt,Zk [7,8,9] [0,1,3] (by simp) (by simp) (by simp [hx]),out ++ [y],v + 1,rfl,hmore.trans (zhU h hn),by simp; omega,?_⟩
      simp [zad,go_sem,ze,zf,pos,yaa,zj,cId]
def zkr (l:List Entry) (c:Int) (ids:List Id) (y:Id):Bool:=decide (zG (zL l c) y < 0) || !zhR l c ids y
theorem zyp (l:List Entry) (c:Int) (ids:List Id):ClosedH [.box [pvP l c ids]] [.ptr 0 0]:=zne _ (by simp [pvP,zn,zp]) (by simp [pvP,zn,zp]) (by simp [pvP,zn,zp])
theorem zlT (l : List Entry) (c : Int) (ids : List Id) (y : Id) (h : LogOk l) (hy : 0 ≤ zG l y) (hb : ids.length ≤ 1000000000000) :
    zg prog 170 [.agg (cId y),.ptr 0 0] [.box [pvP l c ids]] (.bool (zkr l c ids y)) [.box [pvP l c ids]]:=by
  have hm:=h.len
  have hw:=zbk l c
  refine zg.of_walk func170 ntmps170 zwt.1 zwt.2 (by simp) fun x hx=>?_
  simp only [go_sem,zBU,zBV,cId,pvP]
  refine zc (.pureE (zaL (zL l c) y (by omega)) (by simp [go_sem,cId])) ?_
  by_cases h1:zG (zL l c) y < 0
  · simp only [go_sem,h1]
    refine zI [] (by simp) (by simp) (by simp [hx]) ?_ ?_
    · simp [go_sem,zBU,zBV,hx,zkr,h1]
    · simp [ze,zf,hx,go_sem,pos,yaa,cId,zj,pvP]
  · simp only [go_sem,h1,pvP]
    refine zc (.pureE (zlN l c ids y h hy hb) (by simp [go_sem,cId,pvP,zj])) ?_
    simp only [go_sem]
    refine zI [] (by simp) (by simp) (by simp [hx]) ?_ ?_
    · simp [go_sem,zBU,zBV,hx,zkr,h1]
    · simp [ze,zf,hx,go_sem,pos,yaa,cId,zj,pvP]
def zx (l:List Entry) (c:Int) (ids:List Id):Int :=
 if zJ l≠0 then zJ l else if zae l ids≠0 then zae l ids else if ZI c 1 7=false then 3
 else if (!zlR l ids || ids.any (zkr l c ids))=true then 4 else 0
theorem zcJ {l:List Entry} {ids:List Id} (h:LogOk l) (hs:zae l ids=0):ids.length≤40:=by
 have hso:=zgi.1 hs
 have:=zrQ (zlE hso.once) fun y hy=>by
  obtain ⟨k,k1,k2,k3⟩:=z7 (hso.there y (zhF.1 hy))
  rw [← k3]; exact h.id_ok k2
 rw [zdX] at this
 exact this
theorem ze4 (l : List Entry) (c : Int) (ids : List Id) (hl : l.length ≤ 9223372036854775806) (hb : ids.length ≤ 9223372036854775806) :
    zg prog 101 [.list (l.map cE),.int .i64 c,.list (ids.map cId)] [] (.int .i64 (zx l c ids)) []:=by
  refine zg.of_walk func101 ntmps101 zvQ.1 zvQ.2 (by simp) fun x hx=>?_
  simp only [go_sem,zvO,zvP]
  refine zc (.pureE (ZD l hl) (by simp [go_sem])) ?_
  by_cases h0:zJ l=0
  · have hok:=zaE.1 h0
    have hm:=hok.len
    simp only [go_sem,h0]
    refine zc (.pureE (zjA l ids hl hb) (by simp [go_sem])) ?_
    by_cases h1:zae l ids=0
    · have hso:=zgi.1 h1
      have hlen:=zcJ hok h1
      simp only [go_sem,h1]
      refine zc (.pureE (zaB c) (by simp [go_sem])) ?_
      cases h2:ZI c 1 7
      · simp only [go_sem]
        refine zd hx ?_
        simp [go_sem,zvO,zvP,zx,h0,h1,h2]
      · simp only [go_sem]
        refine zc (.pureE (znm l c ids hok h2 (by omega)) (by simp [go_sem])) ?_
        simp only [go_sem,pvP]
        refine zc (.pureE (zfx l ids hok hso.there hb) (by simp [go_sem,zj])) ?_
        cases h3:zlR l ids
        · simp only [go_sem]
          refine zd hx ?_
          simp [go_sem,zvO,zvP,zx,h0,h1,h2,h3]
        · simp only [go_sem]
          refine zc (.heapE [0] (r' := .bool (ids.any (zkr l c ids))) (H' := [.box [pvP l c ids]]) (zdV ids 170 [.ptr 0 0] [.box [pvP l c ids]] (zkr l c ids) (by kernel_rfl) hb (zyp l c ids) (fun y hy=>zlT l c ids y hok (hso.there y hy) (by omega)))
            (by simp) (by simp) (by simp [go_sem,pos]) (by simp [ze,zf,go_sem,pos,pvP]) rfl (by simp [ZN,zS,zT,zf,pos,go_sem,yaa,ZV,Zh,pvP])) ?_
          cases h4:ids.any (zkr l c ids)
          · simp only [go_sem]
            refine zd hx ?_
            simp only [zx,h0,h1,h2,h3,h4]
            simp [go_sem,zvO,zvP]
          · simp only [go_sem]
            refine zd hx ?_
            simp only [zx,h0,h1,h2,h3,h4]
            simp [go_sem,zvO,zvP]
    · simp only [go_sem,h1]
      refine zd hx ?_
      simp [go_sem,zvO,zvP,zx,h0,h1]
  · simp only [go_sem,h0]
    refine zd hx ?_
    simp [go_sem,zvO,zvP,zx,h0]
def zno (l:List Entry) (ids:List Id):Int:=if zJ l≠0 then zJ l else zae l ids
def zw7 (l:List Entry) (ids:List Id):Bool:=decide (zno l ids=0) && zlR l ids
theorem zfy (l : List Entry) (ids : List Id) (hl : l.length ≤ 9223372036854775806) (hb : ids.length ≤ 9223372036854775806) :
    zg prog 77 [.list (l.map cE),.list (ids.map cId)] [] (.tup [.bool (zw7 l ids),.int .i64 (zno l ids)]) []:=by
  refine zg.of_walk func77 ntmps77 zAa.1 zAa.2 (by simp) fun x hx=>?_
  simp only [go_sem,L77,R77]
  refine zc (.pureE (ZD l hl) (by simp [go_sem])) ?_
  by_cases h0:zJ l=0
  · have hok:=zaE.1 h0
    simp only [go_sem,h0]
    refine zc (.pureE (zjA l ids hl hb) (by simp [go_sem])) ?_
    by_cases h1:zae l ids=0
    · simp only [go_sem,h1]
      refine zc (.pureE (zaj l hok) (by simp [go_sem])) ?_
      simp only [go_sem]
      refine zc (.pureE (zfx l ids hok (zgi.1 h1).there hb) (by simp [go_sem,zj])) ?_
      simp only [go_sem]
      refine zd hx ?_
      simp [go_sem,L77,R77,zw7,zno,h0,h1]
    · simp only [go_sem,h1]
      refine zd hx ?_
      simp [go_sem,L77,R77,zw7,zno,h0,h1]
  · simp only [go_sem,h0]
    refine zd hx ?_
    simp [go_sem,L77,R77,zw7,zno,h0]
theorem zds {l:List Entry} {c:Int} {ids:List Id} (h:zx l c ids=0):zJ l=0∧zae l ids=0∧ZI c 1 7=true∧zlR l ids=true∧∀ y ∈ ids,zkr l c ids y=false:=by
 unfold zx at h
 split at h
 ·
  rename_i h0; exact (h0 h).elim
 ·
  rename_i h0
  split at h
  ·
   rename_i h1; exact (h1 h).elim
  ·
   rename_i h1
   split at h
   ·
    cases h
   ·
    rename_i h2
    split at h
    ·
     cases h
    ·
     rename_i h3
     simp only [ybI,yaQ,not_or,Bool.not_eq_false,ybt,yaZ] at h3
     exact ⟨by simpa using h0,by simpa using h1,by simpa using h2,h3.1,fun y hy=>by simpa using h3.2 y hy⟩
def Zo (l:List Entry) (c:Int) (ids:List Id):List Id:=if zx l c ids=0 then zf1 l c ids else []
theorem zd1 (l : List Entry) (c : Int) (ids : List Id) (hl : l.length ≤ 9223372036854775806) (hb : ids.length ≤ 9223372036854775806) :
    zg prog 30 [.list (l.map cE),.int .i64 c,.list (ids.map cId)] [] (.tup [.list ((Zo l c ids).map cId),.int .i64 (zx l c ids)]) []:=by
  refine zg.of_walk func30 ntmps30 zul.1 zul.2 (by simp) fun x hx=>?_
  simp only [go_sem,L30,R30]
  refine zc (.pureE (ze4 l c ids hl hb) (by simp [go_sem])) ?_
  by_cases h0:zx l c ids=0
  · obtain ⟨g0,g1,g2,-,-⟩:=zds h0
    have hok:=zaE.1 g0
    have:=zcJ hok g1
    simp only [go_sem,h0]
    refine zc (.pureE (zlS l c ids hok g2 (by omega)) (by simp [go_sem])) ?_
    simp only [go_sem]
    refine zd hx ?_
    simp [go_sem,L30,R30,Zo,h0]
  · simp only [go_sem,h0]
    refine zd hx ?_
    simp [go_sem,L30,R30,Zo,h0]
theorem zgW (l : List Entry) (c : Int) (hl : l.length ≤ 9223372036854775806) :
    zg prog 76 [.list (l.map cE),.int .i64 c] [] (.tup [.list ((Zo l c []).map cId),.int .i64 (zx l c [])]) []:=by
  refine zg.of_walk func76 ntmps76 zz9.1 zz9.2 (by simp) fun x hx=>?_
  simp only [go_sem,L76,R76]
  refine zc (.pureE (zd1 l c [] hl (by simp)) (by simp [go_sem])) ?_
  simp only [go_sem]
  refine zd hx ?_
  simp [go_sem,L76,R76]
theorem zjB {α:Type} [Inhabited α] {l:List α} {k:Nat} (h:k < l.length):nth l k ∈ l:=by rw [zv _ _ h]; exact yaw h
theorem zlU (l:List Entry) (y z:Id) (h:LogOk l) (hy:0≤zG l y) (hz:0≤zG l z):zg prog 168 [.list (l.map cE),.agg (cId y),.agg (cId z)] [] (.bool (zaG (z8 (zQ l) l z) y)) []:=by
 have hm:=h.len
 obtain ⟨i,i1,i2,i3⟩:=z7 hy
 obtain ⟨k,k1,k2,k3⟩:=z7 hz
 have hml:=zbw l k
 have hg:(zao l k)[i]? = some (zaG (z8 (zQ l) l z) y):=by
  rw [zk _ _ (by omega)]
  congr 1
  rw [ybJ,za1 h k2 i2,Z7,k1,yaB,zam,i3]
 refine zg.of_walk func168 ntmps168 zws.1 zws.2 (by simp) fun x hx=>?_
 simp only [go_sem,zDa,zDb,cId]
 refine zc (.pureE (ZT l z (by omega)) (by simp [go_sem,cId])) ?_
 simp only [go_sem,k1]
 refine zc (.pureE (zft l k h k2) (by simp [go_sem])) ?_
 simp only [go_sem]
 refine zc (.pureE (ZT l y (by omega)) (by simp [go_sem,cId])) ?_
 simp only [go_sem,i1,hml,i2,hg,rB]
 refine zd hx ?_
 simp [go_sem,zDa,zDb]
theorem ziR (l:List Entry) (ids:List Id) (hl:l.length≤9223372036854775806) (hi:ids.length≤9223372036854775806):zg prog 95 [.list (l.map cE),.list (ids.map cId)] [] (.int .i64 (zae l ids)) []:=by
 refine zg.of_walk func95 ntmps95 zAq.1 zAq.2 (by simp) fun x hx=>?_
 simp only [go_sem,L95,R95]
 refine zy [0,1,5] 0 (fun n st=>∃ k:Nat,k + n=ids.length∧zP (zbs l ids) k=0 ∧
  st=⟨mkE .top [(0,.list (l.map cE)),(1,.list (ids.map cId)),(5,.int .i64 k)],[]⟩) ids.length (by simp [hx]) (by simp) ?_ ?_
 ·
  refine ⟨0,by omega,rfl,?_⟩
  simp [zh,go_sem,ze,zf,pos]
 ·
  rintro n st ⟨k,hk,hz,rfl⟩
  by_cases hlt:k < ids.length
  ·
   have hg:ids[k]? = some (nth ids k):=zk _ _ hlt
   have wk:=zM (k:=k) (by omega)
   have hle:k≤ids.length:=by omega
   have hrow:(∀ row ∈ List.map cId ids,row.length=2)=True:=eq_true (znn ids)
   have htk:List.take k (List.map cId ids)=List.map cId (List.take k ids):=List.map_take.symm
   have fin:∀ r:Int,zbs l ids k=r→r≠0→zae l ids=r:=fun r h1 h2=>by rw [zae,Zg hz (by rw [h1]; exact h2) hlt,h1]
   simp only [go_sem,hlt,hg,cId]
   refine zc (.pureE (ZT l (nth ids k) hl) (by simp [go_sem,cId])) ?_
   by_cases h1:zG l (nth ids k) < 0
   ·
    simp only [go_sem,h1]
    refine zd hx ?_
    simp [go_sem,L95,R95,fin 5 (by simp [zbs,h1]) (by decide)]
   ·
    simp only [go_sem,h1,hlt,hg,hle,hrow,htk,yaO,ybK,yaD,ybm,cId]
    refine zc (.pureE (ze3 (ids.take k) (nth ids k) (by rw [yaz]; omega)) (by simp [go_sem,cId])) ?_
    cases h2:zaG (ids.take k) (nth ids k)
    ·
     simp only [go_sem,wk]
     refine ⟨by simp,n - 1,by omega,k + 1,by omega,Zv hz (by simp [zbs,h1,h2]),?_⟩
     simp [zh,go_sem,ze,zf,pos]
    ·
     simp only [go_sem]
     refine zd hx ?_
     simp [go_sem,L95,R95,fin 6 (by simp [zbs,h1,h2]) (by decide)]
  ·
   have hke:k=ids.length:=by omega
   subst hke
   simp only [go_sem,ybO]
   refine zd hx ?_
   simp [go_sem,L95,R95,zae,hz]
theorem zp0 {l:List Entry} {ids:List Id} {i k:Nat} (hik:i≤k) (hk:k < ids.length) (h:zaG (z8 (zQ l) l (nth ids i)) (nth ids k)=true):zlR l ids=false:=by
 simp only [zlR,Bool.not_eq_false',ybn,yaW]
 refine ⟨i,by omega,?_⟩
 unfold zpZ
 rw [ybn]
 refine ⟨nth ids k,?_,h⟩
 rw [zv _ _ hk,List.mem_drop_iff_getElem]
 exact ⟨k - i,by omega,by simp [show i + (k - i)=k by omega]⟩
theorem zr5 {l:List Entry} (h:LogOk l) {y:Id} (hy:0≤zG l y):zaG (z8 (zQ l) l y) y=false:=by
 obtain ⟨k,k1,k2,k3⟩:=z7 hy
 cases e:zaG (z8 (zQ l) l y) y
 ·
  rfl
 ·
  rw [Z7,k1,yaB] at e
  obtain ⟨j,j1,j2⟩:=zhG h k k2 _ (zam.1 e)
  have:=h.inj (by omega) k2 (j2.trans k3.symm)
  omega
theorem zr6 {l:List Entry} {ids:List Id} (h:LogOk l) (hs:∀ x ∈ ids,0≤zG l x) (ha:∀ i k,i < k→k < ids.length→zaG (z8 (zQ l) l (nth ids i)) (nth ids k)=false):zlR l ids=true:=by
 simp only [zlR,yaQ,yaZ,yaW]
 intro i hi
 unfold zpZ
 rw [ybt,yaZ]
 intro y hy
 rw [List.mem_drop_iff_getElem] at hy
 obtain ⟨j,hj,rfl⟩:=hy
 have hlt:i + j < ids.length:=by omega
 rw [← zv _ _ hlt]
 rcases yb5 j with rfl | hp
 ·
  rw [ybh,zr5 h (hs _ (zjB hi))]; simp
 ·
  rw [ha i (i + j) (by omega) hlt]; simp
theorem zks (l:List Entry) (ids:List Id) (h:LogOk l) (hs:∀ x ∈ ids,0≤zG l x) (hi:ids.length≤9223372036854775805):zg prog 99 [.list (l.map cE),.list (ids.map cId)] [] (.bool (zlR l ids)) []:=by
 refine zg.of_walk func99 ntmps99 zAu.1 zAu.2 (by simp) fun x hx=>?_
 simp only [go_sem,L99,R99]
 refine zy [0,1,5] 0 (fun n st=>∃ i:Nat,i + n=ids.length∧(∀ a b,a < i→a < b→b < ids.length→zaG (z8 (zQ l) l (nth ids a)) (nth ids b)=false) ∧
  st=⟨mkE .top [(0,.list (l.map cE)),(1,.list (ids.map cId)),(5,.int .i64 i)],[]⟩) ids.length (by simp [hx]) (by simp) ?_ ?_
 ·
  refine ⟨0,by omega,by simp,?_⟩
  simp [zh,go_sem,ze,zf,pos]
 ·
  rintro n st ⟨i,hin,hz,rfl⟩
  by_cases hlt:i < ids.length
  ·
   have hg:ids[i]? = some (nth ids i):=zk _ _ hlt
   have wi:=zM (k:=i) (by omega)
   simp only [go_sem,hlt,wi]
   refine zy [0,1,5,6] 0 (fun n st=>∃ k:Nat,i < k∧k + n=ids.length∧(∀ b,i < b→b < k→zaG (z8 (zQ l) l (nth ids i)) (nth ids b)=false) ∧
    st=⟨mkE .top [(0,.list (l.map cE)),(1,.list (ids.map cId)),(5,.int .i64 i),(6,.int .i64 k)],[]⟩) (ids.length - (i + 1)) (by simp [hx]) (by simp) ?_ ?_
   ·
    refine ⟨i + 1,by omega,by omega,fun b h1 h2=>by omega,?_⟩
    simp [zh,go_sem,ze,zf,pos]
   ·
    rintro n2 st ⟨k,hik,hk,hzk,rfl⟩
    by_cases hlk:k < ids.length
    ·
     have hgk:ids[k]? = some (nth ids k):=zk _ _ hlk
     have wk:=zM (k:=k) (by omega)
     simp only [go_sem,hlt,hg,hlk,hgk,cId]
     refine zc (.pureE (zlU l (nth ids k) (nth ids i) h (hs _ (zjB hlk)) (hs _ (zjB hlt))) (by simp [go_sem,cId])) ?_
     cases hp:zaG (z8 (zQ l) l (nth ids i)) (nth ids k)
     ·
      simp only [go_sem,wk]
      refine ⟨by simp,n2 - 1,by omega,k + 1,by omega,by omega,fun b h1 h2=>?_,?_⟩
      ·
       by_cases e:b=k
       ·
        subst e; exact hp
       ·
        exact hzk b h1 (by omega)
      ·
       simp [zh,go_sem,ze,zf,pos]
     ·
      simp only [go_sem]
      refine zd hx ?_
      simp [go_sem,L99,R99,zp0 (Nat.le_of_lt hik) hlk hp]
    ·
     simp only [go_sem,hlk,wi]
     refine ⟨by simp,n - 1,by omega,i + 1,by omega,fun a b h1 h2 h3=>?_,?_⟩
     ·
      by_cases e:a=i
      ·
       subst e; exact hzk b h2 (by omega)
      ·
       exact hz a b (by omega) h2 h3
     ·
      simp [zh,go_sem,ze,zf,pos]
  ·
   simp only [go_sem,hlt]
   refine zd hx ?_
   simp [go_sem,L99,R99,zr6 h hs fun i k h1 h2=>hz i k (by omega) h1 h2]
theorem zp1 {l:List Entry} (h:LogOk l) {c:Int} {out:List Id} {i k:Nat} (hi:i < l.length) (hk:k < l.length) (h1:nth (zao l i) k=true) (h2:zan (nth l k).c c=true) (h3:zaG out (nth l k).id=false):zhR l c out (nth l i).id=false:=by
 simp only [zhR,Bool.not_eq_false',ybn]
 refine ⟨nth l k,zaH.2 ⟨k,hk,rfl,h2⟩,?_⟩
 simp only [zw6,Z7,h.find hi,yaB,h3,Bool.not_false,Bool.and_true]
 exact zam.2 ((za1 h hi hk).1 h1)
theorem zr7 {l:List Entry} (h:LogOk l) {c:Int} {out:List Id} {i:Nat} (hi:i < l.length) (ha:∀ k,k < l.length→nth (zao l i) k=true→zan (nth l k).c c=true→zaG out (nth l k).id=true):zhR l c out (nth l i).id=true:=by
 simp only [zhR,yaQ,yaZ]
 intro e he
 obtain ⟨k,hk,rfl,hm⟩:=zaH.1 he
 simp only [zw6,Z7,h.find hi,yaB,yat,yaQ,not_and,Bool.not_eq_false]
 intro hp
 exact ha k hk ((za1 h hi hk).2 (zam.1 hp)) hm
theorem zfz (l : List Entry) (c : Int) (i : Nat) (out : List Id) (h : LogOk l) (hc : ZI c 1 7 = true) (hi : i < l.length) (ho : out.length ≤ 9223372036854775806) :
    zg prog 98 [.list (l.map cE),.int .i64 c,.int .i64 i,.list (out.map cId)] [] (.bool (zhR l c out (nth l i).id)) []:=by
  have hm:=h.len
  have hc':0≤c∧c≤7:=by rw [zY] at hc; omega
  refine zg.of_walk func98 ntmps98 zAt.1 zAt.2 (by simp) fun x hx=>?_
  simp only [go_sem,L98,R98]
  refine zc (.pureE (zft l i h hi) (by simp [go_sem])) ?_
  simp only [go_sem]
  refine zy [0,1,3,9,10] 0 (fun n st=>∃ k:Nat,k + n=l.length∧(∀ j,j < k→nth (zao l i) j=true→zan (nth l j).c c=true→zaG out (nth l j).id=true) ∧
    st=⟨mkE .top [(0,.list (l.map cE)),(1,.int .i64 c),(3,.list (out.map cId)),(9,.list ((zao l i).map rB)),(10,.int .i64 k)],[]⟩) l.length (by simp [hx]) (by simp) ?_ ?_
  · refine ⟨0,by omega,by simp,?_⟩
    simp [zh,go_sem,ze,zf,pos]
  · rintro n st ⟨k,hk,hz,rfl⟩
    by_cases hlt:k < l.length
    · have hg:l[k]? = some (nth l k):=zk _ _ hlt
      have wk:=zM (k:=k) (by omega)
      have hml:=zbw l i
      have hM:(zao l i)[k]? = some (nth (zao l i) k):=zk _ _ (by omega)
      have hnext:(nth (zao l i) k=true→zan (nth l k).c c=true→zaG out (nth l k).id=true)→∀ j,j < k + 1→nth (zao l i) j=true→zan (nth l j).c c=true→zaG out (nth l j).id=true:=fun hh j hj=>by
        by_cases e:j=k
        · subst e; exact hh
        · exact hz j (by omega)
      cases h1:nth (zao l i) k
      · rw [h1] at hM
        simp only [go_sem,hlt,hml,hM,rB,wk]
        refine ⟨by simp,n - 1,by omega,k + 1,by omega,hnext (by simp [h1]),?_⟩
        simp [zh,go_sem,ze,zf,pos,rB]
      · rw [h1] at hM
        simp only [go_sem,hlt,hg,hml,hM,rB,cE]
        refine zc (.pureE (ze2 (nth l k).c c (h.col07 hlt) hc') (by simp [go_sem])) ?_
        cases h2:zan (nth l k).c c
        · simp only [go_sem,wk]
          refine ⟨by simp,n - 1,by omega,k + 1,by omega,hnext (by simp [h2]),?_⟩
          simp [zh,go_sem,ze,zf,pos,rB]
        · simp only [go_sem,hlt,hg,cE]
          refine zc (.pureE (ze3 out (nth l k).id ho) (by simp [go_sem,cId])) ?_
          cases h3:zaG out (nth l k).id
          · simp only [go_sem]
            refine zd hx ?_
            simp [go_sem,L98,R98,zp1 h hi hlt h1 h2 h3]
          · simp only [go_sem,wk]
            refine ⟨by simp,n - 1,by omega,k + 1,by omega,hnext (by simp [h3]),?_⟩
            simp [zh,go_sem,ze,zf,pos,rB]
    · simp only [go_sem,hlt]
      refine zd hx ?_
      simp [go_sem,L98,R98,zr7 h hi fun k h1=>hz k (by omega)]
theorem zAW {l:List Entry} (h:LogOk l) {c:Int} {k:Nat} (hk:k < l.length):zG (zL l c) (nth l k).id < 0↔zan (nth l k).c c=false:=by
 rw [zbh]
 constructor
 ·
  intro hn
  cases e:zan (nth l k).c c
  ·
   rfl
  ·
   exact (hn _ (zaH.2 ⟨k,hk,rfl,e⟩) rfl).elim
 ·
  intro hm e he e2
  obtain ⟨j,hj,rfl,hmj⟩:=zaH.1 he
  obtain rfl:=h.inj hj hk e2
  rw [hm] at hmj; cases hmj
theorem zgX (l : List Entry) (c : Int) (ids : List Id) (hl : l.length ≤ 9223372036854775806) (hb : ids.length ≤ 9223372036854775805) :
    zg prog 28 [.list (l.map cE),.int .i64 c,.list (ids.map cId)] [] (.int .i64 (zx l c ids)) []:=by
  refine zg.of_walk func28 ntmps28 zzR.1 zzR.2 (by simp) fun x hx=>?_
  simp only [go_sem,L28,R28]
  refine zc (.pureE (ziM l hl) (by simp [go_sem])) ?_
  by_cases h0:zJ l=0
  · have hok:=zaE.1 h0
    have hm:=hok.len
    simp only [go_sem,h0]
    refine zc (.pureE (ziR l ids hl (by omega)) (by simp [go_sem])) ?_
    by_cases h1:zae l ids=0
    · have hso:=zgi.1 h1
      simp only [go_sem,h1]
      refine zc (.pureE (zb5 c 1 7) (by simp [go_sem])) ?_
      cases h2:ZI c 1 7
      · simp only [go_sem]
        refine zd hx ?_
        simp [go_sem,L28,R28,zx,h0,h1,h2]
      · have hc':0≤c∧c≤7:=by rw [zY] at h2; omega
        simp only [go_sem]
        refine zy [0,1,2,8] 0 (fun n st=>∃ k:Nat,k + n=ids.length∧(∀ j,j < k→zkr l c ids (nth ids j)=false) ∧
          st=⟨mkE .top [(0,.list (l.map cE)),(1,.int .i64 c),(2,.list (ids.map cId)),(8,.int .i64 k)],[]⟩) ids.length (by simp [hx]) (by simp) ?_ ?_
        · refine ⟨0,by omega,by simp,?_⟩
          simp [zh,go_sem,ze,zf,pos]
        · rintro n st ⟨k,hk,hz,rfl⟩
          by_cases hlt:k < ids.length
          · have hg:ids[k]? = some (nth ids k):=zk _ _ hlt
            have wk:=zM (k:=k) (by omega)
            obtain ⟨i,i1,i2,i3⟩:=z7 (hso.there _ (zjB hlt))
            have hgi:l[i]? = some (nth l i):=zk _ _ i2
            have i0:(0:Int)≤(i:Int):=by omega
            have odd4:zkr l c ids (nth ids k)=true→zx l c ids=4:=fun ho=>by
              have:ids.any (zkr l c ids)=true:=ybn.2 ⟨_,zjB hlt,ho⟩
              simp only [zx,h0,h1,h2,this,Bool.or_true]; simp
            simp only [go_sem,hlt,hg,cId]
            refine zc (.pureE (ZT l (nth ids k) hl) (by simp [go_sem,cId])) ?_
            simp only [go_sem,i1,i0,i2,hgi,cE]
            refine zc (.pureE (ze2 (nth l i).c c (hok.col07 i2) hc') (by simp [go_sem])) ?_
            cases h3:zan (nth l i).c c
            · simp only [go_sem]
              refine zd hx ?_
              have:zkr l c ids (nth ids k)=true:=by
                rw [← i3,zkr]; simp [(zAW hok (c:=c) i2).2 h3]
              simp [go_sem,L28,R28,odd4 this]
            · simp only [go_sem]
              refine zc (.pureE (zfz l c i ids hok h2 i2 (by omega)) (by simp [go_sem])) ?_
              have hf:¬ zG (zL l c) (nth ids k) < 0:=by
                rw [← i3,zAW hok i2,h3]; simp
              cases h4:zhR l c ids (nth l i).id
              · simp only [go_sem]
                refine zd hx ?_
                have:zkr l c ids (nth ids k)=true:=by rw [zkr,← i3,h4]; simp
                simp [go_sem,L28,R28,odd4 this]
              · simp only [go_sem,wk]
                refine ⟨by simp,n - 1,by omega,k + 1,by omega,fun j hj=>?_,?_⟩
                · by_cases e:j=k
                  · subst e
                    rw [i3] at h4
                    simp [zkr,hf,h4]
                  · exact hz j (by omega)
                · simp [zh,go_sem,ze,zf,pos]
          · have hall:ids.any (zkr l c ids)=false:=by
              rw [yaZ]
              intro y hy
              obtain ⟨j,hj,rfl⟩:=yaq hy
              rw [← zv _ _ hj,hz j (by omega)]; simp
            simp only [go_sem,hlt]
            refine zc (.pureE (zks l ids hok hso.there (by omega)) (by simp [go_sem])) ?_
            cases h5:zlR l ids
            · simp only [go_sem]
              refine zd hx ?_
              simp only [zx,h0,h1,h2,h5,hall]
              simp [go_sem,L28,R28]
            · simp only [go_sem]
              refine zd hx ?_
              simp only [zx,h0,h1,h2,h5,hall]
              simp [go_sem,L28,R28]
    · simp only [go_sem,h1]
      refine zd hx ?_
      simp [go_sem,L28,R28,zx,h0,h1]
  · simp only [go_sem,h0]
    refine zd hx ?_
    simp [go_sem,L28,R28,zx,h0]
theorem zr8 {y:Id} {r k:Nat} (h:y ∈ zeI) (hl:Zi y ⟨r,((k + 1:Nat):Int)⟩=true):y ∈ zgf r k:=by
 have ho:=zgh.1 h
 obtain ⟨a,b⟩:=y
 simp only [zcS,yat,zY] at ho
 simp only [Zi,decide_eq_true_eq] at hl
 unfold zgf
 rw [yai,ya5]
 by_cases e:a=(r:Int)
 ·
  refine .inr ?_
  unfold znl
  rw [yaG]
  exact ⟨(b - 1).toNat,yaW.2 (by omega),by rw [Id.mk.injEq]; omega⟩
 ·
  refine .inl ⟨a.toNat,yaW.2 (by omega),?_⟩
  unfold znl
  rw [yaG]
  exact ⟨(b - 1).toNat,yaW.2 (by omega),by rw [Id.mk.injEq]; omega⟩
def zDO (l:List Entry) (c:Int) (out:List Id) (f:Bool) (pre out':List Id):Prop :=
 (f=false→out'=out∧∀ y ∈ pre,zdr l c out y=false)∧(f=true→∃ x,zda l c out=some x∧out'=out ++ [x])
theorem zlV (l : List Entry) (c : Int) (ids : List Id) (h : LogOk l) (hc : ZI c 1 7 = true) (hb : ids.length ≤ 1000000000) :
    zg prog 29 [.list (l.map cE),.int .i64 c,.list (ids.map cId)] [] (.list ((zf1 l c ids).map cId)) []:=by
  have hm:=h.len
  have hc':0≤c∧c≤7:=by rw [zY] at hc; omega
  refine zg.of_walk func29 ntmps29 zzS.1 zzS.2 (by simp) fun x hx=>?_
  simp only [go_sem,L29,R29]
  rw [Zf rfl rfl (by simp [cId]) (by simp; omega)]
  simp only [go_sem]
  refine zy [0,1,7,8] 1 (fun n st=>∃ (out:List Id) (v:Nat) (b:Bool),n=(if b then zfc l c out + 1 else 0)∧(b=false→zda l c out=none)∧zf1 l c ids=zf1 l c out∧out.length + zfc l c out≤ids.length + 40 ∧
    st=⟨mkE .top [(0,.list (l.map cE)),(1,.int .i64 c),(7,.arr 0 v),(8,.bool b)],[.arr v true false 29 2 (out.map cId)]⟩) (zfc l c ids + 1) (by simp [hx]) (by simp) ?_ ?_
  · refine ⟨ids,1,true,by simp,by simp,rfl,by have:=zkq h c ids; omega,?_⟩
    simp [zh,go_sem,ze,zf,pos,yaa]
  · rintro n st ⟨out,v,b,rfl,hbn,hmore,hlen,rfl⟩
    cases b
    · simp only [go_sem]
      refine zd hx ?_
      simp [go_sem,L29,R29,hmore,zfv (hbn rfl),zt,pos]
    · simp only [go_sem]
      refine zy [0,1,7,8,9] 1 (fun n st=>∃ (r v:Nat) (f:Bool) (out':List Id),r + n=2∧zDO l c out f (zgf r 0) out' ∧
        st=⟨mkE .top [(0,.list (l.map cE)),(1,.int .i64 c),(7,.arr 0 v),(8,.bool f),(9,.int .i64 r)],[.arr v true false 29 2 (out'.map cId)]⟩) 2 (by simp [hx]) (by simp) ?_ ?_
      · refine ⟨0,v,false,out,by omega,⟨fun _=>⟨rfl,by simp [zgf,znl]⟩,by simp⟩,?_⟩
        simp [zh,go_sem,ze,zf,pos,yaa]
      · rintro n2 st ⟨r,v2,f,out',hr,hseen,rfl⟩
        have hend : ∀ (v : Nat), f = true ∨ r = 2 → ∃ n', n' < zfc l c out + 1 ∧ ∃ (o : List Id) (v' : Nat) (b : Bool), n' = (if b then zfc l c o + 1 else 0) ∧ (b = false → zda l c o = none) ∧ zf1 l c ids = zf1 l c o ∧ o.length + zfc l c o ≤ ids.length + 40 ∧
            (St.mk (mkE .top [(0,.list (l.map cE)),(1,.int .i64 c),(7,.arr 0 v),(8,.bool f)]) [AObj.arr v true false 29 2 (out'.map cId)])=⟨mkE .top [(0,.list (l.map cE)),(1,.int .i64 c),(7,.arr 0 v'),(8,.bool b)],[.arr v' true false 29 2 (o.map cId)]⟩:=by
          intro v hfr
          cases f
          · have hr2:r=2:=by simpa using hfr
            subst hr2
            obtain ⟨e1,e2⟩:=hseen.1 rfl
            subst e1
            refine ⟨0,by omega,out',v,false,by simp,fun _=>?_,hmore,hlen,rfl⟩
            refine (zjz h).2 fun y=>?_
            cases hy:zdr l c out' y
            · rfl
            · have:=e2 y (zej h hy)
              rw [hy] at this; cases this
          · obtain ⟨y,hn,rfl⟩:=hseen.2 rfl
            have hlt:=zdb h ((za6 h).1 hn).1
            exact ⟨zfc l c (out ++ [y]) + 1,by omega,out ++ [y],v,true,by simp,by simp,hmore.trans (zhU h hn),by simp; omega,rfl⟩
        by_cases hlt:r < 2
        · have d2:decide ((r:Int) < 2)=true:=by simp; omega
          have wr:=zM (k:=r) (by omega)
          cases f
          · simp only [go_sem,d2]
            refine zy [0,1,7,8,9,10] 1 (fun n st=>∃ (k v:Nat) (f:Bool) (out':List Id),k + n=20∧zDO l c out f (zgf r k) out' ∧
              st=⟨mkE .top [(0,.list (l.map cE)),(1,.int .i64 c),(7,.arr 0 v),(8,.bool f),(9,.int .i64 r),(10,.int .i64 ((k + 1:Nat):Int))],[.arr v true false 29 2 (out'.map cId)]⟩) 20 (by simp [hx]) (by simp) ?_ ?_
            · refine ⟨0,v2,false,out',by omega,hseen,?_⟩
              simp [zh,go_sem,ze,zf,pos,yaa]
            · rintro n3 st ⟨k,v3,f,o3,hk,hs3,rfl⟩
              have wk:=zM (k:=k + 1) (by omega)
              by_cases hk20:k < 20
              · have d20:decide (((k + 1:Nat):Int)≤20)=true:=by simp; omega
                cases f
                · obtain ⟨e1,e2⟩:=hs3.1 rfl
                  subst e1
                  have hup:=zyj r k
                  have hless:∀ y,zdr l c o3 y=true→Zi y ⟨r,((k + 1:Nat):Int)⟩=false:=fun y hy=>by
                    cases e:Zi y ⟨r,((k + 1:Nat):Int)⟩
                    · rfl
                    · have:=e2 y (zr8 (zej h hy) e)
                      rw [hy] at this; cases this
                  simp only [go_sem,d20]
                  refine zc (.pureE (ZT l ⟨r,((k + 1:Nat):Int)⟩ (by omega)) (by simp [go_sem,cId])) ?_
                  have hq:cId ⟨r,((k + 1:Nat):Int)⟩ = [.int .i64 r,.int .i64 ((k + 1:Nat):Int)]:=rfl
                  rw [← hq]
                  generalize hqd:(⟨r,((k + 1:Nat):Int)⟩:Id)=q at *
                  have skip:zdr l c o3 q=false→zDO l c o3 false (zgf r (k + 1)) o3:=fun hcq=>⟨fun _=>⟨rfl,fun y hy=>by
                    rw [hup,yai] at hy
                    rcases hy with hy | hy
                    · exact e2 y hy
                    · simp at hy; subst hy; exact hcq⟩,by simp⟩
                  by_cases hz0:0≤zG l q
                  · obtain ⟨i,f1,f2,f3⟩:=z7 hz0
                    have hg:l[i]? = some (nth l i):=zk _ _ f2
                    have i0:(0:Int)≤(i:Int):=by omega
                    have hcb:zdr l c o3 q=(zan (nth l i).c c && !zaG o3 q && zhR l c o3 q):=by
                      simp [zdr,f1]
                    simp only [go_sem,f1,i0,f2,hg,cE]
                    refine zc (.pureE (ze2 (nth l i).c c (h.col07 f2) hc') (by simp [go_sem])) ?_
                    cases h1:zan (nth l i).c c
                    · simp only [go_sem,wk]
                      refine ⟨by simp,n3 - 1,by omega,k + 1,v3,false,o3,by omega,skip (by rw [hcb,h1]; rfl),?_⟩
                      simp [zh,go_sem,ze,zf,pos,yaa]
                    · simp only [go_sem,cId]
                      have hol:o3.length≤1000000040:=by omega
                      refine zc (.scalarE (ze3 o3 q (by omega)) rfl (by simp [go_sem,cId,zt,pos])) ?_
                      cases h2:zaG o3 q
                      · simp only [go_sem]
                        refine zc (.scalarE (zfz l c i o3 h hc f2 (by omega)) rfl (by simp [go_sem,zt,pos])) ?_
                        rw [f3]
                        cases h3:zhR l c o3 q
                        · simp only [go_sem,wk]
                          refine ⟨by simp,n3 - 1,by omega,k + 1,v3,false,o3,by omega,skip (by rw [hcb,h1,h2,h3]; rfl),?_⟩
                          simp [zh,go_sem,ze,zf,pos,yaa]
                        · have hcq:zdr l c o3 q=true:=by rw [hcb,h1,h2,h3]; rfl
                          simp only [go_sem,cId]
                          rw [Zf rfl rfl (by simp) (by simp; omega)]
                          simp only [go_sem,wk]
                          refine ⟨by simp,n3 - 1,by omega,k + 1,v3 + 1,true,o3 ++ [q],by omega,⟨by simp,fun _=>⟨q,(za6 h).2 ⟨hcq,hless⟩,rfl⟩⟩,?_⟩
                          simp [zh,go_sem,ze,zf,pos,yaa,cId]
                      · simp only [go_sem,wk]
                        refine ⟨by simp,n3 - 1,by omega,k + 1,v3,false,o3,by omega,skip (by rw [hcb,h1,h2]; rfl),?_⟩
                        simp [zh,go_sem,ze,zf,pos,yaa]
                  · simp only [go_sem,hz0,wk]
                    refine ⟨by simp,n3 - 1,by omega,k + 1,v3,false,o3,by omega,skip (by simp [zdr,hz0]),?_⟩
                    simp [zh,go_sem,ze,zf,pos,yaa]
                · simp only [go_sem,d20,wr]
                  refine ⟨by simp,n2 - 1,by omega,r + 1,v3,true,o3,by omega,⟨by simp,hs3.2⟩,?_⟩
                  simp [zh,go_sem,ze,zf,pos,yaa]
              · obtain rfl:k=20:=by omega
                have d20:decide (((20 + 1:Nat):Int)≤20)=false:=by simp
                simp only [go_sem,d20,wr]
                refine ⟨by simp,n2 - 1,by omega,r + 1,v3,f,o3,by omega,by rw [zyk]; exact hs3,?_⟩
                simp [zh,go_sem,ze,zf,pos,yaa]
          · simp only [go_sem,d2]
            obtain ⟨n',g1,o,v',b',g2,g3,g4,g5,g6⟩:=hend v2 (.inl rfl)
            refine ⟨by simp,n',g1,o,v',b',g2,g3,g4,g5,?_⟩
            rw [← g6]
            simp [zh,go_sem,ze,zf,pos,yaa]
        · have d2:decide ((r:Int) < 2)=false:=by simp; omega
          simp only [go_sem,d2]
          obtain ⟨n',g1,o,v',b',g2,g3,g4,g5,g6⟩:=hend v2 (.inr (by omega))
          refine ⟨by simp,n',g1,o,v',b',g2,g3,g4,g5,?_⟩
          rw [← g6]
          simp [zh,go_sem,ze,zf,pos,yaa]
def cSi (r:Int) (lg ws:List Entry):List PV := [.int .i64 r,.list (lg.map cE),.list (ws.map cE)]
def zDP (l:List Entry):Prop:=∀ e ∈ l,(e.id.r=0∨e.id.r=1)∧e.ls.length≤1000000
theorem zlW (e:Entry) (hb:e.ls.length≤1000000):zg prog 140 [.agg (cE e)] [] (.agg (cE e)) []:=by
 refine zg.of_walk func140 ntmps140 zoz.1 zoz.2 (by simp) fun x hx=>?_
 simp only [go_sem,zAM,zAN,cE]
 refine zc (.pureE (zgF e.ls (by omega)) (by simp [go_sem])) ?_
 simp only [go_sem,cE]
 refine zd hx ?_
 simp [go_sem,zAM,zAN,cE]
theorem zhc {x : Cx} {nt : Nat} {lrs : List LRes} {r : PV} {Hs' : List AObj} {st : St} (keep : List Nat) (hnd : keep.Nodup) (hlt : ∀ k ∈ keep, x.H0.length ≤ k ∧ k < st.heap.length) (hle : x.H0.length ≤ st.heap.length)
    (h:(zat st lrs).map (fun ps=>zdA true (pos (List.range x.H0.length ++ keep)) (zt true st.heap) (zeV ps))=some r)
    (h2:ze (pos (List.range x.H0.length ++ keep)) (zt true st.heap) st.heap (List.range x.H0.length ++ keep)=Hs'):zli x nt lrs r Hs' .normal st:=by
  obtain ⟨ps,g1,g2⟩:=yad.1 h
  exact ⟨st,keep,za3.refl _ _ _,ps,g1,hnd,hlt,hle,g2.symm,h2.symm⟩
def cEo (e:Entry):List PV := [.int .i64 e.id.r,.int .i64 e.id.n,.int .i64 e.c,.str e.t,.oll (e.ls.map cId)]
theorem zkt (l:List Id) (hb:l.length≤1000000000):zg prog 213 [.oll (l.map cId)] [] (.list (l.map cId)) []:=by
 have h:=(zfu l hb).fresh (args' := [.oll (l.map cId)]) rfl
 have hs:((l.map cId).all fun r=>r.all zaw)=true:=by simp [cId,zaw]
 simp [frS,frA,frL,hs] at h
 exact h
theorem zku (e:Entry) (hb:e.ls.length≤1000000):zg prog 140 [.agg (cEo e)] [] (.agg (cE e)) []:=by
 refine zg.of_walk func140 ntmps140 zoz.1 zoz.2 (by simp) fun x hx=>?_
 simp only [go_sem,zAM,zAN,cEo]
 refine zc (.pureE (zkt e.ls (by omega)) (by simp [go_sem])) ?_
 simp only [go_sem,cE]
 refine zd hx ?_
 simp [go_sem,zAM,zAN,cE]
def zr9 (r:Int) (lg ws:List Entry) (k:Nat):Bool:=(decide (0 < k) && !Zi (nth ws (k - 1)).id (nth ws k).id) || decide ((nth ws k).id.r=r) || decide (0≤zG lg (nth ws k).id) || zbg lg (nth ws k)
def zsa (r:Int) (lg ws:List Entry) (k:Nat):Int:=if zm (nth ws k)≠0 then zm (nth ws k) else if zr9 r lg ws k=true then 4 else 0
def zhV (r:Int) (lg ws:List Entry):Int:=if ¬ (r=0∨r=1) then 3 else if zJ lg≠0 then zJ lg else if 20 < ws.length then 2 else zP (zsa r lg ws) ws.length
theorem zoL {r:Int} {lg ws:List Entry} (h:zhV r lg ws=0):(r=0∨r=1)∧LogOk lg∧ws.length≤20∧∀ k,k < ws.length→zm (nth ws k)=0∧zr9 r lg ws k=false:=by
 unfold zhV at h
 split at h
 ·
  cases h
 ·
  rename_i h1
  split at h
  ·
   rename_i h2; exact (h2 h).elim
  ·
   rename_i h2
   split at h
   ·
    cases h
   ·
    rename_i h3
    refine ⟨by omega,zaE.1 (by simpa using h2),by omega,fun k hk=>?_⟩
    have:=zai.1 h k hk
    unfold zsa at this
    split at this
    ·
     rename_i h4; exact (h4 this).elim
    ·
     rename_i h4
     split at this
     ·
      cases this
     ·
      rename_i h5
      exact ⟨by simpa using h4,by simpa using h5⟩
theorem zsb {e:Entry} (h:zm e=0):(e.id.r=0∨e.id.r=1)∧e.ls.length≤1000000:=by
 have:=(zV h).2.2.2.1
 exact ⟨za4 h,by omega⟩
theorem zsc {lg:List Entry} (h:LogOk lg):zDP lg:=fun e he=>by
 obtain ⟨k,hk,rfl⟩:=yaq he
 rw [← zv _ _ hk]
 exact zsb (h.chk k hk)
def zEc (s:Int × List Entry × List Entry):List PV:=cSi s.1 s.2.1 s.2.2
theorem zhW (a:Id):Zi a a=false:=by simp [Zi]
def upE (ws:List Entry):Prop:=∀ i j,i < j→j < ws.length→Zi (nth ws i).id (nth ws j).id=true
theorem zAX {ws:List Entry} (h:∀ k,k + 1 < ws.length→Zi (nth ws k).id (nth ws (k + 1)).id=true):upE ws:=by
 intro i j hij hj
 have key:∀ d,i + d + 1 < ws.length→Zi (nth ws i).id (nth ws (i + d + 1)).id=true:=by
  intro d
  induction d with
  | zero=>intro hd; exact h i hd
  | succ d ih=>intro hd; exact zcs (ih (by omega)) (h (i + d + 1) hd)
 have:=key (j - i - 1) (by omega)
 rwa [show i + (j - i - 1) + 1=j by omega] at this
theorem zuK {r:Int} {lg ws:List Entry} (h:zhV r lg ws=0):upE ws:=by
 obtain ⟨-,-,-,hc⟩:=zoL h
 refine zAX fun k hk=>?_
 have:=(hc (k + 1) hk).2
 unfold zr9 at this
 simp only [Bool.or_eq_false_iff,ybX] at this
 have h2:=this.1.1.1
 simpa using h2
def zCq (l:List Entry) (y:Id):Nat:=l.countP fun e=>Zi e.id y
theorem zyq (l:List Entry) (y:Id):zCq l y≤l.length:=by unfold zCq; exact List.countP_le_length
theorem zp2 (l:List Entry) (c:Int) (h:LogOk l) (hc:ZI c 1 7=true):zg prog 104 [.oll (l.map cE),.int .i64 c] [] (.list ((zb6 (zbG l c)).map cId)) []:=by
 have hm:=h.len
 have hle:=zbk l c
 refine zg.of_fresh func104 ntmps104 zor.1 zor.2 (by simp) fun x hx=>?_
 simp only [go_sem,zAx,zAy]
 refine zc (.pureE (zaj l h) (by simp [go_sem])) ?_
 simp only [go_sem,zj]
 refine zc (.pureE (zc9 l c h hc) (by simp [go_sem])) ?_
 simp only [go_sem]
 refine zaM (ZR 7 0 29 2 true false rfl (by omega)) ?_
 refine zy [5,6,7,15,16,17] 2 (fun n st=>∃ k v:Nat,k + n=(zL l c).length ∧
  st=⟨mkE .top [(5,.ptr 0 0),(6,.list ((zL l c).map cE)),(7,.arr 1 v),(15,.list ((zL l c).map cE)),(16,.int .i64 (zL l c).length),(17,.int .i64 k)],
   [.box [zj l (zQ l)],.arr v true false 29 2 ((((zL l c).take k).filter fun e => !zbF l c e).map (·.id) |>.map cId)]⟩) (zL l c).length (by simp [hx]) (by simp [St.put]) ?_ ?_
 ·
  refine ⟨0,0,by omega,?_⟩
  simp [zh,go_sem,ze,zf,pos,yaa,zj]
 ·
  rintro n st ⟨k,v,hk,rfl⟩
  by_cases hlt:k < (zL l c).length
  ·
   have hg:(zL l c)[k]? = some (nth (zL l c) k):=zk _ _ hlt
   have wk:=zM (k:=k) (by omega)
   have hw:=zhK (l:=l) (c:=c) hlt
   have hle2:((((zL l c).take k).filter fun e => !zbF l c e).map (·.id)).length≤40:=by
    rw [yah]
    refine yaP (ybj _ _) ?_
    rw [yaz]; omega
   simp only [go_sem,hlt,hg,cE]
   have hcf:=zdU (zL l c) 175 [.ptr 0 0,.ptr 1 0] [.box [zj l (zQ l)],.box (cE (nth (zL l c) k))] (fun f=>zaG (z8 (zQ l) l f.id) (nth (zL l c) k).id) (by kernel_rfl) (by omega) (zrZ _ _ _) (fun f hf=>by
    obtain ⟨j,hj,rfl⟩:=zhL hf
    have e:=h.find hj
    exact zjt l (zQ l) _ _ (by omega) (by omega) (by simp [zQ]; omega) (by rw [Z7,e,yaB]; have:=za5 h hj; omega))
   refine zc (.heapE [0,2] (r' := .bool (zbF l c (nth (zL l c) k))) (H' := [.box [zj l (zQ l)],.arr v true false 29 2 ((((zL l c).take k).filter fun e => !zbF l c e).map (·.id) |>.map cId),.box (cE (nth (zL l c) k))]) hcf
    (by simp) (by simp) (by simp [go_sem,pos]) (by simp [ze,zf,go_sem,pos,cE,zj]) rfl (by simp [ZN,zS,zT,zf,pos,go_sem,yaa,ZV,Zh,cE,zj])) ?_
   cases hu:zbF l c (nth (zL l c) k)
   ·
    rw [hu] at hw
    simp only [go_sem,cE]
    rw [Zf rfl rfl (by simp) (by simp at hle2 ⊢; omega)]
    simp only [go_sem,wk]
    refine ⟨by simp,n - 1,by omega,k + 1,v + 1,by omega,?_⟩
    rw [hw]
    simp [zh,go_sem,ze,zf,pos,yaa,cId,zj]
   ·
    rw [hu] at hw
    simp only [go_sem,wk]
    refine ⟨by simp,n - 1,by omega,k + 1,v,by omega,?_⟩
    rw [hw]
    simp [zh,go_sem,ze,zf,pos,yaa,cId,zj]
  ·
   have:(zL l c).take k=zL l c:=yan (by omega)
   have hle2:(zbG l c).length≤40:=by
    unfold zbG
    rw [yah]
    refine yaP (ybj _ _) ?_
    omega
   simp only [go_sem,hlt,this]
   have hso:=zb7 (zbG l c) v 29 (by omega)
   refine zc (.heapE [1] (r' := .tup []) (H' := [.box [zj l (zQ l)],.arr v true false 29 2 ((zb6 (zbG l c)).map cId)]) hso
    (by simp) (by simp) (by simp [go_sem,pos]) (by simp [ze,zf,go_sem,pos,zbG]) rfl (by simp [ZN,zS,zT,zf,pos,go_sem,yaa,ZV,Zh,zj])) ?_
   simp only [go_sem]
   refine zbD ?_
   simp [go_sem,zAx,zAy,frS,frA,frL,zaw,cId]
theorem ze5 (l:List Entry) (x:Id) (hm:l.length≤9223372036854775806):zg prog 105 [.oll (l.map cE),.agg (cId x)] [] (.int .i64 (zG l x)) []:=(zaL l x hm).freshS rfl rfl
theorem zdt (l:List Entry) (hl:l.length≤9223372036854775806):zg prog 45 [.list (l.map cE),.list (l.map cE)] [] (.bool true) []:=by
 refine zg.of_walk func45 ntmps45 zzW.1 zzW.2 (by simp) fun x hx=>?_
 simp only [go_sem,L45,R45]
 refine zy [0,1,5] 0 (fun n st=>∃ k:Nat,k + n=l.length ∧
  st=⟨mkE .top [(0,.list (l.map cE)),(1,.list (l.map cE)),(5,.int .i64 k)],[]⟩) l.length (by simp [hx]) (by simp) ?_ ?_
 ·
  refine ⟨0,by omega,?_⟩
  simp [zh,go_sem,ze,zf,pos]
 ·
  rintro n st ⟨k,hk,rfl⟩
  by_cases hlt:k < l.length
  ·
   have hg:l[k]? = some (nth l k):=zk _ _ hlt
   have wk:=zM (k:=k) (by omega)
   have hs:zkg (nth l k) (nth l k)=true:=by simp [zkg]
   simp only [go_sem,hlt,hg,cE]
   refine zc (.pureE (zdW (nth l k) (nth l k)) (by simp [go_sem,cE])) ?_
   rw [hs]
   simp only [go_sem,wk]
   repeat refine ⟨rfl,?_⟩
   refine ⟨by simp,n - 1,by omega,k + 1,by omega,?_⟩
   simp [zh,go_sem,ze,zf,pos]
  ·
   simp only [go_sem,hlt]
   refine zd hx ?_
   simp [go_sem,L45,R45]
theorem zjC {l:List Entry} {k:Nat} (h:k < l.length):l.take (k + 1)=l.take k ++ [nth l k]:=by rw [yaE h,zv _ _ h]
def e0:Entry:=⟨⟨0,1⟩,1,BA [112,117,116,32,97,32,120],[]⟩
def e1:Entry:=⟨⟨1,1⟩,3,BA [112,117,116,32,97,32,121],[]⟩
def e2:Entry:=⟨⟨0,2⟩,3,BA [100,114,111,112,32,97],[⟨0,1⟩]⟩
def e3:Entry:=⟨⟨1,2⟩,2,BA [112,117,116,32,98,32,122],[⟨0,2⟩,⟨1,1⟩]⟩
def cE0 (e:Entry):List PV := [.int .i64 e.id.r,.int .i64 e.id.n,.int .i64 e.c,.str e.t,if e.ls = [] then .nilsl else .list (e.ls.map cId)]
theorem ZE:zg prog 43 [] [] (.list [cE e0,cE e1,cE e2,cE e3]) []:=by
 refine zg.nl (r := .list [cE0 e0,cE0 e1,cE0 e2,cE0 e3]) 4 ?_ (by simp [nlN,cE0,cE,cId,e0,e1,e2,e3])
 refine zg.of_walk func43 ntmps43 zzV.1 zzV.2 (by simp) fun x hx=>?_
 simp only [go_sem,L43,R43]
 iterate 7
  refine zc (.pure (Zx _ _)) ?_
  simp only [go_sem]
 refine zd hx ?_
 simp [go_sem,L43,R43,cE0,cId,e0,e1,e2,e3,BA]
def eL:List Entry := [e0,e1,e2,e3]
theorem zkv:zJ eL=0:=by decide +kernel
theorem zyr:LogOk eL:=zaE.1 zkv
theorem zAY:eL.length=4:=rfl
theorem zys:zcu eL ⟨1,2⟩ = [⟨0,1⟩,⟨0,2⟩,⟨1,1⟩]:=by
 have hp:zbS eL ⟨1,2⟩=0:=by decide +kernel
 have hf:(zG eL ⟨1,2⟩).toNat=3:=by decide +kernel
 rw [zcu,if_pos hp,hf,← zhP zyr (by decide)]
 decide +kernel
theorem zuL:zbl eL 1 = [⟨0,2⟩,⟨1,1⟩]:=by
 have hp:zaX eL 1=0:=by decide +kernel
 rw [zbl,if_pos hp,← zuJ zyr]
 decide +kernel
theorem zlX (a:List Id) (e w:Int) (b:List Id) (ha:a.length≤9223372036854775807):zg prog 31 [.list (a.map cId),.int .i64 e,.int .i64 w,.list (b.map cId)] [] (.bool (decide (e=w) && decide (a=if w=0 then b else []))) []:=by
 refine zg.of_walk func31 ntmps31 zzT.1 zzT.2 (by simp) fun x hx=>?_
 by_cases hw:w=0
 ·
  by_cases he:e=w
  ·
   have he0:e=0:=he.trans hw
   simp only [go_sem,L31,R31,hw,he0]
   refine zc (.pureE (ZS a b ha) (by simp [go_sem])) ?_
   simp only [go_sem]
   refine zd hx ?_
   simp [go_sem,L31,R31]
  ·
   have he0:¬ e=0:=fun h=>he (h.trans hw.symm)
   simp only [go_sem,L31,R31,hw,he0]
   refine zd hx ?_
   simp [go_sem,L31,R31]
 ·
  by_cases he:e=w
  ·
   simp only [go_sem,L31,R31,hw,he]
   refine zc (.pureE (ZS a [] ha) (by simp [go_sem])) ?_
   simp only [go_sem]
   refine zd hx ?_
   simp [go_sem,L31,R31]
  ·
   simp only [go_sem,L31,R31,hw,he]
   refine zd hx ?_
   simp [go_sem,L31,R31]
theorem znp : [cE e0,cE e1,cE e2,cE e3]=eL.map cE:=rfl
theorem ziS:zg prog 20 [] [] (.bool true) []:=by
 have hp:zbS eL ⟨1,2⟩=0:=by decide +kernel
 have hq:zaX eL 1=0:=by decide +kernel
 have hc0:zju eL 0=2:=by decide +kernel
 have hc1:zju eL 1=2:=by decide +kernel
 have hpi:=zys
 have hhi:=zuL
 have hck:=zkv
 have hent:=ZE
 rw [znp] at hent
 refine zg.of_walk func20 ntmps20 zzJ.1 zzJ.2 (by simp) fun x hx=>?_
 simp only [go_sem,L20,R20]
 refine zc (.pure hent) ?_
 simp only [go_sem]
 refine zc (.pure (Zx _ _)) ?_
 simp only [go_sem]
 refine zc (.pureE (zko eL ⟨1,2⟩ (by decide)) (by simp [go_sem,cId])) ?_
 simp only [go_sem,hp,hpi]
 refine zc (.pure hent) ?_
 simp only [go_sem]
 refine zc (.pureE (ziN eL 1 (by decide)) (by simp [go_sem])) ?_
 simp only [go_sem,hq,hhi]
 refine zc (.pure hent) ?_
 simp only [go_sem]
 refine zc (.pureE (ziO eL (by decide)) (by simp [go_sem])) ?_
 simp only [go_sem,hck,hc0,hc1]
 refine zc (.pure hent) ?_
 simp only [go_sem]
 refine zc (.pureE (ZD eL (by decide)) (by simp [go_sem])) ?_
 simp only [go_sem,hck]
 iterate 3
  refine zc (.pure (Zx _ _)) ?_
  simp only [go_sem]
 refine zc (.pureE (ZS [⟨0,1⟩,⟨0,2⟩,⟨1,1⟩] [⟨0,1⟩,⟨0,2⟩,⟨1,1⟩] (by decide)) (by simp [go_sem,cId])) ?_
 simp only [go_sem]
 iterate 2
  refine zc (.pure (Zx _ _)) ?_
  simp only [go_sem]
 refine zc (.pureE (ZS [⟨0,2⟩,⟨1,1⟩] [⟨0,2⟩,⟨1,1⟩] (by decide)) (by simp [go_sem,cId])) ?_
 simp only [go_sem]
 refine zd hx ?_
 simp [go_sem,L20,R20]
theorem zhd {α:Type} [Inhabited α] {l:List α} {n i:Nat} (hi:i < n) (hn:n≤l.length):nth (l.take n) i=nth l i:=by
 rw [zv _ _ (by rw [yaz]; omega),zv _ _ (by omega),List.getElem_take]
theorem LogOk.take {l:List Entry} (h:LogOk l) {n:Nat} (hn:n≤l.length):LogOk (l.take n) where
 len:=by rw [yaz]; have:=h.len; omega
 chk:=fun k hk=>by
  rw [yaz] at hk
  rw [zhd (by omega) hn]; exact h.chk k (by omega)
 new:=fun k hk=>by
  rw [yaz] at hk
  rw [zhd (by omega) hn,List.take_take,Nat.min_eq_left (by omega)]; exact h.new k (by omega)
 num:=fun k hk=>by
  rw [yaz] at hk
  rw [zhd (by omega) hn,List.take_take,Nat.min_eq_left (by omega)]; exact h.num k (by omega)
 lnk:=fun k hk=>by
  rw [yaz] at hk
  rw [zhd (by omega) hn,List.take_take,Nat.min_eq_left (by omega)]; exact h.lnk k (by omega)
theorem zsd {l:List Entry} {i n:Nat} (h:i≤n) (r:Int):zax (l.take i) r≤zax (l.take n) r :=
 List.Sublist.countP_le (List.take_sublist_take_left h)
theorem LogOk.num_le {l:List Entry} (h:LogOk l) {k:Nat} (hk:k < l.length):(nth l k).id.n≤(zax l (nth l k).id.r:Int):=by
 have h1:=h.num k hk
 have h2:=zcq l k (nth l k).id.r hk
 rw [if_pos rfl] at h2
 have h3:=zsd (l:=l) (i:=k + 1) (n:=l.length) (by omega) (nth l k).id.r
 rw [ybF] at h3
 omega
theorem zlY {l:List Entry} {e:Entry}:zbg l e=true↔(zax l e.id.r:Int) + 1=e.id.n∧∀ x ∈ e.ls,0≤zG l x:=by
 simp only [zbg,yat,decide_eq_true_eq,yaQ,yaZ]
 exact ⟨fun ⟨a,b⟩=>⟨a,fun x hx=>by have:=b x hx; omega⟩,fun ⟨a,b⟩=>⟨a,fun x hx=>by have:=b x hx; omega⟩⟩
structure WaitOk (q:Int) (lg ws:List Entry):Prop where
 up:upE ws
 chk:∀ e ∈ ws,zm e=0
 other:∀ e ∈ ws,e.id.r≠q
 new:∀ e ∈ ws,zG lg e.id < 0
theorem zzq {ws:List Entry} {e:Entry}:e ∈ ws↔∃ k,k < ws.length∧nth ws k=e:=by
 constructor
 ·
  intro h
  obtain ⟨k,hk,rfl⟩:=yaq h
  exact ⟨k,hk,zv _ _ hk⟩
 ·
  rintro ⟨k,hk,rfl⟩
  exact zjB hk
theorem zfA {q:Int} {lg ws:List Entry}:zhV q lg ws=0↔(q=0∨q=1)∧LogOk lg∧ws.length≤20∧WaitOk q lg ws∧∀ e ∈ ws,zbg lg e=false:=by
 have hb:∀ k,zr9 q lg ws k=false↔(0 < k→Zi (nth ws (k - 1)).id (nth ws k).id=true)∧(nth ws k).id.r≠q∧zG lg (nth ws k).id < 0∧zbg lg (nth ws k)=false:=by
  intro k
  unfold zr9
  simp only [Bool.or_eq_false_iff,Bool.and_eq_false_iff,decide_eq_false_iff_not,Bool.not_eq_false',and_assoc,Int.not_le]
  constructor
  ·
   rintro ⟨a,b,c,d⟩
   exact ⟨fun hk=>a.resolve_left (by omega),b,c,d⟩
  ·
   rintro ⟨a,b,c,d⟩
   refine ⟨?_,b,c,d⟩
   by_cases hk:0 < k
   ·
    exact .inr (a hk)
   ·
    exact .inl hk
 constructor
 ·
  intro h
  obtain ⟨a,b,c,d⟩:=zoL h
  refine ⟨a,b,c,⟨zuK h,fun e he=>?_,fun e he=>?_,fun e he=>?_⟩,fun e he=>?_⟩
  all_goals
   obtain ⟨k,hk,rfl⟩:=zzq.1 he
   obtain ⟨d1,d2⟩:=d k hk
   have d3:=(hb k).1 d2
  ·
   exact d1
  ·
   exact d3.2.1
  ·
   exact d3.2.2.1
  ·
   exact d3.2.2.2
 ·
  rintro ⟨a,b,c,d,e⟩
  rw [zhV,if_neg (by simp [a]),if_neg (by simp [zaE.2 b]),if_neg (by omega),zai]
  intro k hk
  have hm:=zjB hk
  rw [zsa,if_neg (by simp [d.chk _ hm]),if_neg]
  rw [ybt]
  exact (hb k).2 ⟨fun h0=>d.up (k - 1) k (by omega) hk,d.other _ hm,d.new _ hm,e _ hm⟩
theorem znq {ws:List Entry}:upE ws↔ws.Pairwise fun a b=>Zi a.id b.id=true:=by
 rw [yaT]
 constructor
 ·
  intro h i j hi hj hij
  have:=h i j hij hj
  rwa [zv _ _ hi,zv _ _ hj] at this
 ·
  intro h i j hij hj
  have:=h i j (by omega) hj hij
  rwa [← zv,← zv] at this
theorem zlZ (e:Entry):∀ (l:List Entry) (p:Nat),p≤l.length→l.insertIdx p e=l.take p ++ e :: l.drop p
 | _,0,_=>by simp
 | [],p + 1,h=>by simp at h
 | y :: l,p + 1,h=>by
  simp only [List.insertIdx_succ_cons,ybk,yaJ,yau]
  rw [zlZ e l p (by simpa using h)]
def EId (W:List Entry):Prop:=W.Pairwise fun a b=>a.id≠b.id
theorem EId.inj {W:List Entry} (h:EId W) {a b:Entry} (ha:a ∈ W) (hb:b ∈ W) (e:a.id=b.id):a=b:=by
 obtain ⟨i,hi,rfl⟩:=yaq ha
 obtain ⟨j,hj,rfl⟩:=yaq hb
 have h2:=yaT.1 h
 rcases Nat.lt_trichotomy i j with q | q | q
 ·
  exact (h2 i j hi hj q e).elim
 ·
  subst q; rfl
 ·
  exact (h2 j i hj hi q e.symm).elim
theorem EId.perm {W V:List Entry} (h:EId W) (hp:V.Perm W):EId V:=(hp.pairwise_iff fun {a b} q r=>q r.symm).2 h
theorem LogOk.has_num {l:List Entry} (h:LogOk l) {r n:Int} (h1:1≤n) (h2:n≤(zax l r:Int)):∃ e ∈ l,e.id=⟨r,n⟩:=by
 have key:∀ k,k≤l.length→n≤(zax (l.take k) r:Int)→∃ e ∈ l,e.id=⟨r,n⟩:=by
  intro k
  induction k with
  | zero=>intro _ h; simp [zax] at h; omega
  | succ k ih =>
   intro hk hn
   by_cases hle:n≤(zax (l.take k) r:Int)
   ·
    exact ih (by omega) hle
   ·
    have hs:=zcq l k r (by omega)
    by_cases e:(nth l k).id.r=r
    ·
     have hm:=h.num k (by omega)
     rw [e] at hm
     rw [if_pos e] at hs
     refine ⟨_,zjB (by omega:k < l.length),?_⟩
     have:(nth l k).id.n=n:=by omega
     cases hid:(nth l k).id
     rw [hid] at e this
     simp only at e this
     rw [e,this]
    ·
     rw [if_neg e] at hs
     omega
 exact key l.length (yag _) (by rw [ybF]; exact h2)
theorem zl0 {l:List Entry} {y:Id}:0≤zG l y↔∃ e ∈ l,e.id=y:=by
 constructor
 ·
  intro h
  obtain ⟨k,-,h2,h3⟩:=z7 h
  exact ⟨_,zjB h2,h3⟩
 ·
  rintro ⟨e,he,hy⟩
  by_cases h:zG l y < 0
  ·
   exact (zbh.1 h e he hy).elim
  ·
   omega
structure Settles (lg W A WA u:List Entry):Prop where
 eq:A=lg ++ u
 perm:(u ++ WA).Perm W
 rdy:∀ i,i < u.length→zbg (lg ++ u.take i) (nth u i)=true
theorem Settles.sub {lg W A WA u A' WA' u' : List Entry} (h : Settles lg W A WA u) (h' : Settles lg W A' WA' u') (hA : LogOk A) (hA' : LogOk A') (hn : ∀ e ∈ W, zG lg e.id < 0) (hid : EId W)
    (hfin:∀ e ∈ WA',zbg A' e=false):∀ i,i < u.length→nth u i ∈ u':=by
  intro i
  induction i using Nat.strongRecOn with
  | _ i ih =>
    intro hi
    have hW:nth u i ∈ W:=h.perm.mem_iff.1 (yai.2 (.inl (zjB hi)))
    rcases yai.1 (h'.perm.mem_iff.2 hW) with q | q
    · exact q
    · have hr:=hfin _ q
      have hrd:=zlY.1 (h.rdy i hi)
      have hin:∀ e ∈ lg ++ u.take i,e ∈ A':=fun e he=>by
        rw [h'.eq]
        rcases yai.1 he with z | z
        · exact yai.2 (.inl z)
        · rw [ybH] at z
          obtain ⟨j,hj,rfl⟩:=z
          rw [← zv _ _ (by omega)]
          exact yai.2 (.inr (ih j (by omega) (by omega)))
      have hpre:LogOk (lg ++ u.take i):=by
        have:=hA.take (n:=lg.length + i) (by rw [h.eq]; simp; omega)
        rwa [h.eq,List.take_length_add_append] at this
      have hbad:zbg A' (nth u i)=true∨nth u i ∈ u':=by
        by_cases hc:(nth u i).id.n≤(zax A' (nth u i).id.r:Int)
        · obtain ⟨y,hy,hye⟩:=hA'.has_num (r:=(nth u i).id.r) (n:=(nth u i).id.n) (by omega) hc
          have hye2:y.id=(nth u i).id:=hye
          rw [h'.eq] at hy
          rcases yai.1 hy with z | z
          · exact (zbh.1 (hn _ hW) y z hye2).elim
          · have:=hid.inj (h'.perm.mem_iff.1 (yai.2 (.inl z))) hW hye2
            exact .inr (this ▸ z)
        · left
          refine zlY.2 ⟨?_,fun y hy=>?_⟩
          · have hge:(zax (lg ++ u.take i) (nth u i).id.r:Int)≤(zax A' (nth u i).id.r:Int):=by
              by_cases h0:zax (lg ++ u.take i) (nth u i).id.r=0
              · omega
              · obtain ⟨y,hy,hye⟩:=hpre.has_num (r:=(nth u i).id.r) (n:=(zax (lg ++ u.take i) (nth u i).id.r:Int)) (by omega) (yaO _)
                obtain ⟨k,hk,rfl⟩:=zzq.1 (hin y hy)
                have:=hA'.num_le hk
                rw [hye] at this
                exact this
            omega
          · obtain ⟨z,hz,hze⟩:=zl0.1 (hrd.2 y hy)
            exact zl0.2 ⟨z,hin z hz,hze⟩
      rcases hbad with z | z
      · rw [z] at hr; cases hr
      · exact z
theorem zw8:∀ {l m:List Entry},(l.Pairwise fun a b=>Zi a.id b.id=true)→(m.Pairwise fun a b=>Zi a.id b.id=true)→(∀ x,x ∈ l↔x ∈ m)→l=m
 | [],[],_,_,_=>rfl
 | [],y :: m,_,_,h=>by have:=(h y).2 (by simp); simp at this
 | x :: l,[],_,_,h=>by have:=(h x).1 (by simp); simp at this
 | x :: l,y :: m,h1,h2,h=>by
  have h1':=ya7.1 h1
  have h2':=ya7.1 h2
  have hxy:x=y:=by
   rcases yaN.1 ((h x).1 (by simp)) with e | e
   ·
    exact e
   rcases yaN.1 ((h y).2 (by simp)) with e' | e'
   ·
    exact e'.symm
   have:=zcs (h1'.1 y e') (h2'.1 x e)
   rw [zhW] at this; cases this
  subst hxy
  rw [zw8 h1'.2 h2'.2 fun z=>?_]
  constructor
  ·
   intro hz
   rcases yaN.1 ((h z).1 (by simp [hz])) with e | e
   ·
    subst e; have:=h1'.1 z hz; rw [zhW] at this; cases this
   ·
    exact e
  ·
   intro hz
   rcases yaN.1 ((h z).2 (by simp [hz])) with e | e
   ·
    subst e; have:=h2'.1 z hz; rw [zhW] at this; cases this
   ·
    exact e
theorem zse {u v:List Entry} (h:∀ i,i < u.length→nth u i ∈ v):∀ e ∈ u,e ∈ v:=fun e he=>by
 obtain ⟨k,hk,rfl⟩:=zzq.1 he
 exact h k hk
theorem zw9 {A A':List Entry} (hA:LogOk A) (hA':LogOk A') (h:∀ e ∈ A,e ∈ A') (r:Int):zax A r≤zax A' r:=by
 by_cases h0:zax A r=0
 ·
  omega
 ·
  obtain ⟨y,hy,hye⟩:=hA.has_num (r:=r) (n:=(zax A r:Int)) (by omega) (yaO _)
  obtain ⟨k,hk,rfl⟩:=zzq.1 (h y hy)
  have:=hA'.num_le hk
  rw [hye] at this
  simp only at this
  omega
theorem Settles.same {q : Int} {lg W A WA u A' WA' u' : List Entry} (h : Settles lg W A WA u) (h' : Settles lg W A' WA' u') (hn : ∀ e ∈ W, zG lg e.id < 0) (hid : EId W) (hs : zhV q A WA = 0) (hs' : zhV q A' WA' = 0) :
    (∀ r,zax A r=zax A' r)∧WA=WA':=by
  obtain ⟨-,o,-,w,f⟩:=zfA.1 hs
  obtain ⟨-,o',-,w',f'⟩:=zfA.1 hs'
  have s1:=zse (h.sub h' o o' hn hid f')
  have s2:=zse (h'.sub h o' o hn hid f)
  have a1:∀ e ∈ A,e ∈ A':=fun e he=>by
    rw [h.eq] at he; rw [h'.eq]
    rcases yai.1 he with z | z
    · exact yai.2 (.inl z)
    · exact yai.2 (.inr (s1 e z))
  have a2:∀ e ∈ A',e ∈ A:=fun e he=>by
    rw [h'.eq] at he; rw [h.eq]
    rcases yai.1 he with z | z
    · exact yai.2 (.inl z)
    · exact yai.2 (.inr (s2 e z))
  refine ⟨fun r=>Nat.le_antisymm (zw9 o o' a1 r) (zw9 o' o a2 r),zw8 (znq.1 w.up) (znq.1 w'.up) fun x=>?_⟩
  have n1:=ybf.1 (hid.perm h.perm)
  have n2:=ybf.1 (hid.perm h'.perm)
  constructor
  · intro hx
    rcases yai.1 (h'.perm.mem_iff.2 (h.perm.mem_iff.1 (yai.2 (.inr hx)))) with z | z
    · exact (n1.2.2 x (s2 x z) x hx rfl).elim
    · exact z
  · intro hx
    rcases yai.1 (h.perm.mem_iff.2 (h'.perm.mem_iff.1 (yai.2 (.inr hx)))) with z | z
    · exact (n2.2.2 x (s1 x z) x hx rfl).elim
    · exact z
theorem Settles.trans {lg W A WA u B WB v:List Entry} {e:Entry} (h:Settles lg W A WA u) (h2:Settles A (WA.insertIdx (zCq WA e.id) e) B WB v):Settles lg (e :: W) B WB (u ++ v):=by
 refine ⟨by rw [h2.eq,h.eq,ybb],?_,fun i hi=>?_⟩
 ·
  have p1:(WA.insertIdx (zCq WA e.id) e).Perm (e :: WA):=by
   rw [zlZ e _ _ (zyq ..)]
   refine List.perm_middle.trans (List.Perm.cons _ ?_)
   rw [ybG]
  have p2:(v ++ WB).Perm (e :: WA):=h2.perm.trans p1
  rw [ybb]
  refine (List.Perm.append_left u p2).trans (List.perm_middle.trans (List.Perm.cons _ h.perm))
 ·
  by_cases hlt:i < u.length
  ·
   rw [List.take_append_of_le_length (by omega),zv _ _ hi,List.getElem_append_left hlt,← zv _ _ hlt]
   exact h.rdy i hlt
  ·
   have hi2:i - u.length < v.length:=by rw [yaR] at hi; omega
   have:=h2.rdy (i - u.length) hi2
   rw [h.eq] at this
   rw [zv _ _ hi,List.getElem_append_right (by omega),← zv _ _ hi2]
   rw [List.take_append,yan (by omega),← ybb]
   exact this
def there (lg ws:List Entry) (y:Id):Prop:=∃ x,(x ∈ lg∨x ∈ ws)∧x.id=y
theorem WaitOk.len {q:Int} {lg ws:List Entry} (hq:q=0∨q=1) (h:WaitOk q lg ws):ws.length≤20:=by
 have hb:∀ e ∈ ws,(e.id.r=0∨e.id.r=1)∧1≤e.id.n∧e.id.n < 21:=fun e he=>by
  have:=(zV (h.chk e he)).1
  simp only [zcS,yat,zY] at this
  omega
 have hp:(ws.map fun e=>e.id.n).Pairwise (· < ·):=by
  rw [yca,yaT]
  intro i j hi hj hij
  have h1:=(yaT.1 (znq.1 h.up)) i j hi hj hij
  have m1:=yaw hi
  have m2:=yaw hj
  have b1:=hb _ m1
  have b2:=hb _ m2
  have o1:=h.other _ m1
  have o2:=h.other _ m2
  simp only [Zi,decide_eq_true_eq] at h1
  omega
 have:=zki _ 1 21 hp (fun x hx=>by
  obtain ⟨e,he,rfl⟩:=yaG.1 hx
  have:=hb e he
  omega) (by omega)
 rw [yah] at this
 omega
structure Wo where
 p:List Entry
 u:List Entry
 q:List Entry
 v:List Entry
 a:List Entry
 b:List Entry
def Wo.log (w:Wo) (i:Int):List Entry:=if i=0 then w.p else w.q
def Wo.wts (w:Wo) (i:Int):List Entry:=if i=0 then w.u else w.v
def Wo.way (w:Wo) (i:Int):List Entry:=if i=0 then w.a else w.b
abbrev Si:=Int × List Entry × List Entry
def Wo.ss (w:Wo):List Si := [(0,w.p,w.u),(1,w.q,w.v)]
def Wo.ys (w:Wo):List (List Entry) := [w.a,w.b]
def ztE (w:Wo) (e:Entry):Prop:=e ∈ w.log e.id.r
structure WoOk (w:Wo):Prop where
 s0:zhV 0 w.p w.u=0
 s1:zhV 1 w.q w.v=0
 la:w.a.length≤30
 lb:w.b.length≤30
 ca:∀ e ∈ w.a,zm e=0
 cb:∀ e ∈ w.b,zm e=0
 ba:∀ e ∈ w.a,ztE w e
 bb:∀ e ∈ w.b,ztE w e
 bp:∀ e ∈ w.p,ztE w e
 bu:∀ e ∈ w.u,ztE w e
 bq:∀ e ∈ w.q,ztE w e
 bv:∀ e ∈ w.v,ztE w e
theorem zl1 {e:Entry} (h:zm e=0):e.id.r=0∨e.id.r=1:=za4 h
theorem LogOk.mem_chk {l:List Entry} (h:LogOk l) {e:Entry} (he:e ∈ l):zm e=0:=by
 obtain ⟨k,hk,rfl⟩:=zzq.1 he
 exact h.chk k hk
theorem zAZ {r:Int} {lg ws:List Entry} (h:zhV r lg ws=0):∀ e,e ∈ lg∨e ∈ ws→e.id.r=0∨e.id.r=1:=fun e he=>by
 obtain ⟨-,a,-,b,-⟩:=zfA.1 h
 rcases he with q | q
 ·
  exact zl1 (a.mem_chk q)
 ·
  exact zl1 (b.chk e q)
theorem WoOk.si {w:Wo} (h:WoOk w) {i:Int} (hi:i=0∨i=1):zhV i (w.log i) (w.wts i)=0:=by
 rcases hi with rfl | rfl
 ·
  exact h.s0
 ·
  exact h.s1
theorem WoOk.bw {w:Wo} (h:WoOk w) {i:Int} (hi:i=0∨i=1):∀ e ∈ w.wts i,ztE w e:=by
 rcases hi with rfl | rfl
 ·
  exact h.bu
 ·
  exact h.bv
theorem WoOk.log {w:Wo} (h:WoOk w) {i:Int} (hi:i=0∨i=1):LogOk (w.log i):=(zfA.1 (h.si hi)).2.1
theorem ztE.reg {w:Wo} (h:WoOk w) {e:Entry} (hb:ztE w e):e.id.r=0∨e.id.r=1:=by
 unfold ztE Wo.log at hb
 split at hb
 ·
  exact .inl ‹_›
 ·
  exact zAZ h.s1 e (.inl hb)
def cYs (ys:List (List Entry)):List (List PV):=ys.map fun l => [PV.list (l.map cE)]
def cWd (ss:List Si) (ys:List (List Entry)):List PV := [.list (ss.map zEc),.list (cYs ys)]
theorem zfB {x:Cx} {nt:Nat} {st st1 st2:St} (h:st=st1) (hw:za3 x nt st1 st2):za3 x nt st st2:=h ▸ hw
def cWo (w:Wo):List PV:=cWd w.ss w.ys
def hS2 (w0 w:Wo):List AObj := [.box (cWo w0),.box [.nilsl,.nilsl],.box [.arr 3 2,.arr 4 2],.arr 2 true false 36 3 (w.ss.map zEc),.arr 2 true true 34 1 [[.arr 5 w0.a.length],[.arr 6 w0.b.length]],.arr w0.a.length true false 32 5 (w.a.map cE),.arr w0.b.length true false 32 5 (w.b.map cE)]
def noC (C:Conc):Conc := { C with old:=fun _ _=>False }
def zoM:PV→Bool
 | .agg cs=>cs.all PV.isPure
 | p=>p.isPure
theorem zp3 {S S':Nat→Nat→Prop} {w:World} {C C':Conc} (hS:∀ b o,S b o→S' b o) {p:PV} {v:Value} (hp:zoM p=true) (h:RepV S w C p v):RepV S' w C' p v:=by
 cases p
 case agg cs =>
  obtain ⟨vs,rfl,hl,h1,h2⟩:=h.agg_inv
  exact .agg cs vs hl h1 fun j p u hj hu => .pure (((h2 j p u hj hu).pureOf (yar.1 hp p (yaf hj))).mono hS fun _ _ _=>rfl)
 all_goals exact .pure ((h.pureOf hp).mono hS fun _ _ _=>rfl)
theorem zg.of_newW {P : Program} {f : Nat} {fn : Func} {lc : LC} {lrs : List LRes} {args : List PV} {r : PV} {nt : Nat} (hf : P.funcs[f]? = some fn) (hnt : fn.ntmps = nt) (hlc : (fn.body.bind (zq P nt)) = some lc) (hres : ZC P fn.results.toList = some lrs)
    (hargs:args.length≤nt) (hpl:args.all zoM=true) (h:∀ x:Cx,x.H0 = []→(∀ b o,¬ x.C0.old b o)→W P x nt lc (zzl x nt lrs r) ⟨mkE .undef (zmL 0 args),[]⟩):zg P f args [] r []:=by
  intro x vs hx hr hp
  have hn:∀ b o,zk5 x.C0 [] b o:=fun b o i ob hi=>by simp at hi
  have h1:HR ⟨x.w0,fun b o=>zu x x.C0 [] x.w0 b o,noC x.C0,[]⟩ (noC x.C0) [] x.w0 :=
    ⟨hr.n,fun i ob h=>by simp at h,fun i i' ob ob' b h=>by simp at h,fun i ob b h=>by simp at h,fun b o h=>⟨h.2.1,fun i ob hi=>by simp at hi,rfl⟩,yag _,rfl,rfl,rfl,fun _ _ _=>rfl,yag _,fun _ _=>rfl,fun _ _ => .inl ⟨rfl,rfl⟩,fun b o h=>h.elim,fun _ _ h=>h,fun _ _ h=>h⟩
  have hp1:zmK (zu ⟨x.w0,fun b o=>zu x x.C0 [] x.w0 b o,noC x.C0,[]⟩ (noC x.C0) [] x.w0) x.w0 (noC x.C0) args vs.toList :=
    ⟨hp.1,fun j p u hj hu=>zp3 (fun b o h=>⟨.inl h,h.2.1,fun i ob hi=>by simp at hi⟩) (yar.1 hpl p (yaf hj)) (hp.2 j p u hj hu)⟩
  obtain ⟨c,hb,hlc⟩:=ybo.1 hlc
  have hvl:vs.size=args.length:=by have:=hp1.1; simpa using this
  have hal:args.length≤nt:=hargs
  have hno:∀ b o,¬ (noC x.C0).old b o:=fun b o h=>h
  refine calls_of_wp hf hb ?_
  generalize hx1:(⟨x.w0,fun b o=>zu x x.C0 [] x.w0 b o,noC x.C0,[]⟩:Cx)=x1 at *
  have hH0:x1.H0 = []:=by rw [← hx1]
  have hw0:x1.w0=x.w0:=by rw [← hx1]
  have hC0:x1.C0=noC x.C0:=by rw [← hx1]
  have hrel:=zkb (fn:=fn) hnt hal h1 hp1
  have fin:∀ st a w,(∃ st',za3 x1 nt st st'∧(zat st' lrs).map (fun ps=>frS st'.heap (zeV ps))=some r)→Rel x1 nt st a w→a.defers = []∧∃ v,(results fn a.tmps).run P w = .ok v w∧∃ v1 C',Ending.returned v = .returned v1∧HR x C' [] w∧RepV (zu x C' [] w) w C' r v1:=by
    intro st a w ⟨st',hwk,hq⟩ hrel
    obtain ⟨ps,g1,g2⟩:=yad.1 hq
    replace hrel:=hwk a w hrel
    obtain ⟨⟨C,hr1,he⟩,hdf,hsz⟩:=hrel
    obtain ⟨us,k1,k2⟩:=zay hr1 he hres g1
    refine ⟨hdf,if h:us.toArray.size=1 then us.toArray[0] else .tuple us.toArray,?_,if h:us.toArray.size=1 then us.toArray[0] else .tuple us.toArray,x.C0,rfl,?_⟩
    · have hm:(fn.results.mapM (zbW a.tmps)).run P w = .ok us.toArray w:=by
        rw [ybz]
        simp [k1]
      have hq:results fn a.tmps=(do let vs ← fn.results.mapM (zbW a.tmps); pure (if h:vs.size=1 then vs[0] else .tuple vs)):=rfl
      rw [hq,yal,hm,Result.andThen_ok,yay]
    · obtain ⟨q1,-,-⟩:=hr.grow (w':=w) ⟨by rw [← hw0]; exact hr1.size,by rw [← hw0]; exact hr1.os,by rw [← hw0]; exact hr1.tape,by rw [← hw0]; exact hr1.output,fun b hb _=>by
        rw [← hw0]; exact hr1.frame b (by rw [hw0]; exact hb) fun i ob h=>by rw [hH0] at h; simp at h⟩
      refine ⟨q1,?_⟩
      rw [← g2]
      exact znc hr1 hH0 (fun b o a1 a2 a3=>⟨.inr ⟨.inl (by rw [← hw0]; exact a1),a3⟩,a2,hn b o⟩) (zc1 k2)
  refine wp_mono (h x1 hH0 (by rw [hC0]; exact hno) c (by rw [hnt] at *; exact hlc) _ _ hrel) fun e a w hq=>?_
  cases e with
  | normal=>obtain ⟨st,g1,g2⟩:=hq; exact fin st a w g1 g2
  | ret=>obtain ⟨st,g1,g2⟩:=hq; exact fin st a w g1 g2
  | exit id=>obtain ⟨st,g1,g2⟩:=hq; exact g1.elim
  | goto l=>exact hq.elim
  | panic ch=>exact hq.elim
  | outgrown=>exact hq.elim
theorem zg.of_newL {P : Program} {f : Nat} {fn : Func} {lc : LC} {lrs : List LRes} {args : List PV} {r : PV} {nt : Nat} (hf : P.funcs[f]? = some fn) (hnt : fn.ntmps = nt) (hlc : (fn.body.bind (zq P nt)) = some lc) (hres : ZC P fn.results.toList = some lrs)
    (hargs:args.length≤nt) (hpl:args.all zoM=true) (h:∀ x:Cx,x.H0 = []→(∀ b o,¬ x.C0.old b o)→WL P x nt lc.flat (zzl x nt lrs r) ⟨mkE .undef (zmL 0 args),[]⟩):zg P f args [] r [] :=
  zg.of_newW hf hnt hlc hres hargs hpl fun x hx ho=>zjj (h x hx ho)
def thenS [K:BxK] (Q:AE→St→Prop):AE→St→Prop
 | .normal,st=>K.k st
 | .exit id,st=>Q (.exit id) st
 | .ret,st=>Q .ret st
theorem zuM (st:St) (live:List Nat):st.keep live=⟨mkE .top (live.map fun t=>(t,st.env t)),st.heap⟩:=by
 simp only [St.keep,St.mk.injEq,and_true]
 funext t
 induction live with
 | nil=>simp [mkE]
 | cons k live ih =>
  simp only [yaA,mkE]
  by_cases e:k=t
  ·
   subst e; simp
  ·
   rw [if_neg e,← ih]
   simp [Ne.symm e]
/-! ### what a state is behind a spoiling,piece by piece -/
def ziT:List Nat→(Nat→PV)→(List (Nat × PV)→Prop)→Prop
 | [],_,K=>K []
 | t :: ts,e,K=>∀ q,zaR (e t) q→ziT ts e fun r=>K ((t,q) :: r)
def zhX:List PV→(List PV→Prop)→Prop
 | [],K=>K []
 | p :: ps,K=>∀ q,zaR p q→zhX ps fun r=>K (q :: r)
def zyt (rows rows':List (List PV)):Prop :=
 rows'.length=rows.length∧∀ (k:Nat) (r r':List PV),rows[k]? = some r→rows'[k]? = some r'→r'.length=r.length∧∀ (j:Nat) (p p':PV),r[j]? = some p→r'[j]? = some p'→zaR p p'
def zp4:AObj→(AObj→Prop)→Prop
 | .box cs,K=>zhX cs fun cs'=>K (.box cs')
 | .arr v st ipu T sz rows,K=>∀ rows',zyt rows rows'→K (.arr v st ipu T sz rows')
 | .gone,K=>K .gone
def zhY:List AObj→(List AObj→Prop)→Prop
 | [],K=>K []
 | ob :: H,K=>zp4 ob fun ob'=>zhY H fun H'=>K (ob' :: H')
theorem zoN {e e':Nat→PV} (h:∀ t,zaR (e t) (e' t)):∀ (live:List Nat) {K:List (Nat × PV)→Prop},ziT live e K→K (live.map fun t=>(t,e' t))
 | [],_,hk=>hk
 | t :: ts,_,hk=>zoN h ts (hk _ (h t))
theorem zoO:∀ {cs cs':List PV} {K:List PV→Prop},cs'.length=cs.length→(∀ (j:Nat) (p p':PV),cs[j]? = some p→cs'[j]? = some p'→zaR p p')→zhX cs K→K cs'
 | [],[],_,_,_,hk=>hk
 | [],_ :: _,_,hl,_,_=>by simp at hl
 | _ :: _,[],_,hl,_,_=>by simp at hl
 | p :: ps,q :: qs,K,hl,h,hk=>zoO (cs:=ps) (cs':=qs) (K:=fun r=>K (q :: r)) (by simpa using hl) (fun j a b h1 h2=>h (j + 1) a b (by simpa using h1) (by simpa using h2)) (hk q (h 0 p q rfl rfl))
theorem zuN {ob ob':AObj} {K:AObj→Prop} (h:zhC ob ob') (hk:zp4 ob K):K ob':=by
 cases ob with
 | box cs=>obtain ⟨cs',rfl,h1,h2⟩:=h; exact zoO h1 h2 hk
 | arr v st ipu T sz rows=>obtain ⟨rows',rfl,h1,h2⟩:=h; exact hk rows' ⟨h1,h2⟩
 | gone=>have h:ob'=_:=h; subst h; exact hk
theorem zoP:∀ {H H':List AObj} {K:List AObj→Prop},H'.length=H.length→(∀ (id:Nat) ob ob',H[id]? = some ob→H'[id]? = some ob'→zhC ob ob')→zhY H K→K H'
 | [],[],_,_,_,hk=>hk
 | [],_ :: _,_,hl,_,_=>by simp at hl
 | _ :: _,[],_,hl,_,_=>by simp at hl
 | p :: ps,q :: qs,K,hl,h,hk=>zoP (H:=ps) (H':=qs) (K:=fun r=>K (q :: r)) (by simpa using hl) (fun j a b h1 h2=>h (j + 1) a b (by simpa using h1) (by simpa using h2)) (zuN (K:=fun ob'=>zhY ps fun H'=>K (ob' :: H')) (h 0 p q rfl rfl) hk)
def zcV:List AObj→Bool
 | []=>true
 | .arr _ st _ _ _ _ :: H=>st && zcV H
 | _ :: H=>zcV H
theorem zkw:∀ {H:List AObj},zcV H=true→∀ (id:Nat) v sto ipu T sz rows,H[id]? = some (.arr v sto ipu T sz rows)→sto=true
 | [],_,id,_,_,_,_,_,_,h=>by simp at h
 | ob :: H,hs,id,v,sto,ipu,T,sz,rows,h=>by
  cases id with
  | zero =>
   simp only [ya8,yae] at h
   subst h
   simp only [zcV,yat] at hs
   exact hs.1
  | succ id =>
   refine zkw (H:=H) ?_ id v sto ipu T sz rows (by simpa using h)
   cases ob <;> simp only [zcV,yat] at hs
   ·
    exact hs
   ·
    exact hs.2
   ·
    exact hs
section
variable {P:Program} {x:Cx} {nt:Nat}
theorem Zu {K:St→Prop} {Q:AE→St→Prop} {st:St} (h:K st):@thenS ⟨K⟩ Q .normal st:=h
theorem zp5 {K:BxK} {Q:AE→St→Prop} {i:Nat} {st:St}:@thenS K Q (.exit i) st=Q (.exit i) st:=id rfl
theorem zsf {K:BxK} {Q:AE→St→Prop} {st:St}:@thenS K Q .ret st=Q .ret st:=id rfl
theorem zfC {a:LC} {l:List LC} {Q:AE→St→Prop} {st:St} (h:W P x nt a (@thenS ⟨WL P x nt l Q⟩ Q) st):WL P x nt (a :: l) Q st :=
 W.mono (lc:=a) h fun e st' hq=>by cases e <;> exact hq
theorem zeA:∀ (k:Nat) {l:List LC} {Q:AE→St→Prop} {st:St},zm6 P x nt (l.take k) (@thenS ⟨WL P x nt (l.drop k) Q⟩ Q) st→WL P x nt l Q st
  | 0,_,_,_,h=>h
  | _ + 1,[],_,_,h=>h
  | k + 1, a :: l, _, _, h => (zbd (lc := a) h).mono fun e st' hq => by
      cases e with
      | normal=>exact zeA k (l:=l) hq
      | exit id=>exact hq
      | ret=>exact hq
theorem zcK {i:Nat} {b:LC} {l:List LC} {Q:AE→St→Prop} {st:St} (h:WL P x nt b.flat (zdB i (@thenS ⟨WL P x nt l Q⟩ Q)) st):WL P x nt (.block i b :: l) Q st:=zfC (zm1 (zjj h))
theorem zp6 {b : LC} {l : List LC} {Q : AE → St → Prop} {st : St} (live : List Nat) (m : Nat) (I : Nat → St → Prop) (n : Nat) (h1 : x.H0.length ≤ m) (h2 : m ≤ st.heap.length) (h0 : I n (st.trim live m))
    (hstep:∀ n st,I n st→WL P x nt b.flat (@zga ⟨zrn live m I n⟩ (@thenS ⟨WL P x nt l Q⟩ Q)) st):WL P x nt (.loop b :: l) Q st:=zfC (zhI live m I n h1 h2 h0 fun n st hI=>zjj (hstep n st hI))
theorem zA0 {b : LC} {l : List LC} {Q : AE → St → Prop} {st : St} (live : List Nat) (m : Nat) (I : Nat → St → Prop) (n : Nat) (h1 : x.H0.length ≤ m) (h2 : m ≤ st.heap.length) (h0 : I n (st.trim live m))
    (hstep:∀ n st,I n st→W P x nt b (@zga ⟨zrn live m I n⟩ (@thenS ⟨WL P x nt l Q⟩ Q)) st):WL P x nt (.loop b :: l) Q st:=zfC (zhI live m I n h1 h2 h0 hstep)
theorem zkx {a:LC} {l:List LC} {Q:AE→St→Prop} {st:St} (st':St) (hw:za3 x nt st st') (h:WL P x nt (a :: l) Q st'):WL P x nt (a :: l) Q st:=zj7 hw h
theorem zl2 {l : List LC} {Q : AE → St → Prop} {a : LC} {d : Option Nat} {v : PV} (live : List Nat) (hd : ∀ t, d = some t → t ∉ live) {st1 st2 : St} (hs : zop st1 st2)
    (h:ziT live st1.env fun E=>zhY st1.heap fun H=>WL P x nt (a :: l) Q ⟨mkE .top E,H⟩):WL P x nt (a :: l) Q (st2.put d v st2.heap):=by
  refine zj7 (zdR live) ?_
  rw [zuM]
  obtain ⟨h1,h2,h3⟩:=hs
  have g:=zoP h1 h2 (zoN h3 live h)
  have e:(live.map fun t=>(t,(st2.put d v st2.heap).env t))=live.map fun t=>(t,st2.env t):=by
    refine yaU fun t ht=>?_
    simp only [St.put]
    rw [if_neg fun e=>hd t e ht]
  rw [e]
  exact g
def zsg (X:LOpd) (ok:List (List PV)→Prop) (live:List Nat) [K:BxK] (st1:St):Prop :=
 (∃ rows,X.ev st1 = .list rows∧ok rows)∧zcV st1.heap=true∧ziT live st1.env fun E=>zhY st1.heap fun H=>K.k ⟨mkE .top E,H⟩
theorem Zq.mono {P:Program} {K K':St→Prop} (hk:∀ st,K st→K' st):∀ (ops:List LOper) (st:St),Zq P ops K st→Zq P ops K' st:=by
 have one:∀ (so:Bool) (o:LOp) (st:St) (K K':PV→List AObj→Prop),(∀ v H,K v H→K' v H)→WOp P so o st K→WOp P so o st K':=by
  intro so o st K K' h hw
  cases o
  case call f args hot=>obtain ⟨r,H',h1,h2⟩:=hw; exact ⟨r,H',h1,h _ _ h2⟩
  case callv X args=>obtain ⟨f,pre,caps,h1,h2,r,H',h3,h4⟩:=hw; exact ⟨f,pre,caps,h1,h2,r,H',h3,h _ _ h4⟩
  case isnil neg X =>
   simp only [WOp] at hw ⊢
   split
   ·
    rename_i e; rw [e] at hw; exact h _ _ hw
   ·
    rename_i rows e; rw [e] at hw; exact fun b hb=>h _ _ (hw b hb)
   ·
    rename_i e1 e2; split at hw
    ·
     rename_i e; exact (e1 e).elim
    ·
     rename_i e; exact (e2 _ e).elim
    ·
     exact hw
  all_goals (obtain ⟨v,H',h1,h2⟩:=hw; exact ⟨v,H',h1,h _ _ h2⟩)
 intro ops
 induction ops with
 | nil=>exact fun st h=>hk st h
 | cons o ops ih =>
  intro st h
  simp only [Zq] at h ⊢
  split
  ·
   rename_i e; rw [e] at h; exact one _ _ _ _ _ (fun v H h=>ih _ h) h
  ·
   rename_i t want e
   rw [e] at h
   dsimp only at h
   split
   ·
    rename_i b hb
    rw [hb] at h
    dsimp only at h
    split
    ·
     rename_i hw; rw [if_pos hw] at h; exact one _ _ _ _ _ (fun v H h=>ih _ h) h
    ·
     rename_i hw; rw [if_neg hw] at h; exact ih _ h
   ·
    rename_i hb; rw [hb] at h; exact ih _ h
   ·
    rename_i e1 e2; split at h
    ·
     rename_i hb; exact (e1 _ hb).elim
    ·
     rename_i hb; exact (e2 hb).elim
    ·
     exact h
theorem zd2:∀ {l:List LOper} {o:LOper},l.getLast? = some o→l=l.dropLast ++ [o]
 | [],_,h=>by simp at h
 | [a],o,h=>by simp at h; subst h; rfl
 | a :: b :: l,o,h=>by
  have:=zd2 (l:=b :: l) (o:=o) (by simpa using h)
  rw [List.dropLast_cons_of_ne_nil (by simp),yau,← this]
theorem zuO {ops : List LOper} {a : LC} {l l0 : List LC} {Q Q0 : AE → St → Prop} {st : St} {d : Option Nat} {f hot : Nat} {so : Bool} {X : LOpd} {ok : List (List PV) → Prop} (live : List Nat) (hsp : zlw P f ok) (hS0 : ∀ b o, ¬ x.S0 b o)
    (ho:ops.getLast? = some ⟨d,.call f [X] hot,none,so⟩) (hd:∀ t,d=some t→t ∉ live) (h0:∀ st,WL P x nt (a :: l) Q st→WL P x nt l0 Q0 st)
    (h:Zq P ops.dropLast (@zsg X ok live ⟨WL P x nt (a :: l) Q⟩) st):WL P x nt (.reg none ops :: l0) Q0 st:=by
  refine zfC ?_
  rw [zd2 ho]
  refine zx9 hsp hS0 (Zq.mono ?_ _ _ h)
  rintro st1 ⟨h1,h2,h3⟩
  exact ⟨h1,zkw h2,fun st2 hs=>h0 _ (zl2 live hd hs h3)⟩
theorem zdc {ops : List LOper} {a : LC} {l : List LC} {Q : AE → St → Prop} {st : St} {d : Option Nat} {f hot : Nat} {so : Bool} {X : LOpd} {ok : List (List PV) → Prop} (live : List Nat) (hsp : zlw P f ok) (hS0 : ∀ b o, ¬ x.S0 b o)
    (ho:ops.getLast? = some ⟨d,.call f [X] hot,none,so⟩) (hd:∀ t,d=some t→t ∉ live)
    (h:Zq P ops.dropLast (@zsg X ok live ⟨WL P x nt (a :: l) Q⟩) st):WL P x nt (.reg none ops :: a :: l) Q st:=zuO live hsp hS0 ho hd (fun _ h=>h) h
end
theorem zl3 (l:List (Nat × PV)) (H:List AObj):zrK ⟨mkE .top l,H⟩=⟨mkE .top (l.map fun p=>(p.1,zgS p.2)),H.map ziK⟩:=by
 simp only [zrK,St.mk.injEq,and_true]
 funext t
 induction l with
 | nil=>rfl
 | cons p l ih =>
  simp only [mkE,yaA]
  split <;> first | rfl | exact ih
theorem zyu (l:List (Nat × PV)) (H:List AObj):zCp ⟨mkE .top l,H⟩=⟨mkE .top (l.map fun p=>(p.1,unR p.2)),H.map zrI⟩:=by
 simp only [zCp,St.mk.injEq,and_true]
 funext t
 induction l with
 | nil=>rfl
 | cons p l ih =>
  simp only [mkE,yaA]
  split <;> first | rfl | exact ih
theorem zd3 {k:IntKind} {n:Int} {q:PV}:zaR (.int k n) q=(q = .int k n):=id rfl
theorem zjD {b:Bool} {q:PV}:zaR (.bool b) q=(q = .bool b):=id rfl
theorem zl4 {s:ByteArray} {q:PV}:zaR (.str s) q=(q = .str s):=id rfl
theorem znr {q:PV}:zaR .nilsl q=(q = .nilsl):=id rfl
theorem zp7 {q:PV}:zaR .nilp q=(q = .nilp):=id rfl
theorem zsh {q:PV}:zaR .top q=(q = .top):=id rfl
theorem zns {q:PV}:zaR .undef q=(q = .undef):=id rfl
theorem zsi {i o:Nat} {q:PV}:zaR (.ptr i o) q=(q = .ptr i o):=id rfl
theorem zp8 {i v sz k o:Nat} {q:PV}:zaR (.aptr i v sz k o) q=(q = .aptr i v sz k o):=id rfl
theorem zsj {i v:Nat} {q:PV}:zaR (.arr i v) q=(q = .arr i v):=id rfl
theorem zsk {rows:List (List PV)} {q:PV}:zaR (.oll rows) q=(q = .oll rows):=id rfl
theorem zsl {cs:List PV} {q:PV}:zaR (.olp cs) q=(q = .olp cs):=id rfl
theorem zp9 {cs:List PV} {q:PV}:zaR (.rptr cs) q=(q = .top):=id rfl
theorem zsm {cs:List PV} {q:PV}:zaR (.agg cs) q=(q = .top):=id rfl
theorem zsn {cs:List PV} {q:PV}:zaR (.tup cs) q=(q = .top):=id rfl
theorem zdd {rows:List (List PV)} {q:PV}:zaR (.list rows) q=Bl (.list rows) q:=id rfl
theorem zso {e:Nat→PV} {K:List (Nat × PV)→Prop}:ziT [] e K=K []:=id rfl
theorem zqa {t:Nat} {ts:List Nat} {e:Nat→PV} {K:List (Nat × PV)→Prop}:ziT (t :: ts) e K=∀ q,zaR (e t) q→ziT ts e fun r=>K ((t,q) :: r):=id rfl
theorem zd4 {K:List PV→Prop}:zhX [] K=K []:=id rfl
theorem zde {p:PV} {ps:List PV} {K:List PV→Prop}:zhX (p :: ps) K=∀ q,zaR p q→zhX ps fun r=>K (q :: r):=id rfl
theorem zsp {cs:List PV} {K:AObj→Prop}:zp4 (.box cs) K=zhX cs fun cs'=>K (.box cs'):=id rfl
theorem zsq {v T sz:Nat} {st ipu:Bool} {rows:List (List PV)} {K:AObj→Prop}:zp4 (.arr v st ipu T sz rows) K=∀ rows',zyt rows rows'→K (.arr v st ipu T sz rows'):=id rfl
theorem zqb {K:AObj→Prop}:zp4 .gone K=K .gone:=id rfl
theorem zsr {K:List AObj→Prop}:zhY [] K=K []:=id rfl
theorem zqc {ob:AObj} {H:List AObj} {K:List AObj→Prop}:zhY (ob :: H) K=zp4 ob fun ob'=>zhY H fun H'=>K (ob' :: H'):=id rfl
theorem zss {X:LOpd} {ok:List (List PV)→Prop} {live:List Nat} {K:BxK} {st1:St}:@zsg X ok live K st1=((∃ rows,X.ev st1 = .list rows∧ok rows)∧zcV st1.heap=true∧ziT live st1.env fun E=>zhY st1.heap fun H=>K.k ⟨mkE .top E,H⟩):=id rfl
attribute [go_sem] zp5 zsf zd3 zjD zl4 znr zp7 zsh zns zsi zp8 zsj zsk zsl zp9 zsm zsn zdd zso zqa zd4 zde zsp zsq zqb zsr zqc zss forall_eq List.dropLast_cons₂ List.dropLast_singleton
end Go.Proofs.YtkcahmbcpkjpiaaGreatDoor
