/- Joined texts of this claim: V14 L26 L22 J5 F1 Sw F2 Sj J1 F3 F6 F7 H1 Lt F8 F9 F10. -/
import Derived.Test.YtkcahmbcpkjpiaaGreatDoorKG
import Derived.Test.YtkcahmbcpkjpiaaGreatDoorKF
import Derived.Test.YtkcahmbcpkjpiaaGreatDoorKE
import Derived.Test.YtkcahmbcpkjpiaaGreatDoorKD
import Derived.Shelf.SlSortCmp.WholeK
import Derived.Shelf.SlLaysF0
import Derived.Shelf.Lays
import Derived.Test.YtkcahmbcpkjpiaaGreatDoorProg
import Derived.KernelRfl
import Derived.Shelf.Strings.Split
import Derived.Lib.Join
import Derived.Shelf.Strings.OnBuilder
import Derived.Test.YtkcahmbcpkjpiaaGreatDoorKB
import Derived.Test.YtkcahmbcpkjpiaaGreatDoorKC
import Derived.Shelf.Small.Strs
set_option linter.unusedSimpArgs false
set_option linter.unusedVariables false
set_option linter.unusedSectionVars false
set_option maxHeartbeats 8000000
set_option maxRecDepth 100000
namespace Go.Proofs.YtkcahmbcpkjpiaaGreatDoor
open Go.RowKit
theorem zad (t:ByteArray):decide (t=⟨#[]⟩)=decide (t.size=0):=by
 rw [Bool.eq_iff_iff,decide_eq_true_eq,decide_eq_true_eq]
 constructor
 ·
  intro h; rw [h]; rfl
 ·
  intro h; exact ByteArray.ext (Array.eq_empty_of_size_eq_zero h)
theorem zo1 (i:Int):ZX i 0 1=decide (i=0∨i=1):=by
 cases h:ZX i 0 1
 ·
  symm; rw [decide_eq_false_iff_not]; intro q
  have:ZX i 0 1=true:=zX.2 (by omega)
  rw [h] at this; cases this
 ·
  rw [zX] at h; symm; rw [decide_eq_true_eq]; omega
theorem zo2 (w:Wo) (k i n c:Int) (t:ByteArray) (hk:k < 1∨5 < k):zg Tryz.prog 10 [.agg (cWo w),.agg (zo k i n c t)] [] (.tup [.agg za2,.int .i64 7]) []:=by
 refine zg.of_walk Tryz.func10 Tryz.ntmps10 zdF zdG (by simp) fun x hx=>?_
 simp only [go_sem,L10,R10,cWo,cWd,zo]
 refine za (.pureE (zm k 1 5) (by simp [go_sem])) ?_
 have e:ZX k 1 5=false:=by
  cases h:ZX k 1 5
  ·
   rfl
  ·
   rw [zX] at h; omega
 rw [e]
 simp only [go_sem]
 refine zb hx ?_
 simp [go_sem,L10,R10,za2]
theorem zmL (w:Wo) (k i n c:Int) (t:ByteArray) (hk:¬ (k < 1∨5 < k)) (he:Z3 k n c t=true):zg Tryz.prog 10 [.agg (cWo w),.agg (zo k i n c t)] [] (.tup [.agg za2,.int .i64 1]) []:=by
 refine zg.of_walk Tryz.func10 Tryz.ntmps10 zdF zdG (by simp) fun x hx=>?_
 simp only [go_sem,L10,R10,cWo,cWd,zo]
 refine za (.pureE (zm k 1 5) (by simp [go_sem])) ?_
 have e:ZX k 1 5=true:=zX.2 (by omega)
 rw [e]
 by_cases k1:k=1
 ·
  subst k1
  have n0:¬ n=0:=by simpa [Z3] using he
  simp only [go_sem,zq,Int.reduceLT,Int.reduceLE,Int.reduceToNat,Int.reduceAdd,frz,zo,n0]
  refine zb hx ?_
  simp [go_sem,L10,R10,za2]
 ·
  by_cases c0:c=0
  ·
   by_cases t0:t.size=0
   ·
    have k5:k=5∧¬ n=0:=by simpa [Z3,k1,c0,t0] using he
    obtain ⟨rfl,n0⟩:=k5
    simp only [go_sem,zq,Int.reduceLT,Int.reduceLE,Int.reduceToNat,Int.reduceAdd,frz,zo,c0,zad,t0,n0]
    refine zb hx ?_
    simp [go_sem,L10,R10,za2]
   ·
    simp only [go_sem,zq,Int.reduceLT,Int.reduceLE,Int.reduceToNat,Int.reduceAdd,frz,zo,k1,c0,zad,t0]
    refine zb hx ?_
    simp [go_sem,L10,R10,za2]
  ·
   simp only [go_sem,zq,Int.reduceLT,Int.reduceLE,Int.reduceToNat,Int.reduceAdd,frz,zo,k1,c0]
   refine zb hx ?_
   simp [go_sem,L10,R10,za2]
theorem zs7 (w:Wo) (k i n c:Int) (t:ByteArray) (hk:¬ (k < 1∨5 < k)) (he:¬ Z3 k n c t=true) (hi:¬ (i=0∨i=1)):zg Tryz.prog 10 [.agg (cWo w),.agg (zo k i n c t)] [] (.tup [.agg za2,.int .i64 3]) []:=by
 refine zg.of_walk Tryz.func10 Tryz.ntmps10 zdF zdG (by simp) fun x hx=>?_
 simp only [go_sem,L10,R10,cWo,cWd,zo]
 refine za (.pureE (zm k 1 5) (by simp [go_sem])) ?_
 have e:ZX k 1 5=true:=zX.2 (by omega)
 rw [e]
 by_cases k1:k=1
 ·
  subst k1
  have n0:n=0:=by simpa [Z3] using he
  simp only [go_sem,zq,Int.reduceLT,Int.reduceLE,Int.reduceToNat,Int.reduceAdd,frz,zo,n0]
  refine za (.pureE (zm i 0 1) (by simp [go_sem])) ?_
  rw [zo1,decide_eq_false hi]
  simp only [go_sem]
  refine zb hx ?_
  simp [go_sem,L10,R10,za2]
 ·
  have c0:c=0:=by
   by_cases c0:c=0
   ·
    exact c0
   ·
    exact (he (by simp [Z3,k1,c0])).elim
  have t0:t.size=0:=by
   by_cases t0:t.size=0
   ·
    exact t0
   ·
    exact (he (by simp [Z3,k1,t0])).elim
  by_cases k5:k=5
  ·
   subst k5
   have n0:n=0:=by simpa [Z3,c0,t0] using he
   simp only [go_sem,zq,Int.reduceLT,Int.reduceLE,Int.reduceToNat,Int.reduceAdd,frz,zo,c0,zad,t0,n0]
   refine za (.pureE (zm i 0 1) (by simp [go_sem])) ?_
   rw [zo1,decide_eq_false hi]
   simp only [go_sem]
   refine zb hx ?_
   simp [go_sem,L10,R10,za2]
  ·
   simp only [go_sem,zq,Int.reduceLT,Int.reduceLE,Int.reduceToNat,Int.reduceAdd,frz,zo,k1,k5,c0,zad,t0]
   refine za (.pureE (zm i 0 1) (by simp [go_sem])) ?_
   rw [zo1,decide_eq_false hi]
   simp only [go_sem]
   refine zb hx ?_
   simp [go_sem,L10,R10,za2]
theorem zwg (w:Wo) (h:WoOk w) (i:Int) (t:ByteArray) (t0:t.size=0) (hi:i=0∨i=1):zg Tryz.prog 10 [.agg (cWo w),.agg (zo 5 i 0 0 t)] [] (.tup [.agg (cWo (w.setS i (zcU w i).2)),.int .i64 0]) []:=by
 have hall:=zkQ w i hi (h.si hi) (h.log (zce hi))
 generalize w.setS i (zcU w i).2=w2 at *
 rcases hi with rfl | rfl
 ·
  skip
  refine zg.of_walk Tryz.func10 Tryz.ntmps10 zdF zdG (by simp) fun x hx=>?_
  simp only [go_sem,L10,R10,cWo,cWd,zo]
  refine za (.pureE (zm 5 1 5) (by simp [go_sem])) ?_
  rw [show ZX 5 1 5=true from by decide]
  simp only [go_sem,zq,Int.reduceLT,Int.reduceLE,Int.reduceToNat,Int.reduceAdd,frz,zo,zad,t0]
  refine za (.pureE (zm 0 0 1) (by simp [go_sem])) ?_
  rw [show ZX 0 0 1=true from by decide]
  simp only [go_sem,zq,Int.reduceLT,Int.reduceLE,Int.reduceToNat,Int.reduceAdd,frz,zo,cWo,cWd]
  refine za (.pureE hall (by simp [go_sem,cWo,cWd])) ?_
  simp only [go_sem,zq,Int.reduceLT,Int.reduceLE,Int.reduceToNat,Int.reduceAdd,frz,cWo,cWd]
  refine zb hx ?_
  simp [go_sem,L10,R10]
 ·
  skip
  refine zg.of_walk Tryz.func10 Tryz.ntmps10 zdF zdG (by simp) fun x hx=>?_
  simp only [go_sem,L10,R10,cWo,cWd,zo]
  refine za (.pureE (zm 5 1 5) (by simp [go_sem])) ?_
  rw [show ZX 5 1 5=true from by decide]
  simp only [go_sem,zq,Int.reduceLT,Int.reduceLE,Int.reduceToNat,Int.reduceAdd,frz,zo,zad,t0]
  refine za (.pureE (zm 1 0 1) (by simp [go_sem])) ?_
  rw [show ZX 1 0 1=true from by decide]
  simp only [go_sem,zq,Int.reduceLT,Int.reduceLE,Int.reduceToNat,Int.reduceAdd,frz,zo,cWo,cWd]
  refine za (.pureE hall (by simp [go_sem,cWo,cWd])) ?_
  simp only [go_sem,zq,Int.reduceLT,Int.reduceLE,Int.reduceToNat,Int.reduceAdd,frz,cWo,cWd]
  refine zb hx ?_
  simp [go_sem,L10,R10]
theorem zwh (w : Wo) (h : WoOk w) (i c : Int) (t : ByteArray) (hi : i = 0 ∨ i = 1) : zg Tryz.prog 10 [.agg (cWo w), .agg (zo 1 i 0 c t)] []
    (.tup [.agg (if zO i (w.log i) c t=0 then cWo (zay (w.setS i (zv (w.log i ++ [apE i (w.log i) c t]) (w.wts i))) (1 - i) (apE i (w.log i) c t)) else za2),.int .i64 (zO i (w.log i) c t)]) []:=by
  obtain ⟨a1,-,-,-,a5,-,a7,a8⟩:=zcf (h.si hi)
  have la:=h.la
  have lb:=h.lb
  have hap:=zg0 i (w.log i) (w.wts i) c t hi a7 a8 a5
  obtain ⟨R,hR⟩:∃ R,(if zO i (w.log i) c t=0 then cWo (zay (w.setS i (zv (w.log i ++ [apE i (w.log i) c t]) (w.wts i))) (1 - i) (apE i (w.log i) c t)) else za2)=R:=⟨_,rfl⟩
  rw [hR]
  rcases hi with rfl | rfl
  · have hap:zg Tryz.prog 63 [.agg (cSi 0 w.p w.u),.int .i64 c,.str t] [] (.tup [.agg (zp (zbq 0 w.p w.u c t)),.agg (cE (zbr 0 w.p c t)),.int .i64 (zO 0 w.p c t)]) []:=hap
    refine zg.of_walk Tryz.func10 Tryz.ntmps10 zdF zdG (by simp) fun x hx=>?_
    simp only [go_sem,L10,R10,cWo,cWd,zo]
    refine za (.pureE (zm 1 1 5) (by simp [go_sem])) ?_
    rw [show ZX 1 1 5=true from by decide]
    simp only [go_sem,zq,Int.reduceLT,Int.reduceLE,Int.reduceToNat,Int.reduceAdd,frz,zo,zad,zq,Int.reduceLT,Int.reduceLE,Int.reduceToNat,Int.reduceAdd,frz]
    refine za (.pureE (zm 0 0 1) (by simp [go_sem])) ?_
    rw [show ZX 0 0 1=true from by decide]
    simp only [go_sem,zq,Int.reduceLT,Int.reduceLE,Int.reduceToNat,Int.reduceAdd,frz,zo,cWo,cWd]
    refine za (.heapE [] (r' := .agg [.arr 3 2,.arr 4 2]) (H' := [.box (cWo w),.box (zo 1 0 0 c t),.box [.nilsl,.nilsl]] ++ hCW w w) (zM w) (by simp) (by simp) (by simp [go_sem,cWo,cWd]) rfl rfl rfl) ?_
    simp only [go_sem,zq,Int.reduceLT,Int.reduceLE,Int.reduceToNat,Int.reduceAdd,frz,zo,hCW,cWo,cWd,Wo.ss,Wo.ys,cYs,zp,cSi,List.map_cons,List.map_nil,List.cons_append,List.nil_append]
    have k10:IntKind.i64.wrap (1 - 0)=1:=by decide
    by_cases h0:zO 0 w.p c t=0
    · have ea:zbq 0 w.p w.u c t=(0,zv (w.p ++ [apE 0 w.p c t]) w.u):=by rw [zbq,if_pos h0]
      have eb:zbr 0 w.p c t=apE 0 w.p c t:=by rw [zbr,if_pos h0]
      rw [ea,eb,h0] at hap
      have hfin:(if zO 0 (w.log 0) c t=0 then cWo (zay (w.setS 0 (zv (w.log 0 ++ [apE 0 (w.log 0) c t]) (w.wts 0))) (1 - 0) (apE 0 (w.log 0) c t)) else za2)=cWo (if w.b.length=30 then w.setS 0 (zv (w.p ++ [apE 0 w.p c t]) w.u) else (w.setS 0 (zv (w.p ++ [apE 0 w.p c t]) w.u)).setY 1 (w.b ++ [apE 0 w.p c t])):=by
        rw [if_pos (show zO 0 (w.log 0) c t=0 from h0)]; rfl
      rw [hfin] at hR
      subst hR
      rw [show zO 0 (w.log 0) c t=0 from h0]
      clear hfin ea eb h0
      generalize apE 0 w.p c t=e at *
      generalize zv (w.p ++ [e]) w.u=PU at *
      obtain ⟨P,U⟩:=PU
      refine za (.pureE hap (by simp [go_sem,cSi])) ?_
      simp only [go_sem,zq,Int.reduceLT,Int.reduceLE,Int.reduceToNat,Int.reduceAdd,frz,zp,cSi,cE,zo,k10]
      repeat refine ⟨rfl,?_⟩
      by_cases hl:(w.b.length:Int) < 30
      · rw [if_neg (by omega)]
        simp only [go_sem,zq,Int.reduceLT,Int.reduceLE,Int.reduceToNat,Int.reduceAdd,frz,zp,cSi,cE,zo,k10,hl,List.length_map]
        rw [zB rfl rfl (zba w.b) (by simp; omega)]
        simp only [go_sem,zq,Int.reduceLT,Int.reduceLE,Int.reduceToNat,Int.reduceAdd,frz,cE]
        rw [zB rfl rfl (by simp) (by simp; omega)]
        have hce:List.map cE w.b ++ [[PV.int .i64 e.id.r,.int .i64 e.id.n,.int .i64 e.c,.str e.t,.list (e.ls.map cId)]]=(w.b ++ [e]).map cE:=by simp [cE]
        simp only [go_sem,zq,Int.reduceLT,Int.reduceLE,Int.reduceToNat,Int.reduceAdd,frz,hce]
        repeat refine ⟨rfl,?_⟩
        try simp only [go_sem,zq,Int.reduceLT,Int.reduceLE,Int.reduceToNat,Int.reduceAdd,frz]
        refine zt (zx 8 rfl) ?_
        refine zt (Z6 4 rfl rfl (by simp [frz,PV.isPure])) ?_
        refine zt (zx 3 rfl) ?_
        refine zb hx ?_
        simp [go_sem,L10,R10,cWo,cWd,cYs,Wo.ys,Wo.ss,zp,cSi,zu,pos,frz]
        first | rfl | simp [Wo.setS,Wo.setY,Wo.way]
      · rw [if_pos (by omega)]
        simp only [go_sem,zq,Int.reduceLT,Int.reduceLE,Int.reduceToNat,Int.reduceAdd,frz,zp,cSi,cE,zo,k10,hl,List.length_map]
        refine zt (Z6 4 rfl rfl (by simp [frz,PV.isPure])) ?_
        refine zt (zx 3 rfl) ?_
        refine zb hx ?_
        simp [go_sem,L10,R10,cWo,cWd,cYs,Wo.ys,Wo.ss,zp,cSi,zu,pos,frz]
        first | rfl | simp [Wo.setS,Wo.setY,Wo.way]
    · have ea:zbq 0 w.p w.u c t=(0,[],[]):=by rw [zbq,if_neg h0]
      have eb:zbr 0 w.p c t=zE:=by rw [zbr,if_neg h0]
      have hfin:(if zO 0 (w.log 0) c t=0 then cWo (zay (w.setS 0 (zv (w.log 0 ++ [apE 0 (w.log 0) c t]) (w.wts 0))) (1 - 0) (apE 0 (w.log 0) c t)) else za2)=za2:=if_neg h0
      rw [hfin] at hR
      subst hR
      refine za (.pureE hap (by simp [go_sem,cSi])) ?_
      simp only [go_sem,zq,Int.reduceLT,Int.reduceLE,Int.reduceToNat,Int.reduceAdd,frz,ea,eb,zp,cSi,cE,zE,zo,h0]
      repeat refine ⟨rfl,?_⟩
      try simp only [go_sem,zq,Int.reduceLT,Int.reduceLE,Int.reduceToNat,Int.reduceAdd,frz,h0]
      refine zb hx ?_
      simp [go_sem,L10,R10,za2]
      try rfl
  · have hap:zg Tryz.prog 63 [.agg (cSi 1 w.q w.v),.int .i64 c,.str t] [] (.tup [.agg (zp (zbq 1 w.q w.v c t)),.agg (cE (zbr 1 w.q c t)),.int .i64 (zO 1 w.q c t)]) []:=hap
    refine zg.of_walk Tryz.func10 Tryz.ntmps10 zdF zdG (by simp) fun x hx=>?_
    simp only [go_sem,L10,R10,cWo,cWd,zo]
    refine za (.pureE (zm 1 1 5) (by simp [go_sem])) ?_
    rw [show ZX 1 1 5=true from by decide]
    simp only [go_sem,zq,Int.reduceLT,Int.reduceLE,Int.reduceToNat,Int.reduceAdd,frz,zo,zad,zq,Int.reduceLT,Int.reduceLE,Int.reduceToNat,Int.reduceAdd,frz]
    refine za (.pureE (zm 1 0 1) (by simp [go_sem])) ?_
    rw [show ZX 1 0 1=true from by decide]
    simp only [go_sem,zq,Int.reduceLT,Int.reduceLE,Int.reduceToNat,Int.reduceAdd,frz,zo,cWo,cWd]
    refine za (.heapE [] (r' := .agg [.arr 3 2,.arr 4 2]) (H' := [.box (cWo w),.box (zo 1 1 0 c t),.box [.nilsl,.nilsl]] ++ hCW w w) (zM w) (by simp) (by simp) (by simp [go_sem,cWo,cWd]) rfl rfl rfl) ?_
    simp only [go_sem,zq,Int.reduceLT,Int.reduceLE,Int.reduceToNat,Int.reduceAdd,frz,zo,hCW,cWo,cWd,Wo.ss,Wo.ys,cYs,zp,cSi,List.map_cons,List.map_nil,List.cons_append,List.nil_append]
    have k10:IntKind.i64.wrap (1 - 1)=0:=by decide
    by_cases h0:zO 1 w.q c t=0
    · have ea:zbq 1 w.q w.v c t=(1,zv (w.q ++ [apE 1 w.q c t]) w.v):=by rw [zbq,if_pos h0]
      have eb:zbr 1 w.q c t=apE 1 w.q c t:=by rw [zbr,if_pos h0]
      rw [ea,eb,h0] at hap
      have hfin:(if zO 1 (w.log 1) c t=0 then cWo (zay (w.setS 1 (zv (w.log 1 ++ [apE 1 (w.log 1) c t]) (w.wts 1))) (1 - 1) (apE 1 (w.log 1) c t)) else za2)=cWo (if w.a.length=30 then w.setS 1 (zv (w.q ++ [apE 1 w.q c t]) w.v) else (w.setS 1 (zv (w.q ++ [apE 1 w.q c t]) w.v)).setY 0 (w.a ++ [apE 1 w.q c t])):=by
        rw [if_pos (show zO 1 (w.log 1) c t=0 from h0)]; rfl
      rw [hfin] at hR
      subst hR
      rw [show zO 1 (w.log 1) c t=0 from h0]
      clear hfin ea eb h0
      generalize apE 1 w.q c t=e at *
      generalize zv (w.q ++ [e]) w.v=PU at *
      obtain ⟨P,U⟩:=PU
      refine za (.pureE hap (by simp [go_sem,cSi])) ?_
      simp only [go_sem,zq,Int.reduceLT,Int.reduceLE,Int.reduceToNat,Int.reduceAdd,frz,zp,cSi,cE,zo,k10]
      repeat refine ⟨rfl,?_⟩
      by_cases hl:(w.a.length:Int) < 30
      · rw [if_neg (by omega)]
        simp only [go_sem,zq,Int.reduceLT,Int.reduceLE,Int.reduceToNat,Int.reduceAdd,frz,zp,cSi,cE,zo,k10,hl,List.length_map]
        rw [zB rfl rfl (zba w.a) (by simp; omega)]
        simp only [go_sem,zq,Int.reduceLT,Int.reduceLE,Int.reduceToNat,Int.reduceAdd,frz,cE]
        rw [zB rfl rfl (by simp) (by simp; omega)]
        have hce:List.map cE w.a ++ [[PV.int .i64 e.id.r,.int .i64 e.id.n,.int .i64 e.c,.str e.t,.list (e.ls.map cId)]]=(w.a ++ [e]).map cE:=by simp [cE]
        simp only [go_sem,zq,Int.reduceLT,Int.reduceLE,Int.reduceToNat,Int.reduceAdd,frz,hce]
        repeat refine ⟨rfl,?_⟩
        try simp only [go_sem,zq,Int.reduceLT,Int.reduceLE,Int.reduceToNat,Int.reduceAdd,frz]
        refine zt (zx 8 rfl) ?_
        refine zt (Z6 4 rfl rfl (by simp [frz,PV.isPure])) ?_
        refine zt (zx 3 rfl) ?_
        refine zb hx ?_
        simp [go_sem,L10,R10,cWo,cWd,cYs,Wo.ys,Wo.ss,zp,cSi,zu,pos,frz]
        first | rfl | simp [Wo.setS,Wo.setY,Wo.way]
      · rw [if_pos (by omega)]
        simp only [go_sem,zq,Int.reduceLT,Int.reduceLE,Int.reduceToNat,Int.reduceAdd,frz,zp,cSi,cE,zo,k10,hl,List.length_map]
        refine zt (Z6 4 rfl rfl (by simp [frz,PV.isPure])) ?_
        refine zt (zx 3 rfl) ?_
        refine zb hx ?_
        simp [go_sem,L10,R10,cWo,cWd,cYs,Wo.ys,Wo.ss,zp,cSi,zu,pos,frz]
        first | rfl | simp [Wo.setS,Wo.setY,Wo.way]
    · have ea:zbq 1 w.q w.v c t=(0,[],[]):=by rw [zbq,if_neg h0]
      have eb:zbr 1 w.q c t=zE:=by rw [zbr,if_neg h0]
      have hfin:(if zO 1 (w.log 1) c t=0 then cWo (zay (w.setS 1 (zv (w.log 1 ++ [apE 1 (w.log 1) c t]) (w.wts 1))) (1 - 1) (apE 1 (w.log 1) c t)) else za2)=za2:=if_neg h0
      rw [hfin] at hR
      subst hR
      refine za (.pureE hap (by simp [go_sem,cSi])) ?_
      simp only [go_sem,zq,Int.reduceLT,Int.reduceLE,Int.reduceToNat,Int.reduceAdd,frz,ea,eb,zp,cSi,cE,zE,zo,h0]
      repeat refine ⟨rfl,?_⟩
      try simp only [go_sem,zq,Int.reduceLT,Int.reduceLE,Int.reduceToNat,Int.reduceAdd,frz,h0]
      refine zb hx ?_
      simp [go_sem,L10,R10,za2]
      try rfl
theorem zwi (w:Wo) (h:WoOk w) (k i n:Int) (t:ByteArray) (t0:t.size=0) (hk:k=2∨k=3∨k=4) (hi:i=0∨i=1) (hn:n < 0∨((w.way i).length:Int)≤n):zg Tryz.prog 10 [.agg (cWo w),.agg (zo k i n 0 t)] [] (.tup [.agg za2,.int .i64 5]) []:=by
 have la:=h.la
 have lb:=h.lb
 have k1:¬ k=1:=by omega
 have k5:¬ k=5:=by omega
 refine zg.of_walk Tryz.func10 Tryz.ntmps10 zdF zdG (by simp) fun x hx=>?_
 simp only [go_sem,L10,R10,cWo,cWd,zo]
 refine za (.pureE (zm k 1 5) (by simp [go_sem])) ?_
 rw [show ZX k 1 5=true from zX.2 (by omega)]
 simp only [go_sem,zq,Int.reduceLT,Int.reduceLE,Int.reduceToNat,Int.reduceAdd,frz,zo,zad,t0,k1,k5]
 rcases hi with rfl | rfl
 ·
  skip
  have hwl:IntKind.i64.wrap ((w.a.length:Int) - 1)=(w.a.length:Int) - 1:=by rw [IntWalk.i64_in _ (by omega)]
  have hf:ZX n 0 ((w.a.length:Int) - 1)=false:=by
   cases h:ZX n 0 ((w.a.length:Int) - 1)
   ·
    rfl
   ·
    rw [zX] at h
    have hn:n < 0∨(w.a.length:Int)≤n:=hn
    omega
  refine za (.pureE (zm 0 0 1) (by simp [go_sem])) ?_
  rw [show ZX 0 0 1=true from by decide]
  simp only [go_sem,zq,Int.reduceLT,Int.reduceLE,Int.reduceToNat,Int.reduceAdd,frz,zo,cWo,cWd,k5]
  refine za (.heapE [] (r' := .agg [.arr 3 2,.arr 4 2]) (H' := [.box (cWo w),.box (zo k 0 n 0 t),.box [.nilsl,.nilsl]] ++ hCW w w) (zM w) (by simp) (by simp) (by simp [go_sem,cWo,cWd]) rfl rfl rfl) ?_
  simp only [go_sem,zq,Int.reduceLT,Int.reduceLE,Int.reduceToNat,Int.reduceAdd,frz,zo,hCW,cWo,cWd,Wo.ss,Wo.ys,cYs,List.map_cons,List.map_nil,List.cons_append,List.nil_append,List.length_map,hwl,k1]
  refine za (.pureE (zm n 0 ((w.a.length:Int) - 1)) (by simp [go_sem])) ?_
  rw [hf]
  simp only [go_sem]
  refine zb hx ?_
  simp [go_sem,L10,R10,za2]
 ·
  skip
  have hwl:IntKind.i64.wrap ((w.b.length:Int) - 1)=(w.b.length:Int) - 1:=by rw [IntWalk.i64_in _ (by omega)]
  have hf:ZX n 0 ((w.b.length:Int) - 1)=false:=by
   cases h:ZX n 0 ((w.b.length:Int) - 1)
   ·
    rfl
   ·
    rw [zX] at h
    have hn:n < 0∨(w.b.length:Int)≤n:=hn
    omega
  refine za (.pureE (zm 1 0 1) (by simp [go_sem])) ?_
  rw [show ZX 1 0 1=true from by decide]
  simp only [go_sem,zq,Int.reduceLT,Int.reduceLE,Int.reduceToNat,Int.reduceAdd,frz,zo,cWo,cWd,k5]
  refine za (.heapE [] (r' := .agg [.arr 3 2,.arr 4 2]) (H' := [.box (cWo w),.box (zo k 1 n 0 t),.box [.nilsl,.nilsl]] ++ hCW w w) (zM w) (by simp) (by simp) (by simp [go_sem,cWo,cWd]) rfl rfl rfl) ?_
  simp only [go_sem,zq,Int.reduceLT,Int.reduceLE,Int.reduceToNat,Int.reduceAdd,frz,zo,hCW,cWo,cWd,Wo.ss,Wo.ys,cYs,List.map_cons,List.map_nil,List.cons_append,List.nil_append,List.length_map,hwl,k1]
  refine za (.pureE (zm n 0 ((w.b.length:Int) - 1)) (by simp [go_sem])) ?_
  rw [hf]
  simp only [go_sem]
  refine zb hx ?_
  simp [go_sem,L10,R10,za2]
theorem zwj (w:Wo) (h:WoOk w) (i:Int) (q:Nat) (t:ByteArray) (t0:t.size=0) (hi:i=0∨i=1) (hq:q < (w.way i).length):zg Tryz.prog 10 [.agg (cWo w),.agg (zo 2 i q 0 t)] [] (.tup [.agg (cWo ((w.setS i (zas i (w.log i) (w.wts i) (nth (w.way i) q)).2).setY i ((w.way i).eraseIdx q))),.int .i64 0]) []:=by
 have la:=h.la
 have lb:=h.lb
 obtain ⟨-,y2,y3⟩:=h.by_ hi
 have hm:=zcT hq
 obtain ⟨a1,s2,s3,s4,s5,s6,a7,a8⟩:=zcf (h.si hi)
 have hr0:=zik h hi (y2 _ hm) (y3 _ hm)
 have hrc:=zbW i (w.log i) (w.wts i) (nth (w.way i) q) s2 s3 s4 s5 s6 (Zg (y2 _ hm))
 rw [hr0,zeE hr0] at hrc
 generalize (zas i (w.log i) (w.wts i) (nth (w.way i) q)).2=PU at *
 obtain ⟨P,U⟩:=PU
 rcases hi with rfl | rfl
 ·
  skip
  have hq:q < w.a.length:=hq
  have hwl:IntKind.i64.wrap ((w.a.length:Int) - 1)=(w.a.length:Int) - 1:=by rw [IntWalk.i64_in _ (by omega)]
  have hf:ZX (q:Int) 0 ((w.a.length:Int) - 1)=true:=zX.2 (by omega)
  have hgq:w.a[q]? = some (nth w.a q):=zk _ _ hq
  obtain ⟨n,hn⟩:∃ n:Int,n=(q:Int):=⟨_,rfl⟩
  rw [← hn] at hf ⊢
  refine zg.of_walk Tryz.func10 Tryz.ntmps10 zdF zdG (by simp) fun x hx=>?_
  simp only [go_sem,L10,R10,cWo,cWd,zo]
  refine za (.pureE (zm 2 1 5) (by simp [go_sem])) ?_
  rw [show ZX 2 1 5=true from by decide]
  simp only [go_sem,zq,Int.reduceLT,Int.reduceLE,Int.reduceToNat,Int.reduceAdd,frz,zo,zad,t0]
  refine za (.pureE (zm 0 0 1) (by simp [go_sem])) ?_
  rw [show ZX 0 0 1=true from by decide]
  simp only [go_sem,zq,Int.reduceLT,Int.reduceLE,Int.reduceToNat,Int.reduceAdd,frz,zo,cWo,cWd]
  refine za (.heapE [] (r' := .agg [.arr 3 2,.arr 4 2]) (H' := [.box (cWo w),.box (zo 2 0 n 0 t),.box [.nilsl,.nilsl]] ++ hCW w w) (zM w) (by simp) (by simp) (by simp [go_sem,cWo,cWd]) rfl rfl rfl) ?_
  simp only [go_sem,zq,Int.reduceLT,Int.reduceLE,Int.reduceToNat,Int.reduceAdd,frz,zo,hCW,cWo,cWd,Wo.ss,Wo.ys,cYs,zp,cSi,List.map_cons,List.map_nil,List.cons_append,List.nil_append,List.length_map,hwl]
  refine za (.pureE (zm n 0 ((w.a.length:Int) - 1)) (by simp [go_sem])) ?_
  rw [hf]
  rw [hn]
  simp only [go_sem,zq,Int.reduceLT,Int.reduceLE,Int.reduceToNat,Int.reduceAdd,frz,zo,zp,cSi]
  have hrc:zg Tryz.prog 64 [.agg (cSi 0 w.p w.u),.agg (cE (nth w.a q))] [] (.tup [.agg (zp (0,P,U)),.int .i64 0]) []:=hrc
  simp only [go_sem,zq,Int.reduceLT,Int.reduceLE,Int.reduceToNat,Int.reduceAdd,frz,hgq,hq,cE,zp,cSi]
  refine za (.pureE hrc (by simp [go_sem,cSi,cE])) ?_
  simp only [go_sem,zq,Int.reduceLT,Int.reduceLE,Int.reduceToNat,Int.reduceAdd,frz,zp,cSi,zo]
  repeat refine ⟨rfl,?_⟩
  try simp only [go_sem,zq,Int.reduceLT,Int.reduceLE,Int.reduceToNat,Int.reduceAdd,frz,zo,zp,cSi]
  refine za (.pureE (zbC w.a q hq (by omega)) (by simp [go_sem])) ?_
  simp only [go_sem,zq,Int.reduceLT,Int.reduceLE,Int.reduceToNat,Int.reduceAdd,frz,zp,cSi,zo]
  repeat refine ⟨rfl,?_⟩
  try simp only [go_sem,zq,Int.reduceLT,Int.reduceLE,Int.reduceToNat,Int.reduceAdd,frz]
  refine zt (Z6 4 rfl rfl (by simp [frz,PV.isPure])) ?_
  refine zt (zx 3 rfl) ?_
  refine zb hx ?_
  simp [go_sem,L10,R10,cWo,cWd,cYs,Wo.ys,Wo.ss,zp,cSi,zu,pos,frz]
  first | rfl | simp [Wo.setS,Wo.setY,Wo.way]
 ·
  skip
  have hq:q < w.b.length:=hq
  have hwl:IntKind.i64.wrap ((w.b.length:Int) - 1)=(w.b.length:Int) - 1:=by rw [IntWalk.i64_in _ (by omega)]
  have hf:ZX (q:Int) 0 ((w.b.length:Int) - 1)=true:=zX.2 (by omega)
  have hgq:w.b[q]? = some (nth w.b q):=zk _ _ hq
  obtain ⟨n,hn⟩:∃ n:Int,n=(q:Int):=⟨_,rfl⟩
  rw [← hn] at hf ⊢
  refine zg.of_walk Tryz.func10 Tryz.ntmps10 zdF zdG (by simp) fun x hx=>?_
  simp only [go_sem,L10,R10,cWo,cWd,zo]
  refine za (.pureE (zm 2 1 5) (by simp [go_sem])) ?_
  rw [show ZX 2 1 5=true from by decide]
  simp only [go_sem,zq,Int.reduceLT,Int.reduceLE,Int.reduceToNat,Int.reduceAdd,frz,zo,zad,t0]
  refine za (.pureE (zm 1 0 1) (by simp [go_sem])) ?_
  rw [show ZX 1 0 1=true from by decide]
  simp only [go_sem,zq,Int.reduceLT,Int.reduceLE,Int.reduceToNat,Int.reduceAdd,frz,zo,cWo,cWd]
  refine za (.heapE [] (r' := .agg [.arr 3 2,.arr 4 2]) (H' := [.box (cWo w),.box (zo 2 1 n 0 t),.box [.nilsl,.nilsl]] ++ hCW w w) (zM w) (by simp) (by simp) (by simp [go_sem,cWo,cWd]) rfl rfl rfl) ?_
  simp only [go_sem,zq,Int.reduceLT,Int.reduceLE,Int.reduceToNat,Int.reduceAdd,frz,zo,hCW,cWo,cWd,Wo.ss,Wo.ys,cYs,zp,cSi,List.map_cons,List.map_nil,List.cons_append,List.nil_append,List.length_map,hwl]
  refine za (.pureE (zm n 0 ((w.b.length:Int) - 1)) (by simp [go_sem])) ?_
  rw [hf]
  rw [hn]
  simp only [go_sem,zq,Int.reduceLT,Int.reduceLE,Int.reduceToNat,Int.reduceAdd,frz,zo,zp,cSi]
  have hrc:zg Tryz.prog 64 [.agg (cSi 1 w.q w.v),.agg (cE (nth w.b q))] [] (.tup [.agg (zp (1,P,U)),.int .i64 0]) []:=hrc
  simp only [go_sem,zq,Int.reduceLT,Int.reduceLE,Int.reduceToNat,Int.reduceAdd,frz,hgq,hq,cE,zp,cSi]
  refine za (.pureE hrc (by simp [go_sem,cSi,cE])) ?_
  simp only [go_sem,zq,Int.reduceLT,Int.reduceLE,Int.reduceToNat,Int.reduceAdd,frz,zp,cSi,zo]
  repeat refine ⟨rfl,?_⟩
  try simp only [go_sem,zq,Int.reduceLT,Int.reduceLE,Int.reduceToNat,Int.reduceAdd,frz,zo,zp,cSi]
  refine za (.pureE (zbC w.b q hq (by omega)) (by simp [go_sem])) ?_
  simp only [go_sem,zq,Int.reduceLT,Int.reduceLE,Int.reduceToNat,Int.reduceAdd,frz,zp,cSi,zo]
  repeat refine ⟨rfl,?_⟩
  try simp only [go_sem,zq,Int.reduceLT,Int.reduceLE,Int.reduceToNat,Int.reduceAdd,frz]
  refine zt (Z6 4 rfl rfl (by simp [frz,PV.isPure])) ?_
  refine zt (zx 3 rfl) ?_
  refine zb hx ?_
  simp [go_sem,L10,R10,cWo,cWd,cYs,Wo.ys,Wo.ss,zp,cSi,zu,pos,frz]
  first | rfl | simp [Wo.setS,Wo.setY,Wo.way]
theorem zwk (w:Wo) (h:WoOk w) (i:Int) (q:Nat) (t:ByteArray) (t0:t.size=0) (hi:i=0∨i=1) (hq:q < (w.way i).length):zg Tryz.prog 10 [.agg (cWo w),.agg (zo 3 i q 0 t)] [] (.tup [.agg (cWo (w.setY i ((w.way i).eraseIdx q))),.int .i64 0]) []:=by
 have la:=h.la
 have lb:=h.lb
 rcases hi with rfl | rfl
 ·
  skip
  have hq:q < w.a.length:=hq
  have hwl:IntKind.i64.wrap ((w.a.length:Int) - 1)=(w.a.length:Int) - 1:=by rw [IntWalk.i64_in _ (by omega)]
  have hf:ZX (q:Int) 0 ((w.a.length:Int) - 1)=true:=zX.2 (by omega)
  have hgq:w.a[q]? = some (nth w.a q):=zk _ _ hq
  obtain ⟨n,hn⟩:∃ n:Int,n=(q:Int):=⟨_,rfl⟩
  rw [← hn] at hf ⊢
  refine zg.of_walk Tryz.func10 Tryz.ntmps10 zdF zdG (by simp) fun x hx=>?_
  simp only [go_sem,L10,R10,cWo,cWd,zo]
  refine za (.pureE (zm 3 1 5) (by simp [go_sem])) ?_
  rw [show ZX 3 1 5=true from by decide]
  simp only [go_sem,zq,Int.reduceLT,Int.reduceLE,Int.reduceToNat,Int.reduceAdd,frz,zo,zad,t0]
  refine za (.pureE (zm 0 0 1) (by simp [go_sem])) ?_
  rw [show ZX 0 0 1=true from by decide]
  simp only [go_sem,zq,Int.reduceLT,Int.reduceLE,Int.reduceToNat,Int.reduceAdd,frz,zo,cWo,cWd]
  refine za (.heapE [] (r' := .agg [.arr 3 2,.arr 4 2]) (H' := [.box (cWo w),.box (zo 3 0 n 0 t),.box [.nilsl,.nilsl]] ++ hCW w w) (zM w) (by simp) (by simp) (by simp [go_sem,cWo,cWd]) rfl rfl rfl) ?_
  simp only [go_sem,zq,Int.reduceLT,Int.reduceLE,Int.reduceToNat,Int.reduceAdd,frz,zo,hCW,cWo,cWd,Wo.ss,Wo.ys,cYs,zp,cSi,List.map_cons,List.map_nil,List.cons_append,List.nil_append,List.length_map,hwl]
  refine za (.pureE (zm n 0 ((w.a.length:Int) - 1)) (by simp [go_sem])) ?_
  rw [hf]
  rw [hn]
  simp only [go_sem,zq,Int.reduceLT,Int.reduceLE,Int.reduceToNat,Int.reduceAdd,frz,zo,zp,cSi]
  refine za (.pureE (zbC w.a q hq (by omega)) (by simp [go_sem])) ?_
  simp only [go_sem,zq,Int.reduceLT,Int.reduceLE,Int.reduceToNat,Int.reduceAdd,frz,zp,cSi,zo]
  repeat refine ⟨rfl,?_⟩
  try simp only [go_sem,zq,Int.reduceLT,Int.reduceLE,Int.reduceToNat,Int.reduceAdd,frz]
  refine zt (Z6 4 rfl rfl (by simp [frz,PV.isPure])) ?_
  refine zt (zx 3 rfl) ?_
  refine zb hx ?_
  simp [go_sem,L10,R10,cWo,cWd,cYs,Wo.ys,Wo.ss,zp,cSi,zu,pos,frz]
  first | rfl | simp [Wo.setS,Wo.setY,Wo.way]
 ·
  skip
  have hq:q < w.b.length:=hq
  have hwl:IntKind.i64.wrap ((w.b.length:Int) - 1)=(w.b.length:Int) - 1:=by rw [IntWalk.i64_in _ (by omega)]
  have hf:ZX (q:Int) 0 ((w.b.length:Int) - 1)=true:=zX.2 (by omega)
  have hgq:w.b[q]? = some (nth w.b q):=zk _ _ hq
  obtain ⟨n,hn⟩:∃ n:Int,n=(q:Int):=⟨_,rfl⟩
  rw [← hn] at hf ⊢
  refine zg.of_walk Tryz.func10 Tryz.ntmps10 zdF zdG (by simp) fun x hx=>?_
  simp only [go_sem,L10,R10,cWo,cWd,zo]
  refine za (.pureE (zm 3 1 5) (by simp [go_sem])) ?_
  rw [show ZX 3 1 5=true from by decide]
  simp only [go_sem,zq,Int.reduceLT,Int.reduceLE,Int.reduceToNat,Int.reduceAdd,frz,zo,zad,t0]
  refine za (.pureE (zm 1 0 1) (by simp [go_sem])) ?_
  rw [show ZX 1 0 1=true from by decide]
  simp only [go_sem,zq,Int.reduceLT,Int.reduceLE,Int.reduceToNat,Int.reduceAdd,frz,zo,cWo,cWd]
  refine za (.heapE [] (r' := .agg [.arr 3 2,.arr 4 2]) (H' := [.box (cWo w),.box (zo 3 1 n 0 t),.box [.nilsl,.nilsl]] ++ hCW w w) (zM w) (by simp) (by simp) (by simp [go_sem,cWo,cWd]) rfl rfl rfl) ?_
  simp only [go_sem,zq,Int.reduceLT,Int.reduceLE,Int.reduceToNat,Int.reduceAdd,frz,zo,hCW,cWo,cWd,Wo.ss,Wo.ys,cYs,zp,cSi,List.map_cons,List.map_nil,List.cons_append,List.nil_append,List.length_map,hwl]
  refine za (.pureE (zm n 0 ((w.b.length:Int) - 1)) (by simp [go_sem])) ?_
  rw [hf]
  rw [hn]
  simp only [go_sem,zq,Int.reduceLT,Int.reduceLE,Int.reduceToNat,Int.reduceAdd,frz,zo,zp,cSi]
  refine za (.pureE (zbC w.b q hq (by omega)) (by simp [go_sem])) ?_
  simp only [go_sem,zq,Int.reduceLT,Int.reduceLE,Int.reduceToNat,Int.reduceAdd,frz,zp,cSi,zo]
  repeat refine ⟨rfl,?_⟩
  try simp only [go_sem,zq,Int.reduceLT,Int.reduceLE,Int.reduceToNat,Int.reduceAdd,frz]
  refine zt (Z6 4 rfl rfl (by simp [frz,PV.isPure])) ?_
  refine zt (zx 3 rfl) ?_
  refine zb hx ?_
  simp [go_sem,L10,R10,cWo,cWd,cYs,Wo.ys,Wo.ss,zp,cSi,zu,pos,frz]
  first | rfl | simp [Wo.setS,Wo.setY,Wo.way]
theorem zwl (w : Wo) (h : WoOk w) (i : Int) (q : Nat) (t : ByteArray) (t0 : t.size = 0) (hi : i = 0 ∨ i = 1) (hq : q < (w.way i).length) : zg Tryz.prog 10 [.agg (cWo w), .agg (zo 4 i q 0 t)] []
    (.tup [.agg (if (w.way i).length=30 then za2 else cWo (w.setY i (w.way i ++ [nth (w.way i) q]))),.int .i64 (if (w.way i).length=30 then 2 else 0)]) []:=by
  have la:=h.la
  have lb:=h.lb
  rcases hi with rfl | rfl
  · skip
    by_cases h30:(w.a.length:Int)=30
    · rw [if_pos (show (w.way 0).length=30 by show w.a.length=30; omega),if_pos (show (w.way 0).length=30 by show w.a.length=30; omega)]
      have hq:q < w.a.length:=hq
      have hwl:IntKind.i64.wrap ((w.a.length:Int) - 1)=(w.a.length:Int) - 1:=by rw [IntWalk.i64_in _ (by omega)]
      have hf:ZX (q:Int) 0 ((w.a.length:Int) - 1)=true:=zX.2 (by omega)
      have hgq:w.a[q]? = some (nth w.a q):=zk _ _ hq
      obtain ⟨n,hn⟩:∃ n:Int,n=(q:Int):=⟨_,rfl⟩
      rw [← hn] at hf ⊢
      refine zg.of_walk Tryz.func10 Tryz.ntmps10 zdF zdG (by simp) fun x hx=>?_
      simp only [go_sem,L10,R10,cWo,cWd,zo]
      refine za (.pureE (zm 4 1 5) (by simp [go_sem])) ?_
      rw [show ZX 4 1 5=true from by decide]
      simp only [go_sem,zq,Int.reduceLT,Int.reduceLE,Int.reduceToNat,Int.reduceAdd,frz,zo,zad,t0]
      refine za (.pureE (zm 0 0 1) (by simp [go_sem])) ?_
      rw [show ZX 0 0 1=true from by decide]
      simp only [go_sem,zq,Int.reduceLT,Int.reduceLE,Int.reduceToNat,Int.reduceAdd,frz,zo,cWo,cWd]
      refine za (.heapE [] (r' := .agg [.arr 3 2,.arr 4 2]) (H' := [.box (cWo w),.box (zo 4 0 n 0 t),.box [.nilsl,.nilsl]] ++ hCW w w) (zM w) (by simp) (by simp) (by simp [go_sem,cWo,cWd]) rfl rfl rfl) ?_
      simp only [go_sem,zq,Int.reduceLT,Int.reduceLE,Int.reduceToNat,Int.reduceAdd,frz,zo,hCW,cWo,cWd,Wo.ss,Wo.ys,cYs,zp,cSi,List.map_cons,List.map_nil,List.cons_append,List.nil_append,List.length_map,hwl]
      refine za (.pureE (zm n 0 ((w.a.length:Int) - 1)) (by simp [go_sem])) ?_
      rw [hf]
      rw [hn]
      simp only [go_sem,zq,Int.reduceLT,Int.reduceLE,Int.reduceToNat,Int.reduceAdd,frz,zo,zp,cSi]
      simp only [go_sem,zq,Int.reduceLT,Int.reduceLE,Int.reduceToNat,Int.reduceAdd,frz,h30,List.length_map]
      refine zb hx ?_
      simp [go_sem,L10,R10,za2]
    · rw [if_neg (show ¬ (w.way 0).length=30 by show ¬ w.a.length=30; omega),if_neg (show ¬ (w.way 0).length=30 by show ¬ w.a.length=30; omega)]
      have hq:q < w.a.length:=hq
      have hwl:IntKind.i64.wrap ((w.a.length:Int) - 1)=(w.a.length:Int) - 1:=by rw [IntWalk.i64_in _ (by omega)]
      have hf:ZX (q:Int) 0 ((w.a.length:Int) - 1)=true:=zX.2 (by omega)
      have hgq:w.a[q]? = some (nth w.a q):=zk _ _ hq
      obtain ⟨n,hn⟩:∃ n:Int,n=(q:Int):=⟨_,rfl⟩
      rw [← hn] at hf ⊢
      refine zg.of_walk Tryz.func10 Tryz.ntmps10 zdF zdG (by simp) fun x hx=>?_
      simp only [go_sem,L10,R10,cWo,cWd,zo]
      refine za (.pureE (zm 4 1 5) (by simp [go_sem])) ?_
      rw [show ZX 4 1 5=true from by decide]
      simp only [go_sem,zq,Int.reduceLT,Int.reduceLE,Int.reduceToNat,Int.reduceAdd,frz,zo,zad,t0]
      refine za (.pureE (zm 0 0 1) (by simp [go_sem])) ?_
      rw [show ZX 0 0 1=true from by decide]
      simp only [go_sem,zq,Int.reduceLT,Int.reduceLE,Int.reduceToNat,Int.reduceAdd,frz,zo,cWo,cWd]
      refine za (.heapE [] (r' := .agg [.arr 3 2,.arr 4 2]) (H' := [.box (cWo w),.box (zo 4 0 n 0 t),.box [.nilsl,.nilsl]] ++ hCW w w) (zM w) (by simp) (by simp) (by simp [go_sem,cWo,cWd]) rfl rfl rfl) ?_
      simp only [go_sem,zq,Int.reduceLT,Int.reduceLE,Int.reduceToNat,Int.reduceAdd,frz,zo,hCW,cWo,cWd,Wo.ss,Wo.ys,cYs,zp,cSi,List.map_cons,List.map_nil,List.cons_append,List.nil_append,List.length_map,hwl]
      refine za (.pureE (zm n 0 ((w.a.length:Int) - 1)) (by simp [go_sem])) ?_
      rw [hf]
      rw [hn]
      simp only [go_sem,zq,Int.reduceLT,Int.reduceLE,Int.reduceToNat,Int.reduceAdd,frz,zo,zp,cSi]
      simp only [go_sem,zq,Int.reduceLT,Int.reduceLE,Int.reduceToNat,Int.reduceAdd,frz,h30,List.length_map]
      rw [zB rfl rfl (zba w.a) (by simp; omega)]
      simp only [go_sem,zq,Int.reduceLT,Int.reduceLE,Int.reduceToNat,Int.reduceAdd,frz,hgq,hq,cE]
      rw [zB rfl rfl (by simp) (by simp; omega)]
      have hce:List.map cE w.a ++ [[PV.int .i64 (nth w.a q).id.r,.int .i64 (nth w.a q).id.n,.int .i64 (nth w.a q).c,.str (nth w.a q).t,.list ((nth w.a q).ls.map cId)]]=(w.a ++ [nth w.a q]).map cE:=by simp [cE]
      simp only [go_sem,zq,Int.reduceLT,Int.reduceLE,Int.reduceToNat,Int.reduceAdd,frz,hce]
      repeat refine ⟨rfl,?_⟩
      try simp only [go_sem,zq,Int.reduceLT,Int.reduceLE,Int.reduceToNat,Int.reduceAdd,frz]
      refine zt (zx 6 rfl) ?_
      refine zt (Z6 4 rfl rfl (by simp [frz,PV.isPure])) ?_
      refine zt (zx 3 rfl) ?_
      refine zb hx ?_
      simp [go_sem,L10,R10,cWo,cWd,cYs,Wo.ys,Wo.ss,zp,cSi,zu,pos,frz]
      first | rfl | simp [Wo.setS,Wo.setY,Wo.way]
  · skip
    by_cases h30:(w.b.length:Int)=30
    · rw [if_pos (show (w.way 1).length=30 by show w.b.length=30; omega),if_pos (show (w.way 1).length=30 by show w.b.length=30; omega)]
      have hq:q < w.b.length:=hq
      have hwl:IntKind.i64.wrap ((w.b.length:Int) - 1)=(w.b.length:Int) - 1:=by rw [IntWalk.i64_in _ (by omega)]
      have hf:ZX (q:Int) 0 ((w.b.length:Int) - 1)=true:=zX.2 (by omega)
      have hgq:w.b[q]? = some (nth w.b q):=zk _ _ hq
      obtain ⟨n,hn⟩:∃ n:Int,n=(q:Int):=⟨_,rfl⟩
      rw [← hn] at hf ⊢
      refine zg.of_walk Tryz.func10 Tryz.ntmps10 zdF zdG (by simp) fun x hx=>?_
      simp only [go_sem,L10,R10,cWo,cWd,zo]
      refine za (.pureE (zm 4 1 5) (by simp [go_sem])) ?_
      rw [show ZX 4 1 5=true from by decide]
      simp only [go_sem,zq,Int.reduceLT,Int.reduceLE,Int.reduceToNat,Int.reduceAdd,frz,zo,zad,t0]
      refine za (.pureE (zm 1 0 1) (by simp [go_sem])) ?_
      rw [show ZX 1 0 1=true from by decide]
      simp only [go_sem,zq,Int.reduceLT,Int.reduceLE,Int.reduceToNat,Int.reduceAdd,frz,zo,cWo,cWd]
      refine za (.heapE [] (r' := .agg [.arr 3 2,.arr 4 2]) (H' := [.box (cWo w),.box (zo 4 1 n 0 t),.box [.nilsl,.nilsl]] ++ hCW w w) (zM w) (by simp) (by simp) (by simp [go_sem,cWo,cWd]) rfl rfl rfl) ?_
      simp only [go_sem,zq,Int.reduceLT,Int.reduceLE,Int.reduceToNat,Int.reduceAdd,frz,zo,hCW,cWo,cWd,Wo.ss,Wo.ys,cYs,zp,cSi,List.map_cons,List.map_nil,List.cons_append,List.nil_append,List.length_map,hwl]
      refine za (.pureE (zm n 0 ((w.b.length:Int) - 1)) (by simp [go_sem])) ?_
      rw [hf]
      rw [hn]
      simp only [go_sem,zq,Int.reduceLT,Int.reduceLE,Int.reduceToNat,Int.reduceAdd,frz,zo,zp,cSi]
      simp only [go_sem,zq,Int.reduceLT,Int.reduceLE,Int.reduceToNat,Int.reduceAdd,frz,h30,List.length_map]
      refine zb hx ?_
      simp [go_sem,L10,R10,za2]
    · rw [if_neg (show ¬ (w.way 1).length=30 by show ¬ w.b.length=30; omega),if_neg (show ¬ (w.way 1).length=30 by show ¬ w.b.length=30; omega)]
      have hq:q < w.b.length:=hq
      have hwl:IntKind.i64.wrap ((w.b.length:Int) - 1)=(w.b.length:Int) - 1:=by rw [IntWalk.i64_in _ (by omega)]
      have hf:ZX (q:Int) 0 ((w.b.length:Int) - 1)=true:=zX.2 (by omega)
      have hgq:w.b[q]? = some (nth w.b q):=zk _ _ hq
      obtain ⟨n,hn⟩:∃ n:Int,n=(q:Int):=⟨_,rfl⟩
      rw [← hn] at hf ⊢
      refine zg.of_walk Tryz.func10 Tryz.ntmps10 zdF zdG (by simp) fun x hx=>?_
      simp only [go_sem,L10,R10,cWo,cWd,zo]
      refine za (.pureE (zm 4 1 5) (by simp [go_sem])) ?_
      rw [show ZX 4 1 5=true from by decide]
      simp only [go_sem,zq,Int.reduceLT,Int.reduceLE,Int.reduceToNat,Int.reduceAdd,frz,zo,zad,t0]
      refine za (.pureE (zm 1 0 1) (by simp [go_sem])) ?_
      rw [show ZX 1 0 1=true from by decide]
      simp only [go_sem,zq,Int.reduceLT,Int.reduceLE,Int.reduceToNat,Int.reduceAdd,frz,zo,cWo,cWd]
      refine za (.heapE [] (r' := .agg [.arr 3 2,.arr 4 2]) (H' := [.box (cWo w),.box (zo 4 1 n 0 t),.box [.nilsl,.nilsl]] ++ hCW w w) (zM w) (by simp) (by simp) (by simp [go_sem,cWo,cWd]) rfl rfl rfl) ?_
      simp only [go_sem,zq,Int.reduceLT,Int.reduceLE,Int.reduceToNat,Int.reduceAdd,frz,zo,hCW,cWo,cWd,Wo.ss,Wo.ys,cYs,zp,cSi,List.map_cons,List.map_nil,List.cons_append,List.nil_append,List.length_map,hwl]
      refine za (.pureE (zm n 0 ((w.b.length:Int) - 1)) (by simp [go_sem])) ?_
      rw [hf]
      rw [hn]
      simp only [go_sem,zq,Int.reduceLT,Int.reduceLE,Int.reduceToNat,Int.reduceAdd,frz,zo,zp,cSi]
      simp only [go_sem,zq,Int.reduceLT,Int.reduceLE,Int.reduceToNat,Int.reduceAdd,frz,h30,List.length_map]
      rw [zB rfl rfl (zba w.b) (by simp; omega)]
      simp only [go_sem,zq,Int.reduceLT,Int.reduceLE,Int.reduceToNat,Int.reduceAdd,frz,hgq,hq,cE]
      rw [zB rfl rfl (by simp) (by simp; omega)]
      have hce:List.map cE w.b ++ [[PV.int .i64 (nth w.b q).id.r,.int .i64 (nth w.b q).id.n,.int .i64 (nth w.b q).c,.str (nth w.b q).t,.list ((nth w.b q).ls.map cId)]]=(w.b ++ [nth w.b q]).map cE:=by simp [cE]
      simp only [go_sem,zq,Int.reduceLT,Int.reduceLE,Int.reduceToNat,Int.reduceAdd,frz,hce]
      repeat refine ⟨rfl,?_⟩
      try simp only [go_sem,zq,Int.reduceLT,Int.reduceLE,Int.reduceToNat,Int.reduceAdd,frz]
      refine zt (zx 6 rfl) ?_
      refine zt (Z6 4 rfl rfl (by simp [frz,PV.isPure])) ?_
      refine zt (zx 3 rfl) ?_
      refine zb hx ?_
      simp [go_sem,L10,R10,cWo,cWd,cYs,Wo.ys,Wo.ss,zp,cSi,zu,pos,frz]
      first | rfl | simp [Wo.setS,Wo.setY,Wo.way]
theorem zmM (w:Wo) (h:WoOk w) (k i n c:Int) (t:ByteArray):zg Tryz.prog 10 [.agg (cWo w),.agg (zo k i n c t)] [] (.tup [.agg (doC w k i n c t),.int .i64 (ZF w k i n c t)]) []:=by
 by_cases hk:k < 1∨5 < k
 ·
  have e:ZF w k i n c t=7:=by rw [ZF,if_pos hk]
  rw [doC,e,if_neg (by decide)]
  exact zo2 w k i n c t hk
 ·
  by_cases he:Z3 k n c t=true
  ·
   have e:ZF w k i n c t=1:=by rw [ZF,if_neg hk,if_pos he]
   rw [doC,e,if_neg (by decide)]
   exact zmL w k i n c t hk he
  ·
   by_cases hi:i=0∨i=1
   ·
    have e:ZF w k i n c t=zN w k i n c t:=by rw [ZF,if_neg hk,if_neg he,if_neg (by simp [hi])]
    rw [doC,e]
    by_cases k1:k=1
    ·
     subst k1
     have n0:n=0:=by simpa [Z3] using he
     subst n0
     have e2:zN w 1 i 0 c t=zO i (w.log i) c t:=by rw [zN,if_pos rfl]
     have e3:doW w 1 i 0 c t=zay (w.setS i (zv (w.log i ++ [apE i (w.log i) c t]) (w.wts i))) (1 - i) (apE i (w.log i) c t):=by rw [doW,if_pos rfl]
     rw [e2,e3]
     exact zwh w h i c t hi
    ·
     have c0:c=0:=by
      by_cases c0:c=0
      ·
       exact c0
      ·
       exact (he (by simp [Z3,k1,c0])).elim
     have t0:t.size=0:=by
      by_cases t0:t.size=0
      ·
       exact t0
      ·
       exact (he (by simp [Z3,k1,t0])).elim
     subst c0
     by_cases k5:k=5
     ·
      subst k5
      have n0:n=0:=by simpa [Z3,t0] using he
      subst n0
      have e2:zN w 5 i 0 0 t=0:=by rw [zN,if_neg (by decide),if_pos rfl]; exact (zd6 h hi).1
      have e3:doW w 5 i 0 0 t=w.setS i (zcU w i).2:=by rw [doW,if_neg (by decide),if_pos rfl]
      rw [e2,if_pos rfl,e3]
      exact zwg w h i t t0 hi
     ·
      have hk3:k=2∨k=3∨k=4:=by omega
      by_cases hn:n < 0∨((w.way i).length:Int)≤n
      ·
       have e2:zN w k i n 0 t=5:=by rw [zN,if_neg k1,if_neg k5,if_pos hn]
       rw [e2,if_neg (by decide)]
       exact zwi w h k i n t t0 hk3 hi hn
      ·
       obtain ⟨q,rfl⟩:∃ q:Nat,n=q:=⟨n.toNat,by omega⟩
       have hq:q < (w.way i).length:=by omega
       rcases hk3 with rfl | rfl | rfl
       ·
        obtain ⟨-,y2,y3⟩:=h.by_ hi
        have hm:=zcT hq
        have hr0:=zik h hi (y2 _ hm) (y3 _ hm)
        have e2:zN w 2 i q 0 t=0:=by rw [zN,if_neg (by decide),if_neg (by decide),if_neg hn,if_pos rfl,Int.toNat_natCast]; exact hr0
        have e3:doW w 2 i q 0 t=(w.setS i (zas i (w.log i) (w.wts i) (nth (w.way i) q)).2).setY i ((w.way i).eraseIdx q):=by rw [doW,if_neg (by decide),if_neg (by decide),if_pos rfl,Int.toNat_natCast]
        rw [e2,if_pos rfl,e3]
        exact zwj w h i q t t0 hi hq
       ·
        have e2:zN w 3 i q 0 t=0:=by rw [zN,if_neg (by decide),if_neg (by decide),if_neg hn,if_neg (by decide),if_pos rfl]
        have e3:doW w 3 i q 0 t=w.setY i ((w.way i).eraseIdx q):=by rw [doW,if_neg (by decide),if_neg (by decide),if_neg (by decide),if_pos rfl,Int.toNat_natCast]
        rw [e2,if_pos rfl,e3]
        exact zwk w h i q t t0 hi hq
       ·
        have e2:zN w 4 i q 0 t=if (w.way i).length=30 then 2 else 0:=by rw [zN,if_neg (by decide),if_neg (by decide),if_neg hn,if_neg (by decide),if_neg (by decide)]
        have e3:doW w 4 i q 0 t=w.setY i (w.way i ++ [nth (w.way i) q]):=by rw [doW,if_neg (by decide),if_neg (by decide),if_neg (by decide),if_neg (by decide),Int.toNat_natCast]
        have:=zwl w h i q t t0 hi hq
        rw [e2,e3]
        by_cases h30:(w.way i).length=30
        ·
         simp only [if_pos h30] at this ⊢
         rwa [if_neg (by decide)]
        ·
         simp only [if_neg h30,if_true] at this ⊢
         exact this
   ·
    have e:ZF w k i n c t=3:=by rw [ZF,if_neg hk,if_neg he,if_pos hi]
    rw [doC,e,if_neg (by decide)]
    exact zs7 w k i n c t hk he hi
def zo3:ByteArray:=⟨#[112,117,116,32,97,32,120]⟩
def zo4:ByteArray:=⟨#[112,117,116,32,97,32,121]⟩
def zo5:ByteArray:=⟨#[112,117,116,32,98,32,122]⟩
def wa1:Entry:=⟨⟨0,1⟩,1,zo3,[]⟩
def wb1:Entry:=⟨⟨1,1⟩,1,zo4,[]⟩
def wb2:Entry:=⟨⟨1,2⟩,1,zo5,[⟨0,1⟩,⟨1,1⟩]⟩
def zmN:Wo:=⟨[wa1],[],[],[],[],[wa1]⟩
def zm6:Wo:=⟨[wa1],[],[wb1],[],[wb1],[wa1]⟩
def zmO:Wo:=⟨[wa1],[],[wb1,wa1],[],[wb1],[]⟩
def zlF:Wo:=⟨[wa1],[],[wb1,wa1],[],[],[]⟩
def zm7:Wo:=⟨[wa1],[],[wb1,wa1,wb2],[],[wb2],[]⟩
def zfL:Wo:=⟨[wa1],[wb2],[wb1,wa1,wb2],[],[],[]⟩
def wbS:Wo:=⟨[wa1,wb1,wb2],[],[wb1,wa1,wb2],[],[],[]⟩
def wbA:List (List PV) := [zo 1 0 0 1 zo3,zo 1 1 0 1 zo4,zo 2 1 0 0 ⟨#[]⟩,zo 3 0 0 0 ⟨#[]⟩,zo 1 1 0 1 zo5,zo 2 0 0 0 ⟨#[]⟩]
theorem zqZ:Zv (Za [] 1) = []:=by rw [← zdv (zaQ.1 (by decide +kernel))]; decide +kernel
theorem zwm:Zv (Za [wb1,wa1] 1) = [⟨0,1⟩,⟨1,1⟩]:=by rw [← zdv (zaQ.1 (by decide +kernel))]; decide +kernel
theorem zwn:WoOk zlv:=Z8.1 (by decide +kernel)
theorem zwo:WoOk zmN:=Z8.1 (by decide +kernel)
theorem zwp:WoOk zm6:=Z8.1 (by decide +kernel)
theorem zwq:WoOk zmO:=Z8.1 (by decide +kernel)
theorem zwr:WoOk zlF:=Z8.1 (by decide +kernel)
theorem zws:WoOk zm7:=Z8.1 (by decide +kernel)
theorem zhC:WoOk zfL:=Z8.1 (by decide +kernel)
theorem zwt:apE 0 [] 1 zo3=wa1:=by rw [apE,zqZ]; rfl
theorem zwu:apE 1 [] 1 zo4=wb1:=by rw [apE,zqZ]; rfl
theorem zwv:apE 1 [wb1,wa1] 1 zo5=wb2:=by rw [apE,zwm]; rfl
theorem zzT:zO 0 [] 1 zo3=0:=by rw [zO,zqZ]; decide +kernel
theorem zzU:zO 1 [] 1 zo4=0:=by rw [zO,zqZ]; decide +kernel
theorem zzV:zO 1 [wb1,wa1] 1 zo5=0:=by rw [zO,zwm]; decide +kernel
theorem zgA {w:Wo} {i c:Int} {t:ByteArray} (hi:i=0∨i=1) (h:zO i (w.log i) c t=0):ZF w 1 i 0 c t=0:=by
 rw [ZF,if_neg (by decide),if_neg (by simp [Z3]),if_neg (by simp [hi]),zN,if_pos rfl,h]
theorem ze6 {w:Wo} {i c:Int} {t:ByteArray} {e:Entry} (h:apE i (w.log i) c t=e):doW w 1 i 0 c t=zay (w.setS i (zv (w.log i ++ [e]) (w.wts i))) (1 - i) e:=by
 rw [doW,if_pos rfl,h]
theorem zs8:ZF zlv 1 0 0 1 zo3=0:=zgA (w:=zlv) (.inl rfl) zzT
theorem zs9:ZF zmN 1 1 0 1 zo4=0:=zgA (w:=zmN) (.inr rfl) zzU
theorem zta:ZF zlF 1 1 0 1 zo5=0:=zgA (w:=zlF) (.inr rfl) zzV
theorem zzW:doC zlv 1 0 0 1 zo3=cWo zmN:=by
 rw [doC,if_pos zs8,ze6 (w:=zlv) (e:=wa1) zwt]; rfl
theorem zzX:doC zmN 1 1 0 1 zo4=cWo zm6:=by
 rw [doC,if_pos zs9,ze6 (w:=zmN) (e:=wb1) zwu]; rfl
theorem ztb:ZF zm6 2 1 0 0 ⟨#[]⟩=0:=by decide +kernel
theorem zww:doW zm6 2 1 0 0 ⟨#[]⟩=zmO:=by kernel_rfl
theorem zzY:doC zm6 2 1 0 0 ⟨#[]⟩=cWo zmO:=by rw [doC,if_pos ztb,zww]
theorem ztc:ZF zmO 3 0 0 0 ⟨#[]⟩=0:=by decide +kernel
theorem zwx:doW zmO 3 0 0 0 ⟨#[]⟩=zlF:=by kernel_rfl
theorem zzZ:doC zmO 3 0 0 0 ⟨#[]⟩=cWo zlF:=by rw [doC,if_pos ztc,zwx]
theorem zz0:doC zlF 1 1 0 1 zo5=cWo zm7:=by
 rw [doC,if_pos zta,ze6 (w:=zlF) (e:=wb2) zwv]; rfl
theorem ztd:ZF zm7 2 0 0 0 ⟨#[]⟩=0:=by decide +kernel
theorem zwy:doW zm7 2 0 0 0 ⟨#[]⟩=zfL:=by kernel_rfl
theorem zz1:doC zm7 2 0 0 0 ⟨#[]⟩=cWo zfL:=by rw [doC,if_pos ztd,zwy]
theorem zz2:stW zfL=wbS:=by kernel_rfl
theorem Zp:zg Tryz.prog 51 [] [] (.list wbA) []:=by
 refine zg.of_walk Tryz.func51 Tryz.ntmps51 zyc zyd (by simp) fun x hx=>?_
 simp only [go_sem,L51,R51]
 refine zb hx ?_
 simp [go_sem,L51,R51,wbA,zo,zo3,zo4,zo5]
def zq0:Nat→Wo
 | 0=>zfL
 | 1=>zm7
 | 2=>zlF
 | 3=>zmO
 | 4=>zm6
 | 5=>zmN
 | _=>zlv
theorem zwz:zq0 1=zm7:=rfl
theorem zwA:zq0 2=zlF:=rfl
theorem zwB:zq0 3=zmO:=rfl
theorem zwC:zq0 4=zm6:=rfl
theorem zwD:zq0 5=zmN:=rfl
theorem zz3:zq0 0=zfL:=rfl
theorem zwE:zq0 6=zlv:=rfl
theorem zfz:zg Tryz.prog 5 [] [] (.bool true) []:=by
 have d1:=ze5 zlv zwn 1 0 0 1 zo3
 have d2:=ze5 zmN zwo 1 1 0 1 zo4
 have d3:=ze5 zm6 zwp 2 1 0 0 ⟨#[]⟩
 have d4:=ze5 zmO zwq 3 0 0 0 ⟨#[]⟩
 have d5:=ze5 zlF zwr 1 1 0 1 zo5
 have d6:=ze5 zm7 zws 2 0 0 0 ⟨#[]⟩
 rw [zzW,zs8] at d1
 rw [zzX,zs9] at d2
 rw [zzY,ztb] at d3
 rw [zzZ,ztc] at d4
 rw [zz0,zta] at d5
 rw [zz1,ztd] at d6
 have hst:=zjM zfL zhC
 rw [zz2] at hst
 obtain ⟨o1,o2⟩:=zdl zhC
 have hck:=Z4 zfL.ss zfL.ys (by simp [Wo.ss]) (by simp [Wo.ys]) o1 o2
 rw [Z8.2 zhC] at hck
 have wrk:∀ k:Int,0≤k→k < 7→IntKind.i64.wrap k=k:=fun k h1 h2=>by rw [IntKind.wrap_i64]; omega
 refine zg.of_walk Tryz.func5 Tryz.ntmps5 zAq zAr (by simp) fun x hx=>?_
 simp only [go_sem,L5,R5]
 refine za (.pure zgy) ?_
 simp only [go_sem,zq,Int.reduceLT,Int.reduceLE,Int.reduceToNat,Int.reduceAdd,frz,cWo,cWd]
 refine zr [1,2] 1 (fun m st=>m≤6∧st=⟨mkE .top [(1,.ptr 0 0),(2,.int .i64 ((6 - m:Nat):Int))],[.box (cWo (zq0 m))]⟩) 6 (by simp [hx]) (by simp) ?_ ?_
 ·
  refine ⟨by omega,?_⟩
  simp [zi,go_sem,zc,zd,ze,zf,pos,List.range_succ,cWo,cWd,zwE]
 ·
  rintro m st ⟨hm,rfl⟩
  have hm6:m=0∨m=1∨m=2∨m=3∨m=4∨m=5∨m=6:=by omega
  rcases hm6 with rfl | rfl | rfl | rfl | rfl | rfl | rfl
  ·
   have e1:(zq0 0)=zfL:=rfl
   rw [e1]
   simp only [go_sem,zq,Int.reduceLT,Int.reduceLE,Int.reduceToNat,Int.reduceAdd,frz,cWo,cWd]
   refine za (.pure Zp) ?_
   simp only [go_sem,zq,Int.reduceLT,Int.reduceLE,Int.reduceToNat,Int.reduceAdd,frz,wbA,cWo,cWd,zo,List.length_cons,List.length_nil]
   refine za (.pureE hst (by simp [go_sem,cWo,cWd])) ?_
   simp only [go_sem,zq,Int.reduceLT,Int.reduceLE,Int.reduceToNat,Int.reduceAdd,frz,cWo,cWd]
   refine za (.pureE hck (by simp [go_sem,cWd])) ?_
   simp only [go_sem,zq,Int.reduceLT,Int.reduceLE,Int.reduceToNat,Int.reduceAdd,frz,cWo,cWd,Wo.ss,wbS,zfL,zp,cSi,List.map_cons,List.map_nil,List.length_cons,List.length_nil]
   refine zb hx ?_
   simp [go_sem,L5,R5]
  ·
   skip
   rw [zwz]
   simp only [go_sem,zq,Int.reduceLT,Int.reduceLE,Int.reduceToNat,Int.reduceAdd,frz,cWo,cWd]
   refine za (.pure Zp) ?_
   simp only [go_sem,zq,Int.reduceLT,Int.reduceLE,Int.reduceToNat,Int.reduceAdd,frz,wbA,cWo,cWd,zo,List.length_cons,List.length_nil]
   refine za (.pure Zp) ?_
   simp only [go_sem,zq,Int.reduceLT,Int.reduceLE,Int.reduceToNat,Int.reduceAdd,frz,wbA,cWo,cWd,zo,List.length_cons,List.length_nil]
   refine za (.pureE d6 (by simp [go_sem,cWo,cWd,zo])) ?_
   simp only [go_sem,zq,Int.reduceLT,Int.reduceLE,Int.reduceToNat,Int.reduceAdd,frz,cWo,cWd,wrk]
   repeat refine ⟨rfl,?_⟩
   refine ⟨by simp,0,by omega,?_⟩
   simp [zi,go_sem,zc,zd,ze,zf,pos,List.range_succ,cWo,cWd,wrk,zz3]
  ·
   skip
   rw [zwA]
   simp only [go_sem,zq,Int.reduceLT,Int.reduceLE,Int.reduceToNat,Int.reduceAdd,frz,cWo,cWd]
   refine za (.pure Zp) ?_
   simp only [go_sem,zq,Int.reduceLT,Int.reduceLE,Int.reduceToNat,Int.reduceAdd,frz,wbA,cWo,cWd,zo,List.length_cons,List.length_nil]
   refine za (.pure Zp) ?_
   simp only [go_sem,zq,Int.reduceLT,Int.reduceLE,Int.reduceToNat,Int.reduceAdd,frz,wbA,cWo,cWd,zo,List.length_cons,List.length_nil]
   refine za (.pureE d5 (by simp [go_sem,cWo,cWd,zo])) ?_
   simp only [go_sem,zq,Int.reduceLT,Int.reduceLE,Int.reduceToNat,Int.reduceAdd,frz,cWo,cWd,wrk]
   repeat refine ⟨rfl,?_⟩
   refine ⟨by simp,1,by omega,?_⟩
   simp [zi,go_sem,zc,zd,ze,zf,pos,List.range_succ,cWo,cWd,wrk,zwz]
  ·
   skip
   rw [zwB]
   simp only [go_sem,zq,Int.reduceLT,Int.reduceLE,Int.reduceToNat,Int.reduceAdd,frz,cWo,cWd]
   refine za (.pure Zp) ?_
   simp only [go_sem,zq,Int.reduceLT,Int.reduceLE,Int.reduceToNat,Int.reduceAdd,frz,wbA,cWo,cWd,zo,List.length_cons,List.length_nil]
   refine za (.pure Zp) ?_
   simp only [go_sem,zq,Int.reduceLT,Int.reduceLE,Int.reduceToNat,Int.reduceAdd,frz,wbA,cWo,cWd,zo,List.length_cons,List.length_nil]
   refine za (.pureE d4 (by simp [go_sem,cWo,cWd,zo])) ?_
   simp only [go_sem,zq,Int.reduceLT,Int.reduceLE,Int.reduceToNat,Int.reduceAdd,frz,cWo,cWd,wrk]
   repeat refine ⟨rfl,?_⟩
   refine ⟨by simp,2,by omega,?_⟩
   simp [zi,go_sem,zc,zd,ze,zf,pos,List.range_succ,cWo,cWd,wrk,zwA]
  ·
   skip
   rw [zwC]
   simp only [go_sem,zq,Int.reduceLT,Int.reduceLE,Int.reduceToNat,Int.reduceAdd,frz,cWo,cWd]
   refine za (.pure Zp) ?_
   simp only [go_sem,zq,Int.reduceLT,Int.reduceLE,Int.reduceToNat,Int.reduceAdd,frz,wbA,cWo,cWd,zo,List.length_cons,List.length_nil]
   refine za (.pure Zp) ?_
   simp only [go_sem,zq,Int.reduceLT,Int.reduceLE,Int.reduceToNat,Int.reduceAdd,frz,wbA,cWo,cWd,zo,List.length_cons,List.length_nil]
   refine za (.pureE d3 (by simp [go_sem,cWo,cWd,zo])) ?_
   simp only [go_sem,zq,Int.reduceLT,Int.reduceLE,Int.reduceToNat,Int.reduceAdd,frz,cWo,cWd,wrk]
   repeat refine ⟨rfl,?_⟩
   refine ⟨by simp,3,by omega,?_⟩
   simp [zi,go_sem,zc,zd,ze,zf,pos,List.range_succ,cWo,cWd,wrk,zwB]
  ·
   skip
   rw [zwD]
   simp only [go_sem,zq,Int.reduceLT,Int.reduceLE,Int.reduceToNat,Int.reduceAdd,frz,cWo,cWd]
   refine za (.pure Zp) ?_
   simp only [go_sem,zq,Int.reduceLT,Int.reduceLE,Int.reduceToNat,Int.reduceAdd,frz,wbA,cWo,cWd,zo,List.length_cons,List.length_nil]
   refine za (.pure Zp) ?_
   simp only [go_sem,zq,Int.reduceLT,Int.reduceLE,Int.reduceToNat,Int.reduceAdd,frz,wbA,cWo,cWd,zo,List.length_cons,List.length_nil]
   refine za (.pureE d2 (by simp [go_sem,cWo,cWd,zo])) ?_
   simp only [go_sem,zq,Int.reduceLT,Int.reduceLE,Int.reduceToNat,Int.reduceAdd,frz,cWo,cWd,wrk]
   repeat refine ⟨rfl,?_⟩
   refine ⟨by simp,4,by omega,?_⟩
   simp [zi,go_sem,zc,zd,ze,zf,pos,List.range_succ,cWo,cWd,wrk,zwC]
  ·
   skip
   rw [zwE]
   simp only [go_sem,zq,Int.reduceLT,Int.reduceLE,Int.reduceToNat,Int.reduceAdd,frz,cWo,cWd]
   refine za (.pure Zp) ?_
   simp only [go_sem,zq,Int.reduceLT,Int.reduceLE,Int.reduceToNat,Int.reduceAdd,frz,wbA,cWo,cWd,zo,List.length_cons,List.length_nil]
   refine za (.pure Zp) ?_
   simp only [go_sem,zq,Int.reduceLT,Int.reduceLE,Int.reduceToNat,Int.reduceAdd,frz,wbA,cWo,cWd,zo,List.length_cons,List.length_nil]
   refine za (.pureE d1 (by simp [go_sem,cWo,cWd,zo])) ?_
   simp only [go_sem,zq,Int.reduceLT,Int.reduceLE,Int.reduceToNat,Int.reduceAdd,frz,cWo,cWd,wrk]
   repeat refine ⟨rfl,?_⟩
   refine ⟨by simp,5,by omega,?_⟩
   simp [zi,go_sem,zc,zd,ze,zf,pos,List.range_succ,cWo,cWd,wrk,zwD]
def sbL:List Entry := [e0,e2]
def sbX:Entry:=⟨⟨1,1⟩,4,⟨#[116]⟩,[]⟩
def sbM:List Entry := [e0,e2,sbX]
def sbY:Entry:=⟨⟨1,2⟩,1,⟨#[117]⟩,[⟨0,2⟩]⟩
theorem zwF:LogOk sbL:=zaQ.1 (by decide +kernel)
theorem zwG:LogOk sbM:=zaQ.1 (by decide +kernel)
theorem zwH:Zv (Za sbL 4) = []:=by rw [← zdv zwF]; decide +kernel
theorem zwI:Zv (Za sbM 1) = [⟨0,2⟩]:=by rw [← zdv zwG]; decide +kernel
theorem zz4:zbs 1 [] [] e2=0:=by decide +kernel
theorem zz5:zdf 1 [] [] e2=(1,[],[e2]):=by kernel_rfl
theorem zz6:zbs 1 [] [e2] e0=0:=by decide +kernel
theorem zz7:zdf 1 [] [e2] e0=(1,sbL,[]):=by kernel_rfl
theorem zte:zL 1 sbL []=0:=by decide +kernel
theorem ztf:zL 1 sbM []=0:=by decide +kernel
theorem zz8:zL 1 (sbM ++ [sbY]) []=0:=by decide +kernel
theorem ztg:zO 1 sbL 4 ⟨#[116]⟩=0:=by rw [zO,zwH]; decide +kernel
theorem zth:zO 1 sbM 1 ⟨#[117]⟩=0:=by rw [zO,zwI]; decide +kernel
theorem zwJ:apE 1 sbL 4 ⟨#[116]⟩=sbX:=by rw [apE,zwH]; rfl
theorem zwK:apE 1 sbM 1 ⟨#[117]⟩=sbY:=by rw [apE,zwI]; rfl
theorem zwL:zcd 1 sbL [] 4 ⟨#[116]⟩=0:=by rw [zcd,if_neg (by simp [zte]),ztg]
theorem zwM:zcd 1 sbM [] 1 ⟨#[117]⟩=0:=by rw [zcd,if_neg (by simp [ztf]),zth]
theorem zwN:zdd 1 sbL [] 4 ⟨#[116]⟩=(1,sbM,[]):=by rw [zdd,if_neg (by simp [zte]),zbq,if_pos ztg,zwJ]; rfl
theorem zwO:zdd 1 sbM [] 1 ⟨#[117]⟩=(1,sbM ++ [sbY],[]):=by rw [zdd,if_neg (by simp [ztf]),zbq,if_pos zth,zwK]; rfl
theorem zwP:zde 1 sbL [] 4 ⟨#[116]⟩=sbX:=by rw [zde,if_neg (by simp [zte]),zbr,if_pos ztg,zwJ]
theorem zwQ:zde 1 sbM [] 1 ⟨#[117]⟩=sbY:=by rw [zde,if_neg (by simp [ztf]),zbr,if_pos zth,zwK]
theorem zgB:zg Tryz.prog 6 [] [] (.bool true) []:=by
 have hent:=zeA
 refine zg.of_walk Tryz.func6 Tryz.ntmps6 zAs zAt (by simp) fun x hx=>?_
 simp only [go_sem,L6,R6]
 refine za (.pureE (zkI 1) (by simp [go_sem])) ?_
 rw [if_pos (.inr rfl),if_pos (.inr rfl)]
 simp only [go_sem,cSi]
 refine za (.pure hent) ?_
 simp only [go_sem,zq,Int.reduceLT,Int.reduceLE,Int.reduceToNat,Int.reduceAdd,frz,cE,List.length_cons,List.length_nil]
 refine za (.pureE (zdg 1 [] [] e2 (by simp) (by simp)) (by simp [go_sem,cSi,cE])) ?_
 rw [zz4,zz5]
 simp only [go_sem,zp,cSi]
 repeat refine ⟨rfl,?_⟩
 refine za (.pure hent) ?_
 simp only [go_sem,zq,Int.reduceLT,Int.reduceLE,Int.reduceToNat,Int.reduceAdd,frz,cE,List.length_cons,List.length_nil]
 refine za (.pureE (zdg 1 [] [e2] e0 (by simp) (by simp)) (by simp [go_sem,cSi,cE])) ?_
 rw [zz6,zz7]
 simp only [go_sem,zp,cSi]
 repeat refine ⟨rfl,?_⟩
 refine za (.pureE (za0 1 sbL [] 4 ⟨#[116]⟩ (by decide) (by simp)) (by simp [go_sem,cSi])) ?_
 rw [zwL,zwN,zwP]
 simp only [go_sem,zp,cSi,cE]
 repeat refine ⟨rfl,?_⟩
 refine za (.pureE (za0 1 sbM [] 1 ⟨#[117]⟩ (by decide) (by simp)) (by simp [go_sem,cSi])) ?_
 rw [zwM,zwO,zwQ]
 simp only [go_sem,zp,cSi,cE]
 repeat refine ⟨rfl,?_⟩
 refine za (.pureE (zaN 1 (sbM ++ [sbY]) [] (by decide) (by simp)) (by simp [go_sem,cSi])) ?_
 rw [zz8]
 have hL:sbL.length=2:=rfl
 have hX:sbX.ls = []:=rfl
 have hY:sbY.ls = [⟨0,2⟩]:=rfl
 have hY1:sbY.id.r=1:=rfl
 have hY2:sbY.id.n=2:=rfl
 simp only [go_sem,zq,Int.reduceLT,Int.reduceLE,Int.reduceToNat,Int.reduceAdd,frz,hL,hX,hY,hY1,hY2,List.length_nil,List.length_cons,List.map_nil,List.map_cons]
 refine za (.pure (zdZ _ _)) ?_
 simp only [go_sem]
 refine za (.pureE (zes [⟨0,2⟩] [⟨0,2⟩] (by decide)) (by simp [go_sem,cId])) ?_
 simp only [go_sem]
 refine za (.pure (zdZ _ _)) ?_
 simp only [go_sem,zq,Int.reduceLT,Int.reduceLE,Int.reduceToNat,Int.reduceAdd,frz]
 refine zb hx ?_
 simp [go_sem,L6,R6]
abbrev Ac:=Int × Int × Int × Int × ByteArray
def cAc (a:Ac):List PV:=zo a.1 a.2.1 a.2.2.1 a.2.2.2.1 a.2.2.2.2
def zgC (w:Wo) (a:Ac):Int:=ZF w a.1 a.2.1 a.2.2.1 a.2.2.2.1 a.2.2.2.2
def acW (w:Wo) (a:Ac):Wo:=if zgC w a=0 then doW w a.1 a.2.1 a.2.2.1 a.2.2.2.1 a.2.2.2.2 else w
def ztE (n:Int):List PV := [.int .i64 n]
theorem zwR {w:Wo} (h:WoOk w) (a:Ac):WoOk (acW w a):=by
 unfold acW
 split
 ·
  rename_i he; exact (zrR h he).2.1
 ·
  exact h
def zal (r:Wo × List Int) (a:Ac):Wo × List Int:=(acW r.1 a,r.2 ++ [zgC r.1 a])
def zlG (l:List Ac):Wo × List Int:=l.foldl zal (zlv,[])
theorem zlH {l:List Ac} {k:Nat} (h:k < l.length):zlG (l.take (k + 1))=zal (zlG (l.take k)) (nth l k):=by
 rw [List.take_add_one,zk _ _ h,zlG,List.foldl_append]; rfl
theorem zrU (l:List Ac):∀ k,k≤l.length→WoOk (zlG (l.take k)).1∧(zlG (l.take k)).2.length=k
 | 0,_=>by
  rw [List.take_zero]
  exact ⟨show WoOk zlv from Z8.1 (by decide +kernel),rfl⟩
 | k + 1,hk=>by
  obtain ⟨a,b⟩:=zrU l k (by omega)
  rw [zlH (by omega)]
  exact ⟨zwR a _,by simp [zal,b]⟩
def hCl (w:Wo) (es:List Int) (v T:Nat):List AObj := [.box [.list (w.ss.map zp),.list (cYs w.ys),.arr 1 v],.arr v true false T 1 (es.map ztE)]
theorem zip (w : Wo) (h : WoOk w) (a : Ac) (es : List Int) (v : Nat) (hes : es.length ≤ 1000) :
    zg Tryz.prog 69 [.ptr 0 0,.agg (cAc a)] (hCl w es v 38) (.tup []) (hCl (acW w a) (es ++ [zgC w a]) (v + 1) 38):=by
  obtain ⟨k,i,n,c,t⟩:=a
  have hraw:=zjL w h k i n c t
  have e1:zgC w (k,i,n,c,t)=ZF w k i n c t:=rfl
  refine zg.of_walk Tryz.func69 Tryz.ntmps69 zyE zyF (by simp) fun x hx=>?_
  simp only [go_sem,L69,R69,hCl,cAc,zo,zq,Int.reduceLT,Int.reduceLE,Int.reduceToNat,Int.reduceAdd,frz]
  refine za (.pureE hraw (by simp [go_sem,cWo,cWd,zo])) ?_
  by_cases he:ZF w k i n c t=0
  · have e2:acW w (k,i,n,c,t)=doW w k i n c t:=by rw [acW,e1,if_pos he]
    rw [doC,if_pos he,he,e1,e2,he]
    simp only [go_sem,zq,Int.reduceLT,Int.reduceLE,Int.reduceToNat,Int.reduceAdd,frz,cWo,cWd]
    repeat refine ⟨rfl,?_⟩
    rw [zB rfl rfl (by simp) (by simp; omega)]
    simp only [go_sem,zq,Int.reduceLT,Int.reduceLE,Int.reduceToNat,Int.reduceAdd,frz]
    refine ZG [] (by simp) (by simp) (by simp [hx,hCl]) ?_ ?_
    · simp [go_sem,L69,R69,hx]
    · simp [zc,zd,ze,zf,hx,pos,go_sem,hCl,List.range_succ,ztE]
  · have e2:acW w (k,i,n,c,t)=w:=by rw [acW,e1,if_neg he]
    rw [doC,if_neg he,e1,e2]
    simp only [go_sem,zq,Int.reduceLT,Int.reduceLE,Int.reduceToNat,Int.reduceAdd,frz,za2]
    repeat refine ⟨rfl,?_⟩
    simp only [go_sem,zq,Int.reduceLT,Int.reduceLE,Int.reduceToNat,Int.reduceAdd,frz,he]
    rw [zB rfl rfl (by simp) (by simp; omega)]
    simp only [go_sem,zq,Int.reduceLT,Int.reduceLE,Int.reduceToNat,Int.reduceAdd,frz]
    refine ZG [] (by simp) (by simp) (by simp [hx,hCl]) ?_ ?_
    · simp [go_sem,L69,R69,hx]
    · simp [zc,zd,ze,zf,hx,pos,go_sem,hCl,List.range_succ,ztE]
theorem zjS (l:List Ac) (hl:l.length≤9223372036854775806):zg Tryz.prog 14 [.list (l.map cAc)] [] (if 40 < l.length then .tup [.agg za2,.list [],.int .i64 2] else .tup [.agg (cWo (zlG l).1),.list ((zlG l).2.map ztE),.int .i64 0]) []:=by
 refine zg.of_walk Tryz.func14 Tryz.ntmps14 zxU zxV (by simp) fun x hx=>?_
 simp only [go_sem,L14,R14]
 by_cases h40:(40:Int) < (l.length:Int)
 ·
  rw [if_pos (by omega:40 < l.length)]
  simp only [go_sem,zq,Int.reduceLT,Int.reduceLE,Int.reduceToNat,Int.reduceAdd,frz,h40]
  refine zb hx ?_
  simp [go_sem,L14,R14,za2]
 ·
  rw [if_neg (by omega:¬ 40 < l.length)]
  simp only [go_sem,zq,Int.reduceLT,Int.reduceLE,Int.reduceToNat,Int.reduceAdd,frz,h40]
  refine za (.pure zgy) ?_
  simp only [go_sem,zq,Int.reduceLT,Int.reduceLE,Int.reduceToNat,Int.reduceAdd,frz,cWo,cWd]
  refine zaa (Z9 1 2 0 38 1 true false rfl rfl (by omega)) ?_
  simp only [go_sem]
  refine zr [2,5,15,16,17] 3 (fun q st=>∃ k v:Nat,k + q=l.length ∧
   st=⟨mkE .top [(2,.ptr 0 0),(5,.ptr 1 0),(15,.list (l.map cAc)),(16,.int .i64 l.length),(17,.int .i64 k)],
    .box [.nilsl,.nilsl] :: [.box [.list ((zlG (l.take k)).1.ss.map zp),.list (cYs (zlG (l.take k)).1.ys),.arr 2 v],.arr v true false 38 1 ((zlG (l.take k)).2.map ztE)]⟩) l.length (by simp [hx]) (by simp) ?_ ?_
  ·
   refine ⟨0,0,by omega,?_⟩
   simp [zi,go_sem,zc,zd,ze,zf,pos,List.range_succ,zlG]
  ·
   rintro q st ⟨k,v,hk,rfl⟩
   by_cases hlt:k < l.length
   ·
    have hg:l[k]? = some (nth l k):=zk _ _ hlt
    have wk:=zD (k:=k) (by omega)
    obtain ⟨hw,hz⟩:=zrU l k (by omega)
    have hst:=zlH hlt
    generalize nth l k=a at *
    generalize zlG (l.take k)=r at *
    obtain ⟨w,es⟩:=r
    simp only at hw hz
    have hdo:=zip w hw a es v (by omega)
    simp only [go_sem,zq,Int.reduceLT,Int.reduceLE,Int.reduceToNat,Int.reduceAdd,frz,hlt,hg,cAc,zo]
    refine za (.heapE [1,2] (r' := .tup []) (H' := [.box [.nilsl,.nilsl],.box [.list ((acW w a).ss.map zp),.list (cYs (acW w a).ys),.arr 2 (v + 1)],.arr (v + 1) true false 38 1 ((es ++ [zgC w a]).map ztE),.box (cAc a)]) hdo (by simp) (by simp) (by simp [go_sem,pos,cAc,zo]) ?_ ?_ ?_) ?_
    ·
     simp [zc,zd,ze,zf,pos,hCl]
    ·
     simp [zbE,ren,ze,zf]
    ·
     simp [Zk,zH,zK,ZA,Zb,zd,ze,zf,pos,List.range_succ,hCl,cAc,zo]
    simp only [go_sem,zq,Int.reduceLT,Int.reduceLE,Int.reduceToNat,Int.reduceAdd,frz,wk]
    refine ⟨by simp,q - 1,by omega,k + 1,v + 1,by omega,?_⟩
    rw [hst]
    simp [zi,go_sem,zc,zd,ze,zf,pos,List.range_succ,zal]
   ·
    have:l.take k=l:=List.take_of_length_le (by omega)
    rw [this]
    simp only [go_sem,zq,Int.reduceLT,Int.reduceLE,Int.reduceToNat,Int.reduceAdd,frz,hlt]
    repeat refine ⟨rfl,?_⟩
    refine zt (zx 2 rfl) ?_
    refine zb hx ?_
    simp [go_sem,L14,R14,cWo,cWd,zu,pos]
def okc (c:UInt8):Bool:=(decide ((97:Int)≤(c.toNat:Int)) && decide ((c.toNat:Int)≤122)) || (decide ((48:Int)≤(c.toNat:Int)) && decide ((c.toNat:Int)≤57))
def zq1 (l:List UInt8):Bool:=l.all okc && decide (1≤l.length) && decide (l.length≤3)
def zdm (s:ByteArray):Bool:=zq1 s.data.toList
theorem zcI (s:ByteArray):s.data.toList.length=s.size:=by show s.data.toList.length=s.data.size; simp
theorem zq2 {s:ByteArray} {k:Nat} (h:k < s.size):s[k]? = some s[k]:=by
 exact getElem?_pos s k h
theorem zjT {s:ByteArray} {k:Nat} (h:k < s.size):s.data.toList[k]? = some s[k]:=by
 rw [List.getElem?_eq_getElem (by rw [zcI]; exact h)]
 simp [ByteArray.getElem_eq_getElem_data]
theorem ziq {s:ByteArray} {k:Nat} (h:k < s.size):(s.data.toList.take (k + 1)).all okc=((s.data.toList.take k).all okc && okc s[k]):=by
 rw [List.take_add_one,zjT h]
 simp [List.all_append]
theorem zq3 {s:ByteArray} {k:Nat} (h:k < s.size) (hc:okc s[k]=false):zdm s=false:=by
 have:s.data.toList.all okc=false:=by
  rw [List.all_eq_false]
  exact ⟨s[k],List.mem_of_getElem? (zjT h),by simp [hc]⟩
 simp [zdm,zq1,this]
theorem zq4 {s:ByteArray} (h:s.data.toList.all okc=true):zdm s=(decide ((1:Int)≤(s.size:Int)) && decide ((s.size:Int)≤3)):=by
 rw [zdm,zq1,h,zcI,Bool.true_and]
 congr 1
 all_goals (rw [Bool.eq_iff_iff,decide_eq_true_iff,decide_eq_true_iff]; omega)
theorem zmP (s:ByteArray) (hs:s.size≤1000000000000000):zg Tryz.prog 150 [.str s] [] (.bool (zdm s)) []:=by
  refine zg.of_walk Tryz.func150 Tryz.ntmps150 zu6 zu7 (by simp) fun x hx=>?_
  simp only [go_sem,zxm,zxn]
  refine zr [0,6,7] 0 (fun m st=>∃ k:Nat,k + m=s.size∧(s.data.toList.take k).all okc=true ∧
    st=⟨mkE .top [(0,.str s),(6,.int .i64 s.size),(7,.int .i64 k)],[]⟩) s.size (by simp [hx]) (by simp) ?_ ?_
  · refine ⟨0,by omega,by simp,?_⟩
    simp [zi,go_sem,zc,zd,pos,List.range_succ]
  · rintro m st ⟨k,hk,hall,rfl⟩
    by_cases hlt:k < s.size
    · have hg:=zq2 hlt
      have hw:=zD (k:=k) (by omega)
      have hst:=ziq hlt
      have hnw:=fun h=>zq3 (s:=s) (k:=k) hlt h
      generalize s[k]=c at hg hst hnw
      by_cases h1:(97:Int)≤(c.toNat:Int) <;> by_cases h2:(c.toNat:Int)≤122 <;> by_cases h3:(48:Int)≤(c.toNat:Int) <;> by_cases h4:(c.toNat:Int)≤57
      all_goals first
        | (exfalso; omega)
        | (have ho : okc c = true := by simp [okc, h1, h2, h3, h4]
           simp only [go_sem,zq,Int.reduceLT,Int.reduceLE,Int.reduceToNat,Int.reduceAdd,frz,hlt,hg,h1,h2,h3,h4,decide_true,decide_false,hw]
           refine ⟨by simp,m - 1,by omega,k + 1,by omega,by rw [hst,hall,ho]; rfl,?_⟩
           simp [zi,go_sem,zc,zd,pos,List.range_succ]
           done)
        | (have ho : okc c = false := by simp [okc, h1, h2, h3, h4]
           have hno:=hnw ho
           simp only [go_sem,zq,Int.reduceLT,Int.reduceLE,Int.reduceToNat,Int.reduceAdd,frz,hlt,hg,h1,h2,h3,h4,decide_true,decide_false]
           refine zb hx ?_
           simp [go_sem,zxm,zxn,hno]
           done)
    · have hke:k=s.size:=by omega
      rw [List.take_of_length_le (by rw [zcI]; omega)] at hall
      have hwe:=zq4 hall
      by_cases h1:(1:Int)≤(s.size:Int) <;> by_cases h2:(s.size:Int)≤3
      all_goals
        simp only [go_sem,zq,Int.reduceLT,Int.reduceLE,Int.reduceToNat,Int.reduceAdd,frz,hlt,h1,h2,decide_true,decide_false]
        refine zb hx ?_
        simp [go_sem,zxm,zxn,hwe,h1,h2]
end Go.Proofs.YtkcahmbcpkjpiaaGreatDoor
namespace Go.Proofs.YtkcahmbcpkjpiaaGreatDoor
open Go.Shelf Go.Proofs
def zkR:Go.Shelf.Ren:=⟨fun | 6=>187 | 15=>227 | 14=>229 | 28=>257 | 29=>258 | 20=>259 | 21=>260 | 22=>261 | 23=>262 | 24=>263 | 25=>264 | 26=>265 | 27=>266 | 46=>281 | 47=>277 | 48=>278 | 49=>282 | 50=>283 | 57=>293 | n=>n,fun | 22=>238 | 24=>242 | 25=>248 | 3=>3 | 39=>275 | 0=>0 | 53=>314 | 55=>316 | 4=>4 | 46=>308 | 45=>307 | 50=>206 | 5=>5 | 9=>9 | 66=>327 | 70=>331 | 76=>340 | 77=>341 | n=>n,fun n=>n⟩
theorem zo6:SlLaysF0.n6 Tryz.prog zkR := {
 mixed:=by kernel_rfl,
 f6:=⟨Tryz.f187.name,by decide,Tryz.func187.trans (congrArg some (by kernel_rfl))⟩,
 f14:=⟨Tryz.f229.name,by decide,Tryz.func229.trans (congrArg some (by kernel_rfl))⟩,
 f15:=Tryz.func227.trans (congrArg some (by kernel_rfl)),
 f20:=⟨Tryz.f259.name,by decide,Tryz.func259.trans (congrArg some (by kernel_rfl))⟩,
 f21:=⟨Tryz.f260.name,by decide,Tryz.func260.trans (congrArg some (by kernel_rfl))⟩,
 f22:=⟨Tryz.f261.name,by decide,Tryz.func261.trans (congrArg some (by kernel_rfl))⟩,
 f23:=⟨Tryz.f262.name,by decide,Tryz.func262.trans (congrArg some (by kernel_rfl))⟩,
 f24:=⟨Tryz.f263.name,by decide,Tryz.func263.trans (congrArg some (by kernel_rfl))⟩,
 f25:=⟨Tryz.f264.name,by decide,Tryz.func264.trans (congrArg some (by kernel_rfl))⟩,
 f26:=⟨Tryz.f265.name,by decide,Tryz.func265.trans (congrArg some (by kernel_rfl))⟩,
 f27:=⟨Tryz.f266.name,by decide,Tryz.func266.trans (congrArg some (by kernel_rfl))⟩,
 f28:=Tryz.func257.trans (congrArg some (by kernel_rfl)),
 f29:=Tryz.func258.trans (congrArg some (by kernel_rfl)),
 f46:=⟨Tryz.f281.name,by decide,Tryz.func281.trans (congrArg some (by kernel_rfl))⟩,
 f47:=Tryz.func277.trans (congrArg some (by kernel_rfl)),
 f48:=Tryz.func278.trans (congrArg some (by kernel_rfl)),
 f49:=⟨Tryz.f282.name,by decide,Tryz.func282.trans (congrArg some (by kernel_rfl))⟩,
 f50:=⟨Tryz.f283.name,by decide,Tryz.func283.trans (congrArg some (by kernel_rfl))⟩,
 f57:=⟨Tryz.f293.name,by decide,Tryz.func293.trans (congrArg some (by kernel_rfl))⟩,
 t0:=Tryz.underlying0,
 a0:=Tryz.isAgg0,
 z0:=Tryz.sizeOf0,
 v0:=Tryz.zeroValue0,
 t3:=Tryz.underlying3,
 a3:=Tryz.isAgg3,
 z3:=Tryz.sizeOf3,
 v3:=Tryz.zeroValue3,
 t4:=Tryz.underlying4,
 a4:=Tryz.isAgg4,
 z4:=Tryz.sizeOf4,
 v4:=Tryz.zeroValue4,
 t5:=Tryz.underlying5,
 a5:=Tryz.isAgg5,
 z5:=Tryz.sizeOf5,
 v5:=Tryz.zeroValue5,
 t9:=Tryz.underlying9,
 a9:=Tryz.isAgg9,
 z9:=Tryz.sizeOf9,
 v9:=Tryz.zeroValue9,
 t22:=Tryz.underlying238,
 a22:=Tryz.isAgg238,
 z22:=Tryz.sizeOf238,
 v22:=Tryz.zeroValue238,
 t25:=Tryz.underlying248,
 a25:=Tryz.isAgg248,
 z25:=Tryz.sizeOf248,
 v25:=Tryz.zeroValue248,
 t39:=Tryz.underlying275,
 a39:=Tryz.isAgg275,
 z39:=Tryz.sizeOf275,
 v39:=Tryz.zeroValue275,
 t45:=Tryz.underlying307,
 a45:=Tryz.isAgg307,
 z45:=Tryz.sizeOf307,
 v45:=Tryz.zeroValue307,
 t46:=Tryz.underlying308,
 a46:=Tryz.isAgg308,
 z46:=Tryz.sizeOf308,
 v46:=Tryz.zeroValue308,
 t50:=Tryz.underlying206,
 a50:=Tryz.isAgg206,
 z50:=Tryz.sizeOf206,
 v50:=Tryz.zeroValue206,
 t53:=Tryz.underlying314,
 a53:=Tryz.isAgg314,
 z53:=Tryz.sizeOf314,
 v53:=Tryz.zeroValue314,
 t55:=Tryz.underlying316,
 a55:=Tryz.isAgg316,
 z55:=Tryz.sizeOf316,
 v55:=Tryz.zeroValue316,
 t66:=Tryz.underlying327,
 a66:=Tryz.isAgg327,
 z66:=Tryz.sizeOf327,
 v66:=Tryz.zeroValue327,
 t70:=Tryz.underlying331,
 a70:=Tryz.isAgg331,
 z70:=Tryz.sizeOf331,
 v70:=Tryz.zeroValue331,
 t76:=Tryz.underlying340,
 a76:=Tryz.isAgg340,
 z76:=Tryz.sizeOf340,
 v76:=Tryz.zeroValue340,
 t77:=Tryz.underlying341,
 a77:=Tryz.isAgg341,
 z77:=Tryz.sizeOf341,
 v77:=Tryz.zeroValue341 }
def zmQ:Go.Shelf.Ren:=⟨fun | 146=>153 | 221=>221 | 268=>246 | 138=>247 | 143=>248 | 195=>272 | 197=>273 | 218=>274 | 219=>275 | 260=>287 | 217=>288 | 225=>289 | 224=>290 | 267=>291 | 266=>294 | 314=>295 | n=>n,fun | 9=>9 | 31=>100 | 3=>3 | 4=>4 | 0=>0 | 105=>324 | 21=>21 | 5=>5 | 46=>275 | 119=>344 | 139=>347 | 138=>346 | 146=>348 | 51=>314 | n=>n,fun | 1=>0 | 3=>1 | 4=>2 | n=>n⟩
theorem zwS:Lays.n146 Tryz.prog zmQ := {
 mixed:=by kernel_rfl,
 f138:=Tryz.func247.trans (congrArg some (by kernel_rfl)),
 f143:=Tryz.func248.trans (congrArg some (by kernel_rfl)),
 f146:=Tryz.func153.trans (congrArg some (by kernel_rfl)),
 f195:=Tryz.func272.trans (congrArg some (by kernel_rfl)),
 f197:=Tryz.func273.trans (congrArg some (by kernel_rfl)),
 f217:=Tryz.func288.trans (congrArg some (by kernel_rfl)),
 f218:=Tryz.func274.trans (congrArg some (by kernel_rfl)),
 f219:=Tryz.func275.trans (congrArg some (by kernel_rfl)),
 f221:=Tryz.func221.trans (congrArg some (by kernel_rfl)),
 f224:=Tryz.func290.trans (congrArg some (by kernel_rfl)),
 f225:=Tryz.func289.trans (congrArg some (by kernel_rfl)),
 f260:=Tryz.func287.trans (congrArg some (by kernel_rfl)),
 f266:=Tryz.func294.trans (congrArg some (by kernel_rfl)),
 f267:=Tryz.func291.trans (congrArg some (by kernel_rfl)),
 f268:=Tryz.func246.trans (congrArg some (by kernel_rfl)),
 f314:=Tryz.func295.trans (congrArg some (by kernel_rfl)),
 t0:=Tryz.underlying0,
 a0:=Tryz.isAgg0,
 z0:=Tryz.sizeOf0,
 v0:=Tryz.zeroValue0,
 t3:=Tryz.underlying3,
 a3:=Tryz.isAgg3,
 z3:=Tryz.sizeOf3,
 v3:=Tryz.zeroValue3,
 t4:=Tryz.underlying4,
 a4:=Tryz.isAgg4,
 z4:=Tryz.sizeOf4,
 v4:=Tryz.zeroValue4,
 t5:=Tryz.underlying5,
 a5:=Tryz.isAgg5,
 z5:=Tryz.sizeOf5,
 v5:=Tryz.zeroValue5,
 t9:=Tryz.underlying9,
 a9:=Tryz.isAgg9,
 z9:=Tryz.sizeOf9,
 v9:=Tryz.zeroValue9,
 t21:=Tryz.underlying21,
 a21:=Tryz.isAgg21,
 z21:=Tryz.sizeOf21,
 v21:=Tryz.zeroValue21,
 t31:=Tryz.underlying100,
 a31:=Tryz.isAgg100,
 z31:=Tryz.sizeOf100,
 v31:=Tryz.zeroValue100,
 t46:=Tryz.underlying275,
 a46:=Tryz.isAgg275,
 z46:=Tryz.sizeOf275,
 v46:=Tryz.zeroValue275,
 t51:=Tryz.underlying314,
 a51:=Tryz.isAgg314,
 z51:=Tryz.sizeOf314,
 v51:=Tryz.zeroValue314,
 t105:=Tryz.underlying324,
 a105:=Tryz.isAgg324,
 z105:=Tryz.sizeOf324,
 v105:=Tryz.zeroValue324,
 t119:=Tryz.underlying344,
 a119:=Tryz.isAgg344,
 z119:=Tryz.sizeOf344,
 t138:=Tryz.underlying346,
 a138:=Tryz.isAgg346,
 z138:=Tryz.sizeOf346,
 v138:=Tryz.zeroValue346,
 t139:=Tryz.underlying347,
 a139:=Tryz.isAgg347,
 z139:=Tryz.sizeOf347,
 v139:=Tryz.zeroValue347,
 t146:=Tryz.underlying348,
 a146:=Tryz.isAgg348,
 z146:=Tryz.sizeOf348,
 v146:=Tryz.zeroValue348,
 g1:=by kernel_rfl,
 g3:=by kernel_rfl,
 g4:=by kernel_rfl }
def zq5:Go.Shelf.Ren:=⟨fun | 106=>189 | 213=>230 | 265=>267 | n=>n,fun | 9=>9 | 3=>3 | n=>n,fun n=>n⟩
theorem zAF:Lays.n106 Tryz.prog zq5 := {
 mixed:=by kernel_rfl,
 f106:=Tryz.func189.trans (congrArg some (by kernel_rfl)),
 f213:=Tryz.func230.trans (congrArg some (by kernel_rfl)),
 f265:=Tryz.func267.trans (congrArg some (by kernel_rfl)),
 t3:=Tryz.underlying3,
 a3:=Tryz.isAgg3,
 z3:=Tryz.sizeOf3,
 v3:=Tryz.zeroValue3,
 t9:=Tryz.underlying9,
 a9:=Tryz.isAgg9,
 z9:=Tryz.sizeOf9,
 v9:=Tryz.zeroValue9 }
end Go.Proofs.YtkcahmbcpkjpiaaGreatDoor
namespace Go.Proofs.YtkcahmbcpkjpiaaGreatDoor
open Go.RowKit Go.Shelf
def spB:ByteArray:=⟨#[32]⟩
def ZL (s:ByteArray):List ByteArray:=Lib.splitB spB 0 (Lib.countB s spB) s
theorem zdz (s:ByteArray):(ZL s).length=Lib.countB s spB + 1:=Lib.splitB_all spB (by decide) 0 _ s rfl
theorem zjU (s:ByteArray):(ZL s).length≤s.size + 1:=by
 have:=Lib.countB_le spB (by decide) s.size s (Nat.le_refl _)
 rw [zdz]; omega
theorem Any.split_sp {P : Program} {ρ : Ren} (L : Lays.n146 P ρ) (hi9 : (P.info? (ρ.t 9)).map (fun i => (i.zero, i.size, i.bytes)) = some (some (.string ByteArray.empty), 1, 16)) (s : ByteArray) (w : World) (hs : s.size < 4294967281) :
    Calls P (ρ.f 146) #[.string s,.string spB] w fun e w' =>
      e = .returned (.slice (some ⟨w.heap.size,0,none⟩) (Lib.countB s spB + 1) (Lib.countB s spB + 1))∧w'=w.alloc (.cells ((ZL s).map Value.string).toArray (ρ.t 9)):=by
  have h1:1≤spB.size:=by decide
  have hle:=Lib.countB_le spB h1 s.size s (Nat.le_refl _)
  have hlen:=zdz s
  have c:=Any.strings_genSplit_core { L with } hi9 s spB 0 (-1) (Lib.countB s spB + 1) w hs h1 (Nat.zero_le _)
    (fun x c hx=>(Any.strings_Index_one { L with } x 32 _).mono fun e w' ⟨he,hw⟩=>⟨by rw [he,← Lib.index_one]; rfl,hw⟩)
    ((Any.strings_Count_one { L with } s 32 w).mono fun e w' ⟨he,hw⟩=>⟨by
      rw [he]
      show _=Ending.returned (Value.int .i64 ((Lib.count s.data.toList [32]:Nat):Int))
      rw [Lib.count_one]; rfl,hw⟩)
    (by decide) (by decide) (by rw [if_pos (by decide)]; omega)
  rw [Nat.add_sub_cancel] at c
  have e1:(Lib.splitB spB 0 (Lib.countB s spB) s).length=Lib.countB s spB + 1:=hlen
  rw [e1] at c
  have e2:Lib.cellsOf (Lib.splitB spB 0 (Lib.countB s spB) s) (Lib.countB s spB + 1)=((Lib.splitB spB 0 (Lib.countB s spB) s).map Value.string).toArray:=by rw [← e1]; exact Lib.cellsOf_full _
  rw [e2] at c
  have t3:=L.t3; have t9:=L.t9; have t31:=L.t31
  have a3:=L.a3; have a9:=L.a9; have a31:=L.a31
  have z3:=L.z3; have v3:=L.v3; have z9:=L.z9; have v9:=L.v9; have z31:=L.z31; have v31:=L.v31
  have e221:∀ args w,(callFunc (ρ.f 221) args).run P w = .ok (.enter (ρ.f 221) args) w:=enters_of L.f221 (by kernel_rfl) rfl
  go_enter L.f146,Body.n146_ntmps ρ
  go_wp2_with (go_at_fn (ρ.f 221); refine c.mono ?_; rintro e w' ⟨rfl,hw⟩; rw [hw])
  go_ret
  exact ⟨rfl,rfl⟩
theorem zkS (s : ByteArray) (w : World) (hs : s.size < 4294967281) : Calls Tryz.prog 153 #[.string s, .string spB] w fun e w' =>
      e = .returned (.slice (some ⟨w.heap.size,0,none⟩) (ZL s).length (ZL s).length)∧w'=w.alloc (.cells ((ZL s).map Value.string).toArray 9):=by
  rw [zdz]
  exact Any.split_sp zwS (by kernel_rfl) s w hs
def zb5 (s:ByteArray):List PV := [.str s]
theorem zkT (s:ByteArray) (hs:s.size < 4294967281):zg Tryz.prog 153 [.str s,.str spB] [] (.list ((ZL s).map zb5)) []:=by
 intro x vs hx h0 hp
 obtain ⟨a,b,rfl,-,-⟩:=zfG hp.1
 have h1:RepV (zA x x.C0 [] x.w0) x.w0 x.C0 (.str s) a:=hp.2 0 _ _ rfl rfl
 have h2:RepV (zA x x.C0 [] x.w0) x.w0 x.C0 (.str spB) b:=hp.2 1 _ _ rfl rfl
 obtain rfl:=h1.str_inv
 obtain rfl:=h2.str_inv
 refine (zkS s x.w0 hs).mono fun e w' ⟨he,hw⟩=>?_
 subst he; subst hw
 obtain ⟨k1,k2,k3⟩:=h0.grow (zaS x.w0 (.cells ((ZL s).map Value.string).toArray 9) (may:=fun _=>False))
 have hle:=zjU s
 refine ⟨_,x.C0,rfl,k1,.pure ?_⟩
 have hl:(ZL s).length=((ZL s).map zb5).length:=by simp
 rw [show (Value.slice (some ⟨x.w0.heap.size,0,none⟩) (ZL s).length (ZL s).length)=Value.slice (some ⟨x.w0.heap.size,0,none⟩) ((ZL s).map zb5).length (ZL s).length by rw [← hl]]
 have hget:∀ k row (j:Nat) p,((ZL s).map zb5)[k]? = some row→row[j]? = some p→j=0∧k < (ZL s).length∧p = .str (nth (ZL s) k):=by
  intro k row j p a1 a2
  rw [List.getElem?_map] at a1
  obtain ⟨q,hq,rfl⟩:=Option.map_eq_some_iff.1 a1
  have hk:=(List.getElem?_eq_some_iff.1 hq).1
  cases j with
  | zero=>simp [zb5] at a2; refine ⟨rfl,hk,?_⟩; rw [← a2,zy _ _ hk]; rw [List.getElem?_eq_getElem hk] at hq; rw [Option.some.inj hq]
  | succ j=>simp [zb5] at a2
 refine .list _ _ _ 1 (fun k _ => .string (nth (ZL s) k)) (by simp) (by unfold maxLen; omega) (by omega) (fun row hrow=>by obtain ⟨q,-,rfl⟩:=List.mem_map.1 hrow; rfl) (fun k row j p a1 a2=>?_) (fun k row j p a1 a2=>?_)
 ·
  obtain ⟨rfl,hk,-⟩:=hget k row j p a1 a2
  refine ⟨x.w0.heap.size,0,rfl,zhJ h0 _ _ _,?_⟩
  rw [Zm (heap_alloc_new x.w0 _)]
  simp [hk,zy _ _ hk]
 ·
  obtain ⟨rfl,hk,rfl⟩:=hget k row j p a1 a2
  exact .str _
end Go.Proofs.YtkcahmbcpkjpiaaGreatDoor
namespace Go.Proofs.YtkcahmbcpkjpiaaGreatDoor
open Go.Shelf Go.Proofs
def zjV:Go.Shelf.Ren:=⟨fun | 156=>208 | 165=>241 | 166=>242 | 169=>243 | 240=>269 | 241=>270 | 276=>285 | 277=>286 | n=>n,fun | 31=>100 | 9=>9 | 3=>3 | 4=>4 | 0=>0 | 20=>20 | 72=>297 | 76=>301 | 70=>295 | 37=>262 | 75=>300 | 127=>322 | 164=>336 | 5=>5 | 80=>303 | n=>n,fun n=>n⟩
theorem zwT:Lays.n156 Tryz.prog zjV := {
 mixed:=by kernel_rfl,
 f156:=Tryz.func208.trans (congrArg some (by kernel_rfl)),
 f165:=Tryz.func241.trans (congrArg some (by kernel_rfl)),
 f166:=Tryz.func242.trans (congrArg some (by kernel_rfl)),
 f169:=Tryz.func243.trans (congrArg some (by kernel_rfl)),
 f240:=Tryz.func269.trans (congrArg some (by kernel_rfl)),
 f241:=Tryz.func270.trans (congrArg some (by kernel_rfl)),
 f276:=Tryz.func285.trans (congrArg some (by kernel_rfl)),
 f277:=Tryz.func286.trans (congrArg some (by kernel_rfl)),
 t0:=Tryz.underlying0,
 a0:=Tryz.isAgg0,
 z0:=Tryz.sizeOf0,
 v0:=Tryz.zeroValue0,
 t3:=Tryz.underlying3,
 a3:=Tryz.isAgg3,
 z3:=Tryz.sizeOf3,
 v3:=Tryz.zeroValue3,
 t4:=Tryz.underlying4,
 a4:=Tryz.isAgg4,
 z4:=Tryz.sizeOf4,
 v4:=Tryz.zeroValue4,
 t9:=Tryz.underlying9,
 a9:=Tryz.isAgg9,
 z9:=Tryz.sizeOf9,
 v9:=Tryz.zeroValue9,
 t20:=Tryz.underlying20,
 a20:=Tryz.isAgg20,
 z20:=Tryz.sizeOf20,
 v20:=Tryz.zeroValue20,
 t31:=Tryz.underlying100,
 a31:=Tryz.isAgg100,
 z31:=Tryz.sizeOf100,
 v31:=Tryz.zeroValue100,
 t37:=Tryz.underlying262,
 a37:=Tryz.isAgg262,
 z37:=Tryz.sizeOf262,
 v37:=Tryz.zeroValue262,
 t70:=Tryz.underlying295,
 a70:=Tryz.isAgg295,
 z70:=Tryz.sizeOf295,
 v70:=Tryz.zeroValue295,
 t72:=Tryz.underlying297,
 a72:=Tryz.isAgg297,
 z72:=Tryz.sizeOf297,
 v72:=Tryz.zeroValue297,
 t75:=Tryz.underlying300,
 a75:=Tryz.isAgg300,
 z75:=Tryz.sizeOf300,
 v75:=Tryz.zeroValue300,
 t76:=Tryz.underlying301,
 a76:=Tryz.isAgg301,
 z76:=Tryz.sizeOf301,
 v76:=Tryz.zeroValue301,
 t127:=Tryz.underlying322,
 a127:=Tryz.isAgg322,
 z127:=Tryz.sizeOf322,
 v127:=Tryz.zeroValue322,
 t164:=Tryz.underlying336,
 a164:=Tryz.isAgg336,
 z164:=Tryz.sizeOf336,
 v164:=Tryz.zeroValue336 }
end Go.Proofs.YtkcahmbcpkjpiaaGreatDoor
namespace Go.Proofs.YtkcahmbcpkjpiaaGreatDoor
open Go.RowKit Go.Shelf
def ze7 (l:List ByteArray) (sep:ByteArray):ByteArray:=⟨(Lib.join (l.map (·.data.toList)) sep.data.toList).toArray⟩
theorem zmR {w w':World} (h:Below w.heap.size w w') {may:Nat→Prop}:Step w w' may:=⟨h.size,h.os,h.tape,h.output,fun b hb _=>h.block b hb⟩
theorem zwU:Builder.Extra Tryz.prog zjV := {
 sizeBuilder:=by kernel_rfl,
 liesBuilder:=by kernel_rfl,
 t5:=by kernel_rfl,
 a5:=fun w=>by kernel_rfl,
 z5:=fun w=>by kernel_rfl,
 v5:=fun w=>by kernel_rfl,
 infoByte:=by kernel_rfl,
 cellsByte:=by kernel_rfl,
 sizeByte:=by kernel_rfl,
 neB5:=by decide }
theorem zhD (l : List ByteArray) (sep : ByteArray) (hN : l.length ≤ 140737488355328) (hs : (Lib.join (l.map (·.data.toList)) sep.data.toList).length ≤ 140737488355328) :
    zg Tryz.prog 208 [.list (l.map zb5),.str sep] [] (.str (ze7 l sep)) []:=by
  intro x vs hx h0 hp
  obtain ⟨a,b,rfl,-,-⟩:=zfG hp.1
  have h1:RepV (zA x x.C0 [] x.w0) x.w0 x.C0 (.list (l.map zb5)) a:=hp.2 0 _ _ rfl rfl
  have h2:RepV (zA x x.C0 [] x.w0) x.w0 x.C0 (.str sep) b:=hp.2 1 _ _ rfl rfl
  obtain rfl:=h2.str_inv
  have fin:Calls Tryz.prog 208 #[a,.string sep] x.w0 fun e w'=>e = .returned (.string (ze7 l sep))∧Below x.w0.heap.size x.w0 w':=by
    have h3:=h1.list_inv
    generalize hrows:l.map zb5=rows at h3
    cases h3 with
    | list rows ad cp sz xx hc hm hsz hz hll hh =>
      subst hrows
      rw [List.length_map] at *
      cases l with
      | nil=>exact (Any.strings_Join_none zwT zwU ad cp sep x.w0).mono fun e w' ⟨he,hw⟩=>⟨he,hw ▸ Below.refl _ _⟩
      | cons s0 r =>
        have hz1:sz=1:=(hz (zb5 s0) (by simp)).symm
        subst hz1
        obtain ⟨bk,o,rfl,hst,-⟩:=hll 0 (zb5 s0) 0 (.str s0) rfl rfl
        refine Any.strings_Join zwT zwU bk o cp (s0 :: r) sep x.w0 (fun j s hj=>?_) hst.2.1 hN hc hs
        have hg:((s0 :: r).map zb5)[j]? = some (zb5 s):=by rw [List.getElem?_map,hj]; rfl
        obtain ⟨bk',o',e1,-,e2⟩:=hll j (zb5 s) 0 (.str s) hg rfl
        cases e1
        have e3:RepV (zA x x.C0 [] x.w0) x.w0 x.C0 (.str s) (xx j 0) := .pure (hh j (zb5 s) 0 (.str s) hg rfl)
        rw [Nat.mul_one,Nat.add_zero,e3.str_inv] at e2
        exact e2
  refine fin.mono fun e w' ⟨he,hw⟩=>?_
  obtain ⟨k1,k2,k3⟩:=h0.grow (zmR hw (may:=fun _=>False))
  exact ⟨_,x.C0,he,k1,.pure (.str _)⟩
end Go.Proofs.YtkcahmbcpkjpiaaGreatDoor
namespace Go.Proofs.YtkcahmbcpkjpiaaGreatDoor
open Go.RowKit
instance:Inhabited ByteArray:=⟨⟨#[]⟩⟩
theorem zjW (l : List ByteArray) (g : Nat) (caps : List PV) (Hs : List AObj) (p : ByteArray → Bool) (hg : zah Tryz.prog g = true) (hl : l.length ≤ 9223372036854775806) (hc : ClosedH Hs caps)
    (hp:∀ e ∈ l,zg Tryz.prog g (.str e :: caps) Hs (.bool (p e)) Hs) :
    zg Tryz.prog 222 [.list (l.map zb5),.clo g caps] Hs (.int .i64 (zaH p l 0)) Hs:=by
  refine zg.of_walk Tryz.func222 Tryz.ntmps222 zvY zvZ (by simp) fun x hx=>?_
  simp only [go_sem,zxy,zxz]
  refine za7 [0,1,7,8] (fun n st=>∃ k:Nat,k + n=l.length∧zaH p (l.drop k) k=zaH p l 0 ∧
    st=⟨mkE .top [(0,.list (l.map zb5)),(1,.clo g caps),(7,.int .i64 l.length),(8,.int .i64 k)],Hs⟩) l.length ?_ ?_
  · refine ⟨0,by omega,by simp,?_⟩
    simp [ZW,go_sem]
  · rintro n st ⟨k,hk,hi,rfl⟩
    by_cases hlt:k < l.length
    · have hgt:l[k]? = some (nth l k):=zk _ _ hlt
      have wk:=zD (k:=k) (by omega)
      rw [za9 p l k hlt] at hi
      simp only [go_sem,hlt,hgt,zb5]
      refine zan rfl hg (.whole (hp (nth l k) (by rw [zy _ _ hlt]; exact List.getElem_mem hlt)) rfl ?_ hc.sub hc.back) ?_
      · simp only [go_sem,zb5]
        rw [hc.caps]
      cases hpk:p (nth l k)
      · rw [if_neg (by simp [hpk])] at hi
        simp only [go_sem,wk]
        exact ⟨n - 1,by omega,k + 1,by omega,hi,by simp [ZW,go_sem,zb5]⟩
      · rw [if_pos hpk] at hi
        simp only [go_sem]
        refine zaq hx rfl hc.kept ?_
        simp [go_sem,zxy,zxz,hi]
    · have:l.drop k = []:=List.drop_eq_nil_of_le (by omega)
      rw [this] at hi
      simp only [go_sem,hlt]
      refine zaq hx rfl hc.kept ?_
      simp [go_sem,zxy,zxz,← hi,zaH]
theorem zjX (l : List ByteArray) (g : Nat) (caps : List PV) (Hs : List AObj) (p : ByteArray → Bool) (hg : zah Tryz.prog g = true) (hl : l.length ≤ 9223372036854775806) (hc : ClosedH Hs caps)
    (hp:∀ e ∈ l,zg Tryz.prog g (.str e :: caps) Hs (.bool (p e)) Hs) :
    zg Tryz.prog 154 [.list (l.map zb5),.clo g caps] Hs (.bool (l.any p)) Hs:=by
  refine zg.of_walk Tryz.func154 Tryz.ntmps154 zu8 zu9 (by simp) fun x hx=>?_
  simp only [go_sem,zzi,zzj]
  refine za (.whole (zjW l g caps Hs p hg hl hc hp) rfl ?_ hc.sub hc.back) ?_
  · simp only [go_sem]
    rw [hc.leaf]
  simp only [go_sem]
  refine zaq hx rfl hc.kept ?_
  simp [go_sem,zzi,zzj,zcb]
theorem zo7:ClosedH [] []:=⟨rfl,rfl,rfl,rfl,rfl⟩
theorem zkU (s:ByteArray) (hs:s.size≤1000000000000000):zg Tryz.prog 155 [.str s] [] (.bool (!zdm s)) []:=by
 refine zg.of_walk Tryz.func155 Tryz.ntmps155 zva zvb (by simp) fun x hx=>?_
 simp only [go_sem,zzk,zzl]
 refine za (.pure (zmP s hs)) ?_
 simp only [go_sem]
 refine zb hx ?_
 simp [go_sem,zzk,zzl]
theorem zmS (s:ByteArray):∀ (n:Nat) (t:ByteArray) (p:ByteArray),p ∈ Lib.splitB spB 0 n t→p.size≤t.size:=by
 intro n
 induction n with
 | zero=>intro t p h; simp [Lib.splitB] at h; rw [h]; exact Nat.le_refl _
 | succ n ih =>
  intro t p h
  rcases Lib.indexB_cases t spB with hm | ⟨i,hi,hr⟩
  ·
   rw [Lib.splitB_miss _ _ _ _ hm] at h
   simp at h; rw [h]; exact Nat.le_refl _
  ·
   rw [Lib.splitB] at h
   split at h
   ·
    simp at h; rw [h]; exact Nat.le_refl _
   ·
    rcases List.mem_cons.1 h with rfl | h
    ·
     rw [ByteArray.size_extract]; omega
    ·
     have:=ih _ _ h
     rw [ByteArray.size_extract] at this; omega
def zAj:ByteArray:=⟨#[112,117,116]⟩
def zwV:ByteArray:=⟨#[100,114,111,112]⟩
def zbD (s:ByteArray):Int × ByteArray × ByteArray:=match ZL s with
 | [a,b,c]=>if a=zAj∧zdm b=true∧zdm c=true then (1,b,c) else (0,⟨#[]⟩,⟨#[]⟩)
 | [a,b]=>if a=zwV∧zdm b=true then (2,b,⟨#[]⟩) else (0,⟨#[]⟩,⟨#[]⟩)
 | _=>(0,⟨#[]⟩,⟨#[]⟩)
def zo8 (o:Int × ByteArray × ByteArray):List PV := [.int .i64 o.1,.str o.2.1,.str o.2.2,.int .i64 (if o.1=0 then 1 else 0)]
theorem zq6 (s:ByteArray) (hs:s.size < 4294967281):zg Tryz.prog 79 [.str s] [] (.tup (zo8 (zbD s))) []:=by
 have hlen:=zjU s
 have hpos:1≤(ZL s).length:=by rw [zdz]; omega
 have hb:∀ p ∈ (ZL s),p.size≤1000000000000000:=fun p hp=>by have:=zmS s _ s p hp; omega
 obtain ⟨o,hop⟩:∃ o,zbD s=o:=⟨_,rfl⟩
 rw [hop]
 unfold zbD at hop
 refine zg.of_walk Tryz.func79 Tryz.ntmps79 zyM zyN (by simp) fun x hx=>?_
 simp only [go_sem,L79,R79]
 have hsp:(⟨#[32]⟩:ByteArray)=spB:=rfl
 rw [hsp]
 refine za (.pure (zkT s hs)) ?_
 generalize ZL s=l at hlen hpos hb hop
 match l,hpos with
 | a :: r,_ =>
  have hS:(1≤((r.length + 1:Nat):Int)∧∀ row,row ∈ [PV.str a] :: List.map zb5 r→row.length=1)=True:=eq_true ⟨by omega,fun row hr=>by
   rcases List.mem_cons.1 hr with rfl | hr
   ·
    rfl
   ·
    obtain ⟨q,-,rfl⟩:=List.mem_map.1 hr; rfl⟩
  have hT:List.take (((r.length + 1:Nat):Int) - 1).toNat (List.map zb5 r)=r.map zb5:=List.take_of_length_le (by rw [List.length_map]; omega)
  have hc:=zjX r 155 [] [] (fun w => !zdm w) (by kernel_rfl) (by simp only [List.length_cons] at hlen; omega) zo7 (fun e he=>zkU e (hb e (List.mem_cons_of_mem _ he)))
  simp only [go_sem,zq,Int.reduceLT,Int.reduceLE,Int.reduceToNat,Int.reduceAdd,frz,List.map_cons,List.length_cons,zb5,hS,hT]
  refine za (.pure hc) ?_
  clear hc hS hT hb hlen
  cases hbad:r.any fun w => !zdm w
  ·
   have hall:∀ w ∈ r,zdm w=true:=fun w hw=>by
    have:=List.any_eq_false.1 hbad w hw
    simpa using this
   match r,hall,hop with
   | [],hall,hop =>
    simp only [go_sem,zq,Int.reduceLT,Int.reduceLE,Int.reduceToNat,Int.reduceAdd,frz,List.map_nil,List.length_nil]
    refine zb hx ?_
    rw [← hop]
    simp [go_sem,L79,R79,zo8]
   | [b],hall,hop =>
    have w1:=hall b (by simp)
    by_cases h1:a=zwV
    ·
     have h1':(a=(⟨#[100,114,111,112]⟩:ByteArray))=True:=eq_true h1
     simp only [go_sem,zq,Int.reduceLT,Int.reduceLE,Int.reduceToNat,Int.reduceAdd,frz,List.map_cons,List.map_nil,List.length_cons,List.length_nil,zb5,h1']
     refine zb hx ?_
     rw [← hop]
     simp [go_sem,L79,R79,zo8,h1,w1]
    ·
     have h1':(a=(⟨#[100,114,111,112]⟩:ByteArray))=False:=eq_false h1
     simp only [go_sem,zq,Int.reduceLT,Int.reduceLE,Int.reduceToNat,Int.reduceAdd,frz,List.map_cons,List.map_nil,List.length_cons,List.length_nil,zb5,h1']
     refine zb hx ?_
     rw [← hop]
     simp [go_sem,L79,R79,zo8,h1]
   | [b,c],hall,hop =>
    have w1:=hall b (by simp)
    have w2:=hall c (by simp)
    by_cases h1:a=zAj
    ·
     have h1':(a=(⟨#[112,117,116]⟩:ByteArray))=True:=eq_true h1
     simp only [go_sem,zq,Int.reduceLT,Int.reduceLE,Int.reduceToNat,Int.reduceAdd,frz,List.map_cons,List.map_nil,List.length_cons,List.length_nil,zb5,h1']
     refine zb hx ?_
     rw [← hop]
     simp [go_sem,L79,R79,zo8,h1,w1,w2]
    ·
     have h1':(a=(⟨#[112,117,116]⟩:ByteArray))=False:=eq_false h1
     simp only [go_sem,zq,Int.reduceLT,Int.reduceLE,Int.reduceToNat,Int.reduceAdd,frz,List.map_cons,List.map_nil,List.length_cons,List.length_nil,zb5,h1']
     refine zb hx ?_
     rw [← hop]
     simp [go_sem,L79,R79,zo8,h1]
   | b :: c :: d :: q,hall,hop =>
    have n3:¬ (((q.length + 1 + 1 + 1 + 1:Nat):Int)=3):=by omega
    have n2:¬ (((q.length + 1 + 1 + 1 + 1:Nat):Int)=2):=by omega
    simp only [go_sem,zq,Int.reduceLT,Int.reduceLE,Int.reduceToNat,Int.reduceAdd,frz,List.map_cons,List.length_cons,List.length_map,zb5,n3,n2]
    refine zb hx ?_
    rw [← hop]
    simp [go_sem,L79,R79,zo8]
  ·
   simp only [go_sem,zq,Int.reduceLT,Int.reduceLE,Int.reduceToNat,Int.reduceAdd,frz]
   refine zb hx ?_
   have:o=(0,⟨#[]⟩,⟨#[]⟩):=by
    rw [← hop]
    match r,hbad with
    | [],hbad=>rfl
    | [b],hbad =>
     have:zdm b=false:=by simpa using hbad
     simp [this]
    | [b,c],hbad =>
     have:¬ (zdm b=true∧zdm c=true):=by
      rintro ⟨h1,h2⟩
      simp [h1,h2] at hbad
     simp only
     rw [if_neg (fun h=>this h.2)]
    | b :: c :: d :: q,hbad=>rfl
   rw [this]
   simp [go_sem,L79,R79,zo8]
structure FOp where
 id:Id
 k:ByteArray
 v:ByteArray
 p:Bool
deriving Inhabited
def cOp (o:FOp):List PV := [.int .i64 o.id.r,.int .i64 o.id.n,.str o.k,.str o.v,.bool o.p]
def opE (e:Entry):Option FOp:=if (zbD e.t).1=0 then none else some ⟨e.id,(zbD e.t).2.1,(zbD e.t).2.2,decide ((zbD e.t).1=1)⟩
def zgD (l:List Entry) (c:Int):List FOp:=(Zj l c).filterMap opE
theorem zo9 (s:ByteArray):(zbD s).1=0∨(zbD s).1=1∨(zbD s).1=2:=by
 unfold zbD
 split
 ·
  split
  ·
   exact .inr (.inl rfl)
  ·
   exact .inl rfl
 ·
  split
  ·
   exact .inr (.inr rfl)
  ·
   exact .inl rfl
 ·
  exact .inl rfl
theorem zpa {l:List Entry} {k:Nat} (h:k < l.length):(l.take (k + 1)).filterMap opE=(l.take k).filterMap opE ++ (opE (nth l k)).toList:=by
 rw [List.take_add_one,zk _ _ h,List.filterMap_append]
 cases h2:opE (nth l k) <;> simp [h2]
theorem zeG {α β:Type} (f:α→Option β) (l:List α):(l.filterMap f).length≤l.length:=List.length_filterMap_le ..
def zdP (ps:List (List Id)) (l:List Entry) (all:List FOp) (o:FOp):Bool:=o.p && !(all.any fun x=>decide (x.k=o.k) && zh1 (ZD ps l x.id) o.id)
theorem zpb (l:List Entry) (c:Int) (h:LogOk l) (hc:ZX c 1 7=true) (ht:∀ e ∈ l,e.t.size≤4294967000):zg Tryz.prog 181 [.list (l.map cE),.int .i64 c] [] (.list ((zgD l c).map cOp)) []:=by
 have hm:=h.len
 have hwl:=zc8 l c
 have htw:∀ e ∈ Zj l c,e.t.size≤4294967000:=fun e he=>ht e (List.mem_filter.1 he).1
 refine zg.of_walk Tryz.func181 Tryz.ntmps181 zvs zvt (by simp) fun x hx=>?_
 simp only [go_sem,zzy,zzz]
 refine za (.pure (zeZ l c h hc)) ?_
 simp only [go_sem,List.length_map]
 refine zaa (ZQ 5 0 242 5 false false rfl (by omega)) ?_
 obtain ⟨W,hW⟩:∃ W,Zj l c=W:=⟨_,rfl⟩
 rw [zgD,hW]
 rw [hW] at hwl htw
 refine zr [5,14,15,16] 1 (fun n st=>∃ k v:Nat,k + n=W.length ∧
  st=⟨mkE .top [(5,.arr 0 v),(14,.list (W.map cE)),(15,.int .i64 W.length),(16,.int .i64 k)],[.arr v false false 242 5 (((W.take k).filterMap opE).map cOp)]⟩) W.length (by simp [hx]) (by simp [St.put]) ?_ ?_
 ·
  refine ⟨0,0,by omega,?_⟩
  simp [zi,go_sem,zc,zd,pos,List.range_succ]
 ·
  rintro n st ⟨k,v,hk,rfl⟩
  by_cases hlt:k < W.length
  ·
   have hg:W[k]? = some (nth W k):=zk _ _ hlt
   have wk:=zD (k:=k) (by omega)
   have hsz:=htw (nth W k) (List.mem_of_getElem? hg)
   have htk:=zpa hlt
   have hlen:=zeG opE (W.take k)
   rw [List.length_take] at hlen
   simp only [go_sem,hlt,hg,cE]
   refine za (.pureE (zq6 (nth W k).t (by omega)) (by simp [go_sem])) ?_
   rcases zo9 (nth W k).t with h0 | h1 | h2
   ·
    have hoe:opE (nth W k)=none:=by simp [opE,h0]
    rw [hoe] at htk
    simp only [go_sem,zq,Int.reduceLT,Int.reduceLE,Int.reduceToNat,Int.reduceAdd,frz,zo8,h0,wk]
    refine ⟨by simp,n - 1,by omega,k + 1,v,by omega,?_⟩
    rw [htk]
    simp [zi,go_sem,zc,zd,pos,List.range_succ]
   ·
    have hoe:opE (nth W k)=some ⟨(nth W k).id,(zbD (nth W k).t).2.1,(zbD (nth W k).t).2.2,true⟩:=by simp [opE,h1]
    rw [hoe] at htk
    simp only [go_sem,zq,Int.reduceLT,Int.reduceLE,Int.reduceToNat,Int.reduceAdd,frz,zo8,h1,wk]
    rw [zB rfl rfl (by simp) (by simp; omega)]
    simp only [go_sem,wk]
    refine ⟨by simp,n - 1,by omega,k + 1,v + 1,by omega,?_⟩
    rw [htk]
    simp [zi,go_sem,zc,zd,ze,zf,pos,List.range_succ,cOp]
   ·
    have hoe:opE (nth W k)=some ⟨(nth W k).id,(zbD (nth W k).t).2.1,(zbD (nth W k).t).2.2,false⟩:=by simp [opE,h2]
    rw [hoe] at htk
    simp only [go_sem,zq,Int.reduceLT,Int.reduceLE,Int.reduceToNat,Int.reduceAdd,frz,zo8,h2,wk]
    rw [zB rfl rfl (by simp) (by simp; omega)]
    simp only [go_sem,wk]
    refine ⟨by simp,n - 1,by omega,k + 1,v + 1,by omega,?_⟩
    rw [htk]
    simp [zi,go_sem,zc,zd,ze,zf,pos,List.range_succ,cOp]
  ·
   have:W.take k=W:=List.take_of_length_le (by omega)
   simp only [go_sem,hlt,this]
   refine zb hx ?_
   simp [go_sem,zzy,zzz,zu,pos]
theorem zkV (l : List Entry) (ps : List (List Id)) (o y : FOp) (hl : l.length ≤ 9223372036854775806) (h0 : 0 ≤ zz l y.id) (h1 : zz l y.id < ps.length) (h2 : (ZD ps l y.id).length ≤ 9223372036854775806) :
    zg Tryz.prog 186 [.agg (cOp y),.rptr (cOp o),.rptr [zF l ps]] [] (.bool (decide (y.k=o.k) && zh1 (ZD ps l y.id) o.id)) []:=by
  refine zg.of_walk Tryz.func186 Tryz.ntmps186 zvA zvB (by simp) fun x hx=>?_
  simp only [go_sem,zxu,zxv,cOp]
  by_cases hk:y.k=o.k
  · simp only [go_sem,hk,decide_true,cOp]
    refine za (.pureE (zgd l ps o.id y.id hl h0 h1 h2) (by simp [go_sem,cId,zF])) ?_
    simp only [go_sem]
    refine zb hx ?_
    simp [go_sem,zxu,zxv,hk]
  · simp only [go_sem,hk,decide_false,cOp]
    refine zb hx ?_
    simp [go_sem,zxu,zxv]
theorem zeH (l : List FOp) (g : Nat) (caps : List PV) (Hs : List AObj) (p : FOp → Bool) (hg : zah Tryz.prog g = true) (hl : l.length ≤ 9223372036854775806) (hc : ClosedH Hs caps)
    (hp:∀ e ∈ l,zg Tryz.prog g (.agg (cOp e) :: caps) Hs (.bool (p e)) Hs) :
    zg Tryz.prog 228 [.list (l.map cOp),.clo g caps] Hs (.int .i64 (zaH p l 0)) Hs:=by
  refine zg.of_walk Tryz.func228 Tryz.ntmps228 zv0 zv1 (by simp) fun x hx=>?_
  simp only [go_sem,zxA,zxB]
  refine za7 [0,1,7,8] (fun n st=>∃ k:Nat,k + n=l.length∧zaH p (l.drop k) k=zaH p l 0 ∧
    st=⟨mkE .top [(0,.list (l.map cOp)),(1,.clo g caps),(7,.int .i64 l.length),(8,.int .i64 k)],Hs⟩) l.length ?_ ?_
  · refine ⟨0,by omega,by simp,?_⟩
    simp [ZW,go_sem]
  · rintro n st ⟨k,hk,hi,rfl⟩
    by_cases hlt:k < l.length
    · have hgt:l[k]? = some (nth l k):=zk _ _ hlt
      have wk:=zD (k:=k) (by omega)
      rw [za9 p l k hlt] at hi
      simp only [go_sem,hlt,hgt,cOp,cId]
      refine zan rfl hg (.whole (hp (nth l k) (by rw [zy _ _ hlt]; exact List.getElem_mem hlt)) rfl ?_ hc.sub hc.back) ?_
      · simp only [go_sem,cOp,cId]
        rw [hc.caps]
      cases hpk:p (nth l k)
      · rw [if_neg (by simp [hpk])] at hi
        simp only [go_sem,wk]
        exact ⟨n - 1,by omega,k + 1,by omega,hi,by simp [ZW,go_sem]⟩
      · rw [if_pos hpk] at hi
        simp only [go_sem]
        refine zaq hx rfl hc.kept ?_
        simp [go_sem,zxA,zxB,hi]
    · have:l.drop k = []:=List.drop_eq_nil_of_le (by omega)
      rw [this] at hi
      simp only [go_sem,hlt]
      refine zaq hx rfl hc.kept ?_
      simp [go_sem,zxA,zxB,← hi,zaH]
theorem zir (l : List FOp) (g : Nat) (caps : List PV) (Hs : List AObj) (p : FOp → Bool) (hg : zah Tryz.prog g = true) (hl : l.length ≤ 9223372036854775806) (hc : ClosedH Hs caps)
    (hp:∀ e ∈ l,zg Tryz.prog g (.agg (cOp e) :: caps) Hs (.bool (p e)) Hs) :
    zg Tryz.prog 185 [.list (l.map cOp),.clo g caps] Hs (.bool (l.any p)) Hs:=by
  refine zg.of_walk Tryz.func185 Tryz.ntmps185 zvy zvz (by simp) fun x hx=>?_
  simp only [go_sem,zzA,zzB]
  refine za (.whole (zeH l g caps Hs p hg hl hc hp) rfl ?_ hc.sub hc.back) ?_
  · simp only [go_sem]
    rw [hc.leaf]
  simp only [go_sem]
  refine zaq hx rfl hc.kept ?_
  simp [go_sem,zzA,zzB,zcb]
theorem zhE {caps:List PV} (h1:caps.map (zf true (pos (List.range 0)) (zu false []))=caps) (h2:caps.map (ren true (pos (List.range 0)) (zu false []))=caps):ClosedH [] caps:=⟨h1,h2,rfl,rfl,rfl⟩
theorem zkW (l : List Entry) (ps : List (List Id)) (all : List FOp) (o : FOp) (hl : l.length ≤ 9223372036854775806) (ha : all.length ≤ 9223372036854775806)
    (h:∀ y ∈ all,0≤zz l y.id∧zz l y.id < ps.length∧(ZD ps l y.id).length≤9223372036854775806) :
    zg Tryz.prog 184 [.agg (cOp o),.rptr [.list (all.map cOp)],.rptr [zF l ps]] [] (.bool (!zdP ps l all o)) []:=by
  have hc:=zir all 186 [.rptr (cOp o),.rptr [zF l ps]] [] (fun y=>decide (y.k=o.k) && zh1 (ZD ps l y.id) o.id) (by kernel_rfl) ha
    (zhE (by simp [zf,cOp,zF]) (by simp [ren,zbE,ze,zf,cOp,zF])) (fun y hy=>zkV l ps o y hl (h y hy).1 (h y hy).2.1 (h y hy).2.2)
  refine zg.of_walk Tryz.func184 Tryz.ntmps184 zvw zvx (by simp) fun x hx=>?_
  simp only [go_sem,zxs,zxt,cOp]
  cases hp:o.p
  · simp only [go_sem]
    refine zb hx ?_
    simp [go_sem,zxs,zxt,zdP,hp]
  · simp only [go_sem]
    refine za (.lookE hc rfl (by simp [go_sem,ziT,zfr,cOp,zF,hp])) ?_
    simp only [go_sem]
    refine zb hx ?_
    simp [go_sem,zxs,zxt,zdP,hp]
def zmT:Code→List Code
 | .seq a b=>zmT a ++ zmT b
 | c => [c]
def zjY (P:Program) (nt:Nat):List Code→Option (List LC)
 | []=>some []
 | c :: l=>match zh P nt c,zjY P nt l with
  | some a,some r=>some (a :: r)
  | _,_=>none
def WPL (P:Program):List Code→(Exit→Act→World→Prop)→Act→World→Prop
 | [],Q,a,w=>Q .normal a w
 | c :: l,Q,a,w=>c.wp P (Exit.then (WPL P l Q) Q) a w
section
variable {P:Program} {x:Cx} {nt:Nat} {st:St}
theorem zpc {n n':Act→World→Prop} {Q Q':Exit→Act→World→Prop} (hn:∀ a w,n a w→n' a w) (hq:∀ e a w,Q e a w→Q' e a w) (e:Exit) (a:Act) (w:World) (h:Exit.then n Q e a w):Exit.then n' Q' e a w:=by
 cases e with
 | normal=>exact hn _ _ h
 | _=>exact hq _ _ _ h
theorem zis:∀ {l:List Code} {Q Q':Exit→Act→World→Prop} {a:Act} {w:World},WPL P l Q a w→(∀ e a w,Q e a w→Q' e a w)→WPL P l Q' a w
 | [],_,_,_,_,h,hq=>hq _ _ _ h
 | c :: l,Q,Q',a,w,h,hq=>wp_mono (c:=c) h fun e a' w' h'=>zpc (fun _ _ h2=>zis (l:=l) h2 hq) hq e a' w' h'
theorem zpd:∀ {l1 l2:List Code} {Q:Exit→Act→World→Prop} {a:Act} {w:World},WPL P (l1 ++ l2) Q a w→WPL P l1 (Exit.then (WPL P l2 Q) Q) a w
  | [],_,_,_,_,h=>h
  | c :: l1, l2, Q, a, w, h => wp_mono (c := c) h fun e a' w' h' => by
      cases e with
      | normal=>exact zpd (l1:=l1) h'
      | _=>exact h'
theorem zlI:∀ {l1 l2:List Code} {Q:Exit→Act→World→Prop} {a:Act} {w:World},WPL P l1 (Exit.then (WPL P l2 Q) Q) a w→WPL P (l1 ++ l2) Q a w
  | [],_,_,_,_,h=>h
  | c :: l1, l2, Q, a, w, h => wp_mono (c := c) h fun e a' w' h' => by
      cases e with
      | normal=>exact zlI (l1:=l1) h'
      | _=>exact h'
theorem zcM {c:Code} {Q:Exit→Act→World→Prop} {a:Act} {w:World} (h:WPL P [c] Q a w):c.wp P Q a w:=wp_mono (c:=c) h fun e a' w' h'=>by cases e <;> exact h'
theorem zkX:∀ {c:Code} {Q:Exit→Act→World→Prop} {a:Act} {w:World},WPL P (zmT c) Q a w→c.wp P Q a w
 | .seq c1 c2,Q,a,w,h=>by
  rw [zmT] at h
  refine wp_seq (zkX (c:=c1) (zis (zpd h) fun e a' w' h'=>?_))
  cases e with
  | normal=>exact zkX (c:=c2) h'
  | _=>exact h'
 | .skip,_,_,_,h=>zcM h
 | .region ..,_,_,_,h=>zcM h
 | .cond ..,_,_,_,h=>zcM h
 | .block ..,_,_,_,h=>zcM h
 | .loop ..,_,_,_,h=>zcM h
 | .exit ..,_,_,_,h=>zcM h
 | .ret,_,_,_,h=>zcM h
 | .rangeFunc ..,_,_,_,h=>zcM h
 | .scope ..,_,_,_,h=>zcM h
 | .label ..,_,_,_,h=>zcM h
 | .goto ..,_,_,_,h=>zcM h
 | .refuse ..,_,_,_,h=>zcM h
theorem zpe:∀ {l:List Code} {ll:List LC} {Q:AE→St→Prop} {st:St} {a:Act} {w:World},zjY P nt l=some ll→WL P x nt ll Q st→Rel x nt st a w→WPL P l (zee x nt Q) a w
 | [],ll,Q,st,a,w,h,hw,hr=>by cases h; exact ⟨st,hw,hr⟩
 | c :: l,ll,Q,st,a,w,h,hw,hr=>by
  rw [zjY] at h
  split at h <;> try (cases h; done)
  rename_i lc r h1 h2
  cases h
  refine wp_mono (hw c h1 a w hr) fun e a' w' hq=>?_
  cases e with
  | normal=>obtain ⟨st',g1,g2⟩:=hq; exact zpe (l:=l) h2 g1 g2
  | exit id=>exact hq
  | ret=>exact hq
  | goto l=>exact hq.elim
  | panic ch=>exact hq.elim
  | outgrown=>exact hq.elim
theorem zcg {ops:Array Oper} {Q:Exit→Act→World→Prop} {o:Oper} {rest:List Oper} {a:Act} {w w':World} {v:Value} (hg:o.guard=none) (hex:(execOp a.eval o).run P w = .ok (.value v) w') (h:wpList P ops Q rest (a.put o.dst v) w'):wpList P ops Q (o :: rest) a w:=by
 unfold wpList
 rw [if_pos (by simp [Region.wanted,hg])]
 refine .inl ?_
 unfold Oper.wp
 rw [hex]
 exact h
theorem zg.of_code {f : Nat} {fn : Func} {c : Code} {lrs : List LRes} {args : List PV} {Hs Hs' : List AObj} {r : PV} {nt : Nat} (hf : P.funcs[f]? = some fn) (hnt : fn.ntmps = nt) (hb : fn.body = some c) (hres : zj P fn.results.toList = some lrs)
    (hargs:args.length≤nt)
    (h:∀ x:Cx,x.H0=Hs→∀ a w,Rel x nt (St.init args Hs) a w→c.wp P (zee x nt (zld x nt lrs r Hs')) a w):zg P f args Hs r Hs':=by
  intro x vs hx hr hp
  have hvl:vs.size=args.length:=by have:=hp.1; simpa using this
  refine calls_of_wp hf hb ?_
  have hrel:Rel x nt (St.init args Hs) { tmps:=vs ++ Array.replicate (fn.ntmps - vs.size) Go.undef,defers := [] } x.w0:=by
    refine ⟨⟨x.C0,hr,fun t=>?_⟩,rfl,by simp; omega⟩
    simp only [St.init]
    by_cases ht:t < args.length
    · have e1:args[t]? = some args[t]:=List.getElem?_eq_getElem ht
      have e2:vs.toList[t]? = some vs[t]:=by simp [ht,hvl]
      have:=hp.2 t _ _ e1 e2
      simp only [List.getD,e1,Option.getD_some]
      rw [show (vs ++ Array.replicate (fn.ntmps - vs.size) Go.undef).getD t Go.undef=vs[t] by
        simp [Array.getD,Array.getElem_append,hvl,ht]; omega]
      exact this
    · simp only [List.getD,List.getElem?_eq_none (by omega:args.length≤t),Option.getD_none]
      rw [show (vs ++ Array.replicate (fn.ntmps - vs.size) Go.undef).getD t Go.undef=Go.undef by
        simp only [Array.getD]
        split
        · rw [Array.getInternal_eq_getElem,Array.getElem_append_right (by omega)]; simp
        · rfl]
      exact .undef
  have fin:∀ st a w,(∃ st' keep,zbk x nt st st'∧ztP x lrs keep r Hs' st')→Rel x nt st a w→a.defers = []∧∃ v,(results fn a.tmps).run P w = .ok v w∧∃ v1 C',Ending.returned v = .returned v1∧HR x C' Hs' w∧RepV (zA x C' Hs' w) w C' r v1:=by
    intro st a w ⟨st',keep,hwk,ps,h1,h2,h3,h4,h5,h6⟩ hrel
    replace hrel:=hwk a w hrel
    obtain ⟨⟨C,hr1,he⟩,hdf,hsz⟩:=hrel
    obtain ⟨us,k1,k2⟩:=zaT hr1 he hres h1
    refine ⟨hdf,if h:us.toArray.size=1 then us.toArray[0] else .tuple us.toArray,?_,if h:us.toArray.size=1 then us.toArray[0] else .tuple us.toArray,C.sub (List.range x.H0.length ++ keep),rfl,?_⟩
    · have hm:(fn.results.mapM (zcY a.tmps)).run P w = .ok us.toArray w:=by
        rw [Array.mapM_eq_mapM_toList]
        simp [k1]
      have hq:results fn a.tmps=(do let vs ← fn.results.mapM (zcY a.tmps); pure (if h:vs.size=1 then vs[0] else .tuple vs)):=rfl
      rw [hq,Sem.run_bind,hm,Result.andThen_ok,Sem.run_pure]
    · have hlen:(List.range x.H0.length ++ keep).Nodup:=by
        refine List.nodup_append.2 ⟨List.nodup_range,h2,fun a ha b hb e=>?_⟩
        have:=List.mem_range.1 ha
        have:=(h3 b hb).1
        omega
      obtain ⟨q1, q2⟩ := hr1.restrict (ks := List.range x.H0.length ++ keep) hlen (fun k hk => by
          rcases List.mem_append.1 hk with h | h
          · have:=List.mem_range.1 h; omega
          · exact (h3 k h).2) (fun i hi=>by rw [List.getElem?_append_left (by simpa using hi),List.getElem?_range hi])
      subst h5
      subst h6
      exact ⟨q1,zec q2 (zei k2)⟩
  refine wp_mono (h x hx _ _ hrel) fun e a w hq=>?_
  cases e with
  | normal=>obtain ⟨st,g1,g2⟩:=hq; exact fin st a w g1 g2
  | ret=>obtain ⟨st,g1,g2⟩:=hq; exact fin st a w g1 g2
  | exit id=>obtain ⟨st,g1,g2⟩:=hq; exact g1.elim
  | goto l=>exact hq.elim
  | panic ch=>exact hq.elim
  | outgrown=>exact hq.elim
theorem zg.of_tail {f : Nat} {fn : Func} {c : Code} {l1 l2 : List Code} {ll : List LC} {lrs : List LRes} {args : List PV} {Hs Hs' : List AObj} {r : PV} {nt : Nat} (hf : P.funcs[f]? = some fn) (hnt : fn.ntmps = nt) (hb : fn.body = some c) (hfl : zmT c = l1 ++ l2)
    (hlow:zjY P nt l1=some ll) (hres:zj P fn.results.toList=some lrs) (hargs:args.length≤nt) (K:Cx→St→Prop)
    (h:∀ x:Cx,x.H0=Hs→WL P x nt ll (zef (K x) (zld x nt lrs r Hs')) ⟨mkE .undef (zm4 0 args),Hs⟩)
    (hK:∀ x:Cx,x.H0=Hs→∀ st,K x st→∀ a w,Rel x nt st a w→WPL P l2 (zee x nt (zld x nt lrs r Hs')) a w):zg P f args Hs r Hs' :=
  zg.of_code hf hnt hb hres hargs fun x hx a w hr=>zkX (by
    rw [hfl]
    refine zlI (zis (zpe hlow (h x hx) (by rw [← zf2]; exact hr)) fun e a' w' hq=>?_)
    cases e with
    | normal=>obtain ⟨st,g1,g2⟩:=hq; exact hK x hx st g1 a' w' g2
    | exit id=>exact hq
    | ret=>exact hq
    | goto l=>exact hq
    | panic ch=>exact hq
    | outgrown=>exact hq)
end
def zti:List LC := [(.reg none [.q 4 (.mv (.val .nilsl))]),(.reg none [.q 8 (.mv (.tmp 0)),.q 9 (.mv (.tmp 1)),.q 10 (.call 228 [.tmp 8,.tmp 9] 0),.q 5 (.mv (.tmp 10))]),(.reg none [.q 11 (.mv (.tmp 5)),.q 12 (.bin .eql (.tmp 11) (.val (.int .i64 (-1))))]),(.cond (.tmp 12) (.seq (.reg none [.q 13 (.mv (.tmp 0)),.q 4 (.mv (.tmp 13))]) .ret) .skip),(.reg none [.q 14 (.mv (.tmp 5)),.q 15 (.bin .add (.tmp 14) (.val (.int .i64 1))),.q 6 (.mv (.tmp 15))]),(.block 0 (.loop (.seq (.seq (.reg none [.q 16 (.mv (.tmp 6)),.q 17 (.mv (.tmp 0)),.q 18 (.len false (.tmp 17)),.q 19 (.bin .lss (.tmp 16) (.tmp 18))]) (.cond (.tmp 19) .skip (.exit 0))) (.seq (.block 1 (.seq (.reg none [.q 22 (.mv (.tmp 0)),.q 23 (.mv (.tmp 6)),.q 24 (.iaddrS 5 (.tmp 22) (.tmp 23)),.q 25 (.load 5 true (.tmp 24)),.q 7 (.alloc [.int .i64 0,.int .i64 0,.str ⟨#[]⟩,.str ⟨#[]⟩,(.bool false)]),.s (.store 5 (.tmp 7) (.tmp 25))]) (.seq (.reg none [.q 26 (.mv (.tmp 1)),.q 27 (.load 5 true (.tmp 7)),.q 28 (.callv (.tmp 26) [.tmp 27]),.q 29 (.not (.tmp 28))]) (.cond (.tmp 29) (.seq (.reg none [.q 30 (.mv (.tmp 0)),.q 31 (.mv (.tmp 5)),.q 32 (.load 5 true (.tmp 7)),.q 33 (.iaddrS 5 (.tmp 30) (.tmp 31)),.s (.store 5 (.tmp 33) (.tmp 32))]) (.reg none [.q 34 (.mv (.tmp 5)),.q 35 (.bin .add (.tmp 34) (.val (.int .i64 1))),.q 5 (.mv (.tmp 35))])) .skip)))) (.reg none [.q 20 (.mv (.tmp 6)),.q 21 (.bin .add (.tmp 20) (.val (.int .i64 1))),.q 6 (.mv (.tmp 21))])))))]
def zz9:List LRes := [.tmp 4]
theorem zpf:zjY Tryz.prog 42 ((zmT (Tryz.f182.body.getD .skip)).take 6)=some zti:=by kernel_rfl
theorem zpg:Tryz.f182.body=some (Tryz.f182.body.getD .skip):=by kernel_rfl
theorem zrV:zj Tryz.prog Tryz.f182.results.toList=some zz9:=by kernel_rfl
theorem zgE {α:Type} [Inhabited α] {l:List α} {k:Nat} (p:α→Bool) (h:k < l.length):(l.take (k + 1)).filter p=(l.take k).filter p ++ if p (nth l k)=true then [nth l k] else []:=by
 rw [List.take_add_one,zk _ _ h,List.filter_append]
 by_cases h2:p (nth l k)=true <;> simp [h2]
def ztj : List Code := [.region 11 #[⟨some 36, .move (.tmp 0), 238, "slices.go:253", #[], none⟩, ⟨some 37, .move (.tmp 5), 3, "slices.go:253", #[], none⟩, ⟨some 38, .slice 238 (.tmp 36) (some (.tmp 37)) none none, 238, "slices.go:253", #[⟨0, .data⟩, ⟨1, .data⟩], none⟩, ⟨none, .call ⟨.builtin .clear, #[.tmp 38], #[238]⟩, 0, "slices.go:253", #[⟨2, .data⟩], none⟩] false,
 .region 12 #[⟨some 39, .move (.tmp 0), 238, "slices.go:254", #[], none⟩, ⟨some 40, .move (.tmp 5), 3, "slices.go:254", #[], none⟩, ⟨some 41, .slice 238 (.tmp 39) none (some (.tmp 40)) none, 238, "slices.go:254", #[⟨0, .data⟩, ⟨1, .data⟩], none⟩, ⟨some 4, .assign (.tmp 41), 238, "slices.go:254", #[⟨2, .data⟩, ⟨0, .phase⟩, ⟨1, .phase⟩, ⟨2, .phase⟩], none⟩] false, .ret]
theorem zkY:Tryz.prog.underlying 238=some (.slice 242):=by kernel_rfl
theorem zq7 {x : Cx} {st : St} {rows : List (List PV)} {v i : Nat} (h0 : st.env 0 = .arr 0 v) (h5 : st.env 5 = .int .i64 i) (hh : st.heap = [.arr v true false 242 5 rows]) (hi : i < rows.length)
    {Q:AE→St→Prop} (hQ:∀ st':St,st'.env 4 = .arr 0 (v + 1)→st'.heap = [.arr (v + 1) true false 242 5 (rows.take i)]→Q .ret st'):∀ a w,Rel x 42 st a w→WPL Tryz.prog ztj (zee x 42 Q) a w:=by
  intro a w ⟨⟨C,hr,he⟩,hdf,hsz⟩
  have e0:=he 0
  have e5:=he 5
  rw [h0] at e0
  rw [h5] at e5
  have e5:=e5.int_inv
  rw [hh] at hr
  obtain ⟨q1,q2,q3⟩:=hr.row (id:=0) rfl (by rw [hh] at e0; exact e0)
  rcases q3 with ⟨-,rfl⟩ | ⟨g,cap,cur,r1,r2,r3,r4,r5,r6⟩
  · simp at hi
  have hcell:∀ t,t < rows.length * 5→(x.w0=x.w0)∧(w.cell? ⟨g,t,none⟩).isSome=true∧w.frozen? ⟨g,t,none⟩=false:=by
    intro t ht
    have:t < cur.size:=by rw [r5]; omega
    exact ⟨rfl,by simp [World.cell?,r2,this],by simp [World.frozen?,r2]⟩
  obtain ⟨z,hz1,hz2,hz3⟩:∃ z,(∀ w,(zeroValue 242).run Tryz.prog w = .ok z w)∧z.cells.size=5∧∀ u ∈ z.cells,u.oneCell'=true:=⟨.agg #[.int .i64 0,.int .i64 0,.string ⟨#[]⟩,.string ⟨#[]⟩,.bool false],fun w=>by kernel_rfl,rfl,by
    intro u hu
    simp [Value.cells] at hu
    rcases hu with rfl | rfl | rfl | rfl <;> rfl⟩
  obtain ⟨zs,hzl,hcl⟩:=zbQ (P:=Tryz.prog) w 238 242 0 z zkY hz1 hz3 g (i * 5) (rows.length - i) (cap - i) (by omega)
    (fun j hj=>(hcell (i * 5 + j) (by rw [hz2] at hj; omega)).2.1) (fun j hj=>(hcell (i * 5 + j) (by rw [hz2] at hj; omega)).2.2)
  rw [hz2] at hzl
  obtain ⟨cs',c1,c2,c3⟩:=zbu g zs (i * 5) w cur r2 (by rw [hzl,r5]; omega)
  have hown:(C.sv 0).ownBlock=some g:=by rw [← q1,r1]; rfl
  obtain ⟨C',k1,k2,k3⟩:=hr.rerow (id:=0) (v':=v + 1) (g':=g) (cap':=cap) (rows':=rows.take i) (cur':=cs') rfl (zcz g zs (i * 5) w hown) (.inl hown) (.inr (by omega)) c1
    (by rw [List.length_take]; omega) r4 (by rw [c2,r5]) (fun row hrow=>q2 row (List.mem_of_mem_take hrow)) (fun k row j p u a1 a2 a3=>by
      rw [List.getElem?_take] at a1
      split at a1
      · rename_i hk
        have hj:j < 5:=by rw [← q2 row (List.mem_of_getElem? a1)]; exact (List.getElem?_eq_some_iff.1 a2).1
        rw [c3,if_neg (by omega)] at a3
        obtain ⟨y,y1,y2,y3⟩:=r6 k row j p a1 a2
        rw [y1] at a3; cases a3
        exact ⟨y2,y3⟩
      · cases a1)
  rw [List.length_take,Nat.min_eq_left (by omega)] at k3
  have g0:∀ (b:Act),b.tmps.size=42→∀ (d:Nat) (u:Value) (t:Nat),d < 42→(b.put (some d) u).tmps.getD t Go.undef=if t=d then u else b.tmps.getD t Go.undef:=by
    intro b hb d u t hd
    simp only [Act.put]
    by_cases e:t=d
    · subst e; simp [Array.getD,hb,hd]
    · rw [if_neg e]
      by_cases ht:t < b.tmps.size
      · simp [Array.getD,ht,Array.getElem_setIfInBounds_ne,Ne.symm e]
      · simp [Array.getD,ht]
  have gs:∀ (b:Act),b.tmps.size=42→∀ d u,(b.put d u).tmps.size=42:=by
    intro b hb d u
    cases d <;> simp [Act.put,hb]
  have hu0:a.tmps.getD 0 Go.undef = .slice (some ⟨g,0,none⟩) rows.length cap:=r1
  obtain ⟨a1,ha1⟩:∃ a1,a.put (some 36) (.slice (some ⟨g,0,none⟩) rows.length cap)=a1:=⟨_,rfl⟩
  have s1:a1.tmps.size=42:=by rw [← ha1]; exact gs _ hsz _ _
  have t1:∀ t,a1.tmps.getD t Go.undef=if t=36 then .slice (some ⟨g,0,none⟩) rows.length cap else a.tmps.getD t Go.undef:=fun t=>by rw [← ha1]; exact g0 _ hsz _ _ _ (by omega)
  obtain ⟨a2,ha2⟩:∃ a2,a1.put (some 37) (.int .i64 i)=a2:=⟨_,rfl⟩
  have s2:a2.tmps.size=42:=by rw [← ha2]; exact gs _ s1 _ _
  have t2:∀ t,a2.tmps.getD t Go.undef=if t=37 then .int .i64 i else a1.tmps.getD t Go.undef:=fun t=>by rw [← ha2]; exact g0 _ s1 _ _ _ (by omega)
  obtain ⟨a3,ha3⟩:∃ a3,a2.put (some 38) (.slice (some ⟨g,i * 5,none⟩) (rows.length - i) (cap - i))=a3:=⟨_,rfl⟩
  have s3:a3.tmps.size=42:=by rw [← ha3]; exact gs _ s2 _ _
  have t3:∀ t,a3.tmps.getD t Go.undef=if t=38 then .slice (some ⟨g,i * 5,none⟩) (rows.length - i) (cap - i) else a2.tmps.getD t Go.undef:=fun t=>by rw [← ha3]; exact g0 _ s2 _ _ _ (by omega)
  refine wp_region_list ?_
  refine zcg (w':=w) (v := .slice (some ⟨g,0,none⟩) rows.length cap) rfl (by simp only [execOp,Act.eval,hu0,Sem.run_pure]) ?_
  rw [ha1]
  refine zcg (w':=w) (v := .int .i64 i) rfl (by simp only [execOp,Act.eval,t1,e5,Sem.run_pure,Nat.reduceEqDiff,if_false]) ?_
  rw [ha2]
  refine zcg (w':=w) (v := .slice (some ⟨g,i * 5,none⟩) (rows.length - i) (cap - i)) rfl ?_ ?_
  · have e1:a2.eval (.tmp 36) = .slice (some ⟨g,0,none⟩) rows.length cap:=by simp only [Act.eval,t2,t1,Nat.reduceEqDiff,if_false,if_true]
    have e2:a2.eval (.tmp 37) = .int .i64 i:=by simp only [Act.eval,t2,if_true]
    have hb:(Instr.sliceBounds true rows.length cap (some (.int .i64 (i:Int))) none none).run Tryz.prog w = .ok (i,rows.length,cap) w:=by
      simp [Instr.sliceBounds,Instr.sliceBound,asIntOf]
      omega
    simp only [execOp,Option.map_some,Option.map_none,e1,e2,Instr.sliceAt,Instr.slice,Sem.run_bind,run_underlying zkY,Result.andThen_ok,hb,ZV (show zav Tryz.prog 242=some 5 by kernel_rfl),Sem.run_pure]
    rw [if_neg (by omega)]
    simp [Addr.add]
    try omega
  rw [ha3]
  refine zcg (w':=w.setCells g (i * 5) zs) (v := .tuple #[]) rfl ?_ ?_
  · have e1:a3.eval (.tmp 38) = .slice (some ⟨g,i * 5,none⟩) (rows.length - i) (cap - i):=by simp only [Act.eval,t3,if_true]
    simp only [execOp,resolve,Sem.run_bind,Sem.run_pure,Result.andThen_ok,invoke,builtin,List.map_toArray,List.map_cons,List.map_nil,e1,hcl]
  obtain ⟨w1,hw1⟩:∃ w1,w.setCells g (i * 5) zs=w1:=⟨_,rfl⟩
  rw [hw1] at k1 k2 k3 ⊢
  have ha4:a3.put none (.tuple #[])=a3:=rfl
  rw [ha4]
  have u0:a3.tmps.getD 0 Go.undef = .slice (some ⟨g,0,none⟩) rows.length cap:=by rw [t3,if_neg (by omega),t2,if_neg (by omega),t1,if_neg (by omega)]; exact hu0
  have u5:a3.tmps.getD 5 Go.undef = .int .i64 i:=by rw [t3,if_neg (by omega),t2,if_neg (by omega),t1,if_neg (by omega)]; exact e5
  obtain ⟨b1,hb1⟩:∃ b1,a3.put (some 39) (.slice (some ⟨g,0,none⟩) rows.length cap)=b1:=⟨_,rfl⟩
  have s4:b1.tmps.size=42:=by rw [← hb1]; exact gs _ s3 _ _
  have t4:∀ t,b1.tmps.getD t Go.undef=if t=39 then .slice (some ⟨g,0,none⟩) rows.length cap else a3.tmps.getD t Go.undef:=fun t=>by rw [← hb1]; exact g0 _ s3 _ _ _ (by omega)
  obtain ⟨b2,hb2⟩:∃ b2,b1.put (some 40) (.int .i64 i)=b2:=⟨_,rfl⟩
  have s5:b2.tmps.size=42:=by rw [← hb2]; exact gs _ s4 _ _
  have t5:∀ t,b2.tmps.getD t Go.undef=if t=40 then .int .i64 i else b1.tmps.getD t Go.undef:=fun t=>by rw [← hb2]; exact g0 _ s4 _ _ _ (by omega)
  obtain ⟨b3,hb3⟩:∃ b3,b2.put (some 41) (.slice (some ⟨g,0,none⟩) i cap)=b3:=⟨_,rfl⟩
  have s6:b3.tmps.size=42:=by rw [← hb3]; exact gs _ s5 _ _
  have t6:∀ t,b3.tmps.getD t Go.undef=if t=41 then .slice (some ⟨g,0,none⟩) i cap else b2.tmps.getD t Go.undef:=fun t=>by rw [← hb3]; exact g0 _ s5 _ _ _ (by omega)
  show Code.wp Tryz.prog _ _ a3 w1
  refine wp_region_list ?_
  refine zcg (w':=w1) (v := .slice (some ⟨g,0,none⟩) rows.length cap) rfl (by simp only [execOp,Act.eval,u0,Sem.run_pure]) ?_
  rw [hb1]
  refine zcg (w':=w1) (v := .int .i64 i) rfl (by simp only [execOp,Act.eval,t4,u5,Sem.run_pure,Nat.reduceEqDiff,if_false]) ?_
  rw [hb2]
  refine zcg (w':=w1) (v := .slice (some ⟨g,0,none⟩) i cap) rfl ?_ ?_
  · have e1:b2.eval (.tmp 39) = .slice (some ⟨g,0,none⟩) rows.length cap:=by simp only [Act.eval,t5,t4,Nat.reduceEqDiff,if_false,if_true]
    have e2:b2.eval (.tmp 40) = .int .i64 i:=by simp only [Act.eval,t5,if_true]
    have hb:(Instr.sliceBounds true rows.length cap none (some (.int .i64 (i:Int))) none).run Tryz.prog w1 = .ok (0,i,cap) w1:=by
      simp [Instr.sliceBounds,Instr.sliceBound,asIntOf]
      omega
    simp only [execOp,Option.map_some,Option.map_none,e1,e2,Instr.sliceAt,Instr.slice,Sem.run_bind,run_underlying zkY,Result.andThen_ok,hb,ZV (show zav Tryz.prog 242=some 5 by kernel_rfl),Sem.run_pure]
    rw [if_neg (by omega)]
    simp [Addr.add]
  rw [hb3]
  refine zcg (w':=w1) (v := .slice (some ⟨g,0,none⟩) i cap) rfl (by simp only [execOp,Act.eval,t6,Sem.run_pure,if_true]) ?_
  show Code.wp Tryz.prog .ret _ _ w1
  refine wp_ret ?_
  refine ⟨⟨fun t=>if t=4 then .arr 0 (v + 1) else .top,[.arr (v + 1) true false 242 5 (rows.take i)]⟩,hQ _ rfl rfl,⟨C',k1,fun t=>?_⟩,?_,gs _ s6 _ _⟩
  · rw [g0 _ s6 _ _ _ (by omega)]
    by_cases e:t=4
    · rw [if_pos e]; simp only [e,if_true]; exact k3
    · rw [if_neg e]; simp only [e,if_false]; exact .any
  · have pd:∀ (b:Act) (d:Option Nat) (u:Value),(b.put d u).defers=b.defers:=fun b d u=>by cases d <;> rfl
    rw [pd,← hb3,pd,← hb2,pd,← hb1,pd,← ha3,pd,← ha2,pd,← ha1,pd]
    exact hdf
theorem zph {α:Type} [Inhabited α] (p:α→Bool):∀ (l:List α) (k:Nat),l.any p=true→∃ j,j < l.length∧zaH p l k=((k + j:Nat):Int)∧p (nth l j)=true∧∀ q,q ∈ l.take j→p q=false
 | [],k,h=>by simp at h
 | y :: l,k,h=>by
  cases hy:p y
  ·
   have h':l.any p=true:=by simpa [hy] using h
   obtain ⟨j,h1,h2,h3,h4⟩:=zph p l (k + 1) h'
   refine ⟨j + 1,by simp; omega,by rw [zaH,if_neg (by simp [hy]),h2]; congr 1; omega,h3,fun q hq=>?_⟩
   rw [List.take_succ_cons] at hq
   rcases List.mem_cons.1 hq with rfl | hq
   ·
    exact hy
   ·
    exact h4 q hq
  ·
   exact ⟨0,by simp,by rw [zaH,if_pos hy]; simp,hy,fun q hq=>by simp at hq⟩
theorem zmU (l : List FOp) (g : Nat) (caps : List PV) (p : FOp → Bool) (v : Nat) (hg : zah Tryz.prog g = true) (hl : l.length ≤ 1000000) (hc : ClosedH [] caps)
    (hcl:∀ nl f fz,caps.map (zf nl f fz)=caps∧caps.map (ren nl f fz)=caps∧caps.map (ze nl f fz)=caps) (hp:∀ o ∈ l,zg Tryz.prog g (.agg (cOp o) :: caps) [] (.bool (p o)) []) :
    ∃ v',zg Tryz.prog 182 [.arr 0 v,.clo g caps] [.arr v true false 242 5 (l.map cOp)] (.arr 0 v') [.arr v' true false 242 5 ((l.filter fun o => !p o).map cOp)]:=by
  have hix:=zeH l g caps [] p hg (by omega) hc hp
  cases ha:l.any p
  · have hm1:zaH p l 0 = -1:=by
      rcases zf7 p l 0 with ⟨h1,-⟩ | ⟨-,h2⟩
      · exact h1
      · rw [h2] at ha; cases ha
    have hf:(l.filter fun o => !p o)=l:=List.filter_eq_self.2 fun o ho=>by
      have:=List.any_eq_false.1 ha o ho
      simpa using this
    rw [hf]
    rw [hm1] at hix
    refine ⟨v,?_⟩
    refine zg.of_tail Tryz.func182 Tryz.ntmps182 zpg (List.take_append_drop _ _).symm zpf zrV (by simp) (fun _ _=>False) (fun x hx=>?_) (fun _ _ _ h=>h.elim)
    refine zY ?_
    simp only [go_sem,zti]
    refine za (.scalarE hix rfl (by simp [go_sem,zu,pos,hcl])) ?_
    simp only [go_sem]
    refine zG [] (by simp) (by simp) (by simp [hx]) ?_ ?_
    · simp [go_sem,zz9,hx,pos]
    · simp [zc,zd,hx,pos,go_sem,List.range_succ]
  · obtain ⟨k0,d1,d2,d3,d4⟩:=zph p l 0 ha
    rw [Nat.zero_add] at d2
    rw [d2] at hix
    refine ⟨v + 1,?_⟩
    refine zg.of_tail Tryz.func182 Tryz.ntmps182 zpg (List.take_append_drop _ _).symm zpf zrV (by simp) (fun _ st=>∃ (r:List FOp) (i:Nat),i < r.length∧st.env 0 = .arr 0 v∧st.env 5 = .int .i64 i∧st.heap = [.arr v true false 242 5 (r.map cOp)]∧r.take i=l.filter fun o => !p o) (fun x hx=>?_) (fun x hx st ⟨r,i,q1,q2,q3,q4,q5⟩=>?_)
    · refine zY ?_
      have hk0:((k0:Int) = -1)=False:=eq_false (by omega)
      have wk0:=zD (k:=k0) (by omega)
      simp only [go_sem,zti]
      refine za (.scalarE hix rfl (by simp [go_sem,zu,pos,hcl])) ?_
      simp only [go_sem,hk0,wk0]
      refine zr [0,1,5,6] 1 (fun n st=>∃ (r:List FOp) (i j:Nat),j + n=l.length∧i < j∧r.length=l.length∧r.take i=(l.take j).filter (fun o => !p o)∧r.drop j=l.drop j ∧
        st=⟨mkE .top [(0,.arr 0 v),(1,.clo g caps),(5,.int .i64 i),(6,.int .i64 j)],[.arr v true false 242 5 (r.map cOp)]⟩) (l.length - (k0 + 1)) (by simp [hx]) (by simp) ?_ ?_
      · refine ⟨l,k0,k0 + 1,by omega,by omega,rfl,?_,rfl,?_⟩
        · rw [zgE _ d1,if_neg (by simp [d3]),List.append_nil]
          exact (List.filter_eq_self.2 fun q hq=>by simp [d4 q hq]).symm
        · simp [zi,go_sem,zc,zd,ze,zf,pos,List.range_succ,hcl]
      · rintro n st ⟨r,i,j,hj,hij,hrl,hrt,hrd,rfl⟩
        by_cases hlt:j < l.length
        · have hgj:r[j]? = some (nth l j):=by
            have:(r.drop j)[0]? = (l.drop j)[0]? := by rw [hrd]
            rw [List.getElem?_drop,List.getElem?_drop,Nat.add_zero] at this
            rw [this]; exact zk _ _ hlt
          have hgi:r[i]? = some (nth r i):=zk _ _ (by omega)
          have hjr:j < r.length:=by omega
          have hir:i < r.length:=by omega
          have wj:=zD (k:=j) (by omega)
          have wi:=zD (k:=i) (by omega)
          have hpe:=hp (nth l j) (List.mem_of_getElem? (zk _ _ hlt))
          have hft:=zgE (fun o => !p o) hlt
          have hdd:r.drop (j + 1)=l.drop (j + 1):=by rw [← List.drop_drop,hrd,List.drop_drop]
          simp only [go_sem,List.length_map,hjr,hgj,cOp,List.getElem?_map,Option.map_some]
          refine zan rfl hg (.scalarE hpe rfl (by simp [go_sem,zu,pos,hcl,cOp])) ?_
          cases hpk:p (nth l j)
          · simp only [go_sem,zq,Int.reduceLT,Int.reduceLE,Int.reduceToNat,Int.reduceAdd,frz,frz,PV.isPure,List.length_map,hjr,hir,hgi,cOp,List.getElem?_map,Option.map_some,wj,wi]
            refine ⟨by simp,n - 1,by omega,r.set i (nth l j),i + 1,j + 1,by omega,by omega,by simp [hrl],?_,?_,?_⟩
            · rw [hft,if_pos (by simp [hpk]),← hrt,List.take_add_one,List.take_set_of_le (Nat.le_refl _),List.getElem?_set_self hir]
              rfl
            · rw [List.drop_set_of_lt (by omega),hdd]
            · simp [zi,go_sem,zc,zd,ze,zf,pos,List.range_succ,hcl,List.map_set,cOp]
          · simp only [go_sem,wj]
            refine ⟨by simp,n - 1,by omega,r,i,j + 1,by omega,by omega,hrl,?_,hdd,?_⟩
            · rw [hft,if_neg (by simp [hpk]),List.append_nil,hrt]
            · simp [zi,go_sem,zc,zd,ze,zf,pos,List.range_succ,hcl]
        · have hjr:¬ j < r.length:=by omega
          simp only [go_sem,List.length_map,hjr]
          refine ⟨r,i,by omega,rfl,rfl,rfl,?_⟩
          rw [hrt,List.take_of_length_le (by omega)]
    · rw [← q5]
      refine zq7 (rows:=r.map cOp) (i:=i) q2 q3 q4 (by simpa using q1) (fun st' g1 g2=>?_)
      refine zG [] (by simp) (by simp) (by simp [hx,g2]) ?_ ?_
      · simp [go_sem,zz9,hx,pos,g1]
      · simp [zc,zd,hx,pos,go_sem,List.range_succ,g2,List.map_take]
end Go.Proofs.YtkcahmbcpkjpiaaGreatDoor
namespace Go.Proofs.YtkcahmbcpkjpiaaGreatDoor
open Go.RowKit Go.Shelf
/-! texts in order -/
theorem zit:∀ l:List UInt8,Lib.compareBytes l l=0
 | []=>rfl
 | a :: l=>by
  have h:¬ a < a:=by rw [UInt8.lt_iff_toNat_lt]; omega
  rw [Lib.compareBytes,if_neg h,if_neg h]
  exact zit l
theorem zkZ:∀ {a b:List UInt8},Lib.compareBytes a b=0→a=b
 | [],[],_=>rfl
 | [],_ :: _,h=>by simp [Lib.compareBytes] at h
 | _ :: _,[],h=>by simp [Lib.compareBytes] at h
 | x :: a,y :: b,h=>by
  rw [Lib.compareBytes] at h
  split at h
  ·
   simp at h
  ·
   split at h
   ·
    simp at h
   ·
    rename_i h1 h2
    rw [UInt8.lt_iff_toNat_lt] at h1 h2
    rw [zkZ h,UInt8.toNat.inj (show x.toNat=y.toNat by omega)]
theorem zpi:∀ (a b:List UInt8),Lib.compareBytes b a = - Lib.compareBytes a b
 | [],[]=>rfl
 | [],_ :: _=>rfl
 | _ :: _,[]=>rfl
 | x :: a,y :: b=>by
  rw [Lib.compareBytes,Lib.compareBytes]
  by_cases h1:x < y
  ·
   have h2:¬ y < x:=by rw [UInt8.lt_iff_toNat_lt] at h1 ⊢; omega
   rw [if_neg h2,if_pos h1,if_pos h1]; rfl
  ·
   by_cases h2:y < x
   ·
    rw [if_pos h2,if_neg h1,if_pos h2]
   ·
    rw [if_neg h2,if_neg h1,if_neg h1,if_neg h2]
    exact zpi a b
theorem zlJ:∀ {a b c:List UInt8},Lib.compareBytes a b < 0→Lib.compareBytes b c < 0→Lib.compareBytes a c < 0
 | [],[],_,h,_=>by simp [Lib.compareBytes] at h
 | [],_ :: _,[],_,h=>by simp [Lib.compareBytes] at h
 | [],_ :: _,_ :: _,_,_=>by simp [Lib.compareBytes]
 | _ :: _,[],_,h,_=>by simp [Lib.compareBytes] at h
 | _ :: _,_ :: _,[],_,h=>by simp [Lib.compareBytes] at h
 | x :: a,y :: b,z :: c,h,g=>by
  rw [Lib.compareBytes] at h g ⊢
  by_cases h1:x < y
  ·
   by_cases g1:y < z
   ·
    have:x < z:=by rw [UInt8.lt_iff_toNat_lt] at h1 g1 ⊢; omega
    rw [if_pos this]; decide
   ·
    rw [if_neg g1] at g
    by_cases g2:z < y
    ·
     rw [if_pos g2] at g; simp at g
    ·
     have:x < z:=by rw [UInt8.lt_iff_toNat_lt] at h1 g1 g2 ⊢; omega
     rw [if_pos this]; decide
  ·
   rw [if_neg h1] at h
   by_cases h2:y < x
   ·
    rw [if_pos h2] at h; simp at h
   ·
    rw [if_neg h2] at h
    have e:x=y:=by
     rw [UInt8.lt_iff_toNat_lt] at h1 h2
     exact UInt8.toNat.inj (by omega)
    subst e
    by_cases g1:x < z
    ·
     rw [if_pos g1]; decide
    ·
     rw [if_neg g1] at g ⊢
     by_cases g2:z < x
     ·
      rw [if_pos g2] at g; simp at g
     ·
      rw [if_neg g2] at g ⊢
      exact zlJ h g
def zdn (a b:ByteArray):Int:=Lib.compareBytes a.data.toList b.data.toList
theorem zb0 (a:ByteArray):zdn a a=0:=zit _
theorem zbe {a b:ByteArray} (h:zdn a b=0):a=b:=by
 apply ByteArray.ext
 exact Array.toList_inj.1 (zkZ h)
theorem zeI (a b:ByteArray):zdn b a = - zdn a b:=zpi _ _
theorem zbG {a b c:ByteArray} (h:zdn a b < 0) (g:zdn b c < 0):zdn a c < 0:=zlJ h g
def zjZ (x y:ByteArray × ByteArray):Int:=if zdn x.1 y.1=0 then zdn x.2 y.2 else zdn x.1 y.1
theorem zj0 {x y:ByteArray × ByteArray} (h:zjZ x y=0):x=y:=by
 unfold zjZ at h
 split at h
 ·
  rename_i h1; exact Prod.ext (zbe h1) (zbe h)
 ·
  contradiction
theorem zdo (x y:ByteArray × ByteArray):zjZ y x = - zjZ x y:=by
 unfold zjZ
 have h1:=zeI x.1 y.1
 have h2:=zeI x.2 y.2
 split <;> split <;> omega
theorem zhF {x y z:ByteArray × ByteArray} (h:zjZ x y < 0) (g:zjZ y z < 0):zjZ x z < 0:=by
 unfold zjZ at h g ⊢
 by_cases h1:zdn x.1 y.1=0
 ·
  rw [if_pos h1] at h
  have e1:=zbe h1
  by_cases g1:zdn y.1 z.1=0
  ·
   rw [if_pos g1] at g
   rw [e1,if_pos g1]
   exact zbG h g
  ·
   rw [if_neg g1] at g
   rw [e1,if_neg g1]; exact g
 ·
  rw [if_neg h1] at h
  by_cases g1:zdn y.1 z.1=0
  ·
   have e1:=zbe g1
   rw [← e1,if_neg h1]; exact h
  ·
   rw [if_neg g1] at g
   have:=zbG h g
   rw [if_neg (by omega)]; exact this
def FOp.kv (o:FOp):ByteArray × ByteArray:=(o.k,o.v)
def ze8 (x y:FOp):Int:=zjZ x.kv y.kv
theorem zwW:Go.Sort.SWO (ltOf ze8) where
 irrefl:=fun x=>by
  have:zjZ x.kv x.kv=0:=by have:=zdo x.kv x.kv; omega
  simp [ltOf,ze8,this]
 trans:=fun x y z h1 h2=>by
  unfold ltOf ze8 at *
  exact decide_eq_true (zhF (of_decide_eq_true h1) (of_decide_eq_true h2))
 ntrans:=fun x y z h1 h2=>by
  unfold ltOf ze8 at *
  have h1:=of_decide_eq_false h1
  have h2:=of_decide_eq_false h2
  apply decide_eq_false
  have a:=zdo x.kv y.kv
  have b:=zdo y.kv z.kv
  have c:=zdo x.kv z.kv
  intro h
  by_cases e1:zjZ x.kv y.kv=0
  ·
   rw [zj0 e1] at h; omega
  ·
   by_cases e2:zjZ y.kv z.kv=0
   ·
    rw [← zj0 e2] at h; omega
   ·
    have:=zhF (x:=z.kv) (y:=y.kv) (z:=x.kv) (by omega) (by omega)
    omega
def eOp (o:FOp):List Value := [.int .i64 o.id.r,.int .i64 o.id.n,.string o.k,.string o.v,.bool o.p]
theorem ziu:Flat cOp eOp 5 where
 k0:=by omega
 len:=fun _=>rfl
 lenp:=fun _=>rfl
 one:=fun o v hv=>by
  simp [eOp] at hv
  rcases hv with rfl | rfl | rfl | rfl | rfl <;> rfl
 fit:=fun S w a j p h=>by
  rcases j with _ | _ | _ | _ | _ | j
  ·
   cases h; exact .int _ _
  ·
   cases h; exact .int _ _
  ·
   cases h; exact .str _
  ·
   cases h; exact .str _
  ·
   cases h; exact .bool _
  ·
   simp [cOp] at h
 back:=fun S w a j p u h hr=>by
  rcases j with _ | _ | _ | _ | _ | j
  ·
   cases h; cases hr; rfl
  ·
   cases h; cases hr; rfl
  ·
   cases h; cases hr; rfl
  ·
   cases h; cases hr; rfl
  ·
   cases h; cases hr; rfl
  ·
   simp [cOp] at h
noncomputable def zcr (l:List FOp):List FOp:=(Go.Sort.pdq (ltOf ze8) l.toArray 0 l.toArray.size (Lib.bitLen l.toArray.size) true true).toList
theorem zdA (l:List FOp):(zcr l).Perm l∧(zcr l).Pairwise fun x y=>¬ ze8 y x < 0:=by
 obtain ⟨h1,h2⟩:=Go.Sort.pdq_sorts (ltOf ze8) zwW l.toArray 0 l.toArray.size (Lib.bitLen l.toArray.size) true true (Nat.zero_le _) (Nat.le_refl _) (Or.inl rfl)
 obtain ⟨a1,-,a3⟩:=h1
 have e1:∀ d:Array FOp,d.size=l.toArray.size→d.extract 0 l.toArray.size=d:=fun d hd=>by rw [← hd]; exact Array.extract_size
 rw [e1 _ a1,e1 _ rfl] at a3
 refine ⟨by simpa [zcr] using a3,?_⟩
 rw [List.pairwise_iff_getElem]
 intro i j hi hj hij
 have hi':i < (Go.Sort.pdq (ltOf ze8) l.toArray 0 l.toArray.size (Lib.bitLen l.toArray.size) true true).size:=by simpa [zcr] using hi
 have hj':j < (Go.Sort.pdq (ltOf ze8) l.toArray 0 l.toArray.size (Lib.bitLen l.toArray.size) true true).size:=by simpa [zcr] using hj
 have:=h2 i j (Nat.zero_le _) hij (by rw [← a1]; exact hj')
 rw [getElem!_pos _ i hi',getElem!_pos _ j hj'] at this
 simpa [ltOf,zcr] using this
theorem ziv (a b:ByteArray) (w:World):Calls Tryz.prog 189 #[.string a,.string b] w fun e w'=>e = .returned (.int .i64 (zdn a b))∧w'=w:=Any.strings_Compare zAF a b w
theorem zk0 (a b:FOp) (w:World):Calls Tryz.prog 188 #[.agg (eOp a).toArray,.agg (eOp b).toArray] w fun e w'=>e = .returned (.int .i64 (ze8 a b))∧∃ q os',w'=Go.Sort.grow (w.drewN q) os':=by
 unfold eOp
 go_enter Tryz.func188,Tryz.ntmps188
 go_wp2_with (go_at_call 189; refine (ziv _ _ _).mono ?_; rintro e w' ⟨rfl,rfl⟩)
 ·
  go_ret
  have h:(zdn a.k b.k != 0)=true:=by assumption
  exact ⟨zf5 (by exact (if_neg (show ¬ zdn a.k b.k=0 by simpa using h)).symm),0,_,by rw [Go.Sort.alloc_eq_grow,Go.Sort.alloc_eq_grow,Go.Sort.grow_grow]; rfl⟩
 ·
  go_ret
  have h:(zdn a.k b.k != 0)=false:=by assumption
  exact ⟨zf5 (by exact (if_pos (show zdn a.k b.k=0 by simpa using h)).symm),0,_,by rw [Go.Sort.alloc_eq_grow,Go.Sort.alloc_eq_grow,Go.Sort.grow_grow]; rfl⟩
theorem zpj (blk off size:Nat) (w:World):CmpLays Tryz.prog 188 #[] eOp 5 ze8 blk off size w:=fun _ _ _ _ a b=>zk0 a b _
theorem ziw (l : List FOp) (v T : Nat) (hl : l.length < 4611686018427387904) :
    zg Tryz.prog 187 [.arr 0 v,.clo 188 []] [.arr v true false T 5 (l.map cOp)] (.tup []) [.arr v true false T 5 ((zcr l).map cOp)]:=by
  intro x vs hx h0 hp
  obtain ⟨a,b,rfl,h1,h2⟩:=zfG hp.1
  have ha:=hp.2 0 _ _ rfl h1
  have hb:=hp.2 1 _ _ rfl h2
  obtain ⟨ws,rfl,hw,-⟩:=hb.clo_inv
  obtain rfl:ws = []:=List.length_eq_zero_iff.1 hw
  obtain ⟨e1,e2,e3⟩:=h0.row (id:=0) rfl ha
  have hsl:(zcr l).length=l.length:=(zdA l).1.length_eq
  rcases e3 with ⟨rfl,hnil⟩ | ⟨g,cap,cur,rfl,hc,hcap,hm,hz,hrow⟩
  · have:l = []:=by simpa using hnil
    subst this
    have hs0:zcr [] = []:=List.length_eq_zero_iff.1 hsl
    refine (AnyF.slices_SortFunc_none zo6 none 0 (.func (.func 188) #[] #[]) x.w0).mono ?_
    rintro e w' ⟨rfl,rfl⟩
    exact ⟨_,x.C0,rfl,by simpa [hs0] using h0,.tup [] [] rfl (fun j p u h=>by simp at h)⟩
  · have eg:∀ args w,(callFunc 188 args).run Tryz.prog w = .ok (.enter 188 args) w:=enters_of Tryz.func188 (by kernel_rfl) rfl
    have hH:=ziu.holds l hc hrow
    have hlt:g < x.w0.heap.size:=(Array.getElem?_eq_some_iff.1 hc).1
    have key:=AnyQ.slices_SortFunc_eq zo6 5 (fun _=>by kernel_rfl) (fun _=>by kernel_rfl) eOp ziu.len ziu.one ze8 zwW 188 #[] g 0 cap l.toArray x.w0 eg (zpj g 0 _ x.w0) hH hlt (by simpa using hl)
    rw [List.length_map] at *
    refine key.mono ?_
    rintro e w' ⟨rfl,n,os,rfl⟩
    have hd:Go.Sort.pdq (ltOf ze8) l.toArray 0 l.toArray.size (Lib.bitLen l.toArray.size) true true=(zcr l).toArray:=by simp [zcr]
    rw [hd]
    obtain ⟨cur',c1,c2,c3,c4⟩:=zjf eOp 5 x.w0 g n (zcr l).toArray os hc
    have hown:(x.C0.sv 0).ownBlock=some g:=by rw [← e1]; rfl
    obtain ⟨C',k1,k2,k3⟩:=h0.rerow (id:=0) (v':=v) (g':=g) (cap':=cap) (rows':=(zcr l).map cOp) (cur':=cur') rfl (by
      refine ⟨c4.size,c4.os,c4.tape,c4.output,fun b hb hne=>c4.blk b hb fun e=>hne (by rw [hown,e])⟩) (.inl hown) (.inl ⟨rfl,by rw [← e1,List.length_map,hsl]⟩) c1 (by rw [List.length_map,hsl]; exact hcap) hm (by rw [c2,hz])
      (fun row hr=>by obtain ⟨y,-,rfl⟩:=List.mem_map.1 hr; rfl) (ziu.rep c3 (l:=zcr l) (zcr l).length (fun i hi=>by
        rw [List.getElem?_eq_getElem hi]
        simp [hi]) rfl (by simp))
    exact ⟨_,C',rfl,k1,.tup [] [] rfl (fun j p u h=>by simp at h)⟩
end Go.Proofs.YtkcahmbcpkjpiaaGreatDoor
namespace Go.Proofs.YtkcahmbcpkjpiaaGreatDoor
open Go.RowKit
theorem zlK {x : Cx} {nt : Nat} {st : St} (id : Nat) {v T sz : Nat} {sto : Bool} {rows rows' : List (List PV)} (h : st.heap[id]? = some (.arr v sto true T sz rows)) (hf : rows.map (·.map (frz st.heap)) = rows') (hp : rows'.all (fun r => r.all PV.isPure) = true) :
    zbk x nt st ⟨st.env,st.heap.set id (.arr v false false T sz rows')⟩:=by
  subst hf
  intro a w ⟨⟨C,hr,he⟩,hdf,hs⟩
  obtain ⟨k1,k2⟩:=hr.change (C':=C) (ob' := .arr v false false T sz (rows.map (·.map (frz st.heap)))) h (za5 w) rfl (fun _=>rfl) (fun _ _=>⟨rfl,rfl⟩) (.inl ⟨rfl,rfl⟩)
    (fun b o _ hf hb=>by have:=hf hb; simp at this) (fun b o _ _=>rfl) (fun b h => .inl h)
    (fun hm hmp=>by
      obtain ⟨o1,o2,o3,xs,o4,o5⟩:=hr.obj id _ h
      refine ⟨o1,o2,fun row hrow=>?_,xs,by simpa using o4,fun k row j p u a b c=>?_⟩
      · obtain ⟨r,hr1,rfl⟩:=List.mem_map.1 hrow
        simpa using o3 r hr1
      · obtain ⟨r,hr1,rfl⟩:=zJ a
        obtain ⟨q,hq1,rfl⟩:=zJ b
        obtain ⟨e1,e2⟩:=o5 k r j q u hr1 hq1 c
        refine ⟨e1,?_⟩
        simp only [Bool.false_eq_true,if_false,if_true] at e2 ⊢
        refine hmp _ _ ((zfO hr e2).pureOf ?_)
        have h1:=List.all_eq_true.1 hp _ (List.mem_map.2 ⟨r,List.mem_of_getElem? hr1,rfl⟩)
        exact List.all_eq_true.1 h1 _ (List.mem_map.2 ⟨q,List.mem_of_getElem? hq1,rfl⟩))
  exact ⟨⟨C,k1,fun u=>k2 _ _ (he u)⟩,hdf,hs⟩
abbrev KV:=ByteArray × List ByteArray
def zcR (p:KV):List PV := [.str p.1,.list (p.2.map zb5)]
def zkc (out:List KV) (o:ByteArray × ByteArray):List KV:=match out.getLast? with
 | some p=>if p.1=o.1 then (if p.2.any (fun s=>decide (o.2=s))=true then out else out.dropLast ++ [(p.1,p.2 ++ [o.2])]) else out ++ [(o.1,[o.2])]
 | none => [(o.1,[o.2])]
theorem zpk {o:List KV} {key v:ByteArray} {vs:List ByteArray} (h:(vs.any fun x=>decide (v=x))=true):zkc (o ++ [(key,vs)]) (key,v)=o ++ [(key,vs)]:=by
 rw [zkc,List.getLast?_concat]
 simp only [if_true]
 rw [if_pos h]
theorem zlL {o:List KV} {key v:ByteArray} {vs:List ByteArray} (h:(vs.any fun x=>decide (v=x))=false):zkc (o ++ [(key,vs)]) (key,v)=o ++ [(key,vs ++ [v])]:=by
 rw [zkc,List.getLast?_concat]
 simp only [if_true]
 rw [if_neg (by simp [h]),List.dropLast_concat]
theorem zlM {o:List KV} {key k v:ByteArray} {vs:List ByteArray} (h:¬ key=k):zkc (o ++ [(key,vs)]) (k,v)=(o ++ [(key,vs)]) ++ [(k,[v])]:=by
 rw [zkc,List.getLast?_concat]
 simp only [if_neg h]
def zj1 (l:List (ByteArray × ByteArray)):List KV:=l.foldl zkc []
def zam (l:List Entry) (c:Int):List FOp:=(zgD l c).filter (zdP (Z0 l) l (zgD l c))
noncomputable def zgO (l:List Entry) (c:Int):List KV:=zj1 ((zcr (zam l c)).map FOp.kv)
theorem zpl {l:List FOp} {k:Nat} (h:k < l.length):zj1 ((l.take (k + 1)).map FOp.kv)=zkc (zj1 ((l.take k).map FOp.kv)) (nth l k).kv:=by
 rw [zj1,List.take_add_one,zk _ _ h,Option.toList_some,List.map_append,List.foldl_append]
 rfl
theorem zg3 (l:List ByteArray) (y:ByteArray) (hl:l.length≤9223372036854775806):zg Tryz.prog 231 [.list (l.map zb5),.str y] [] (.int .i64 (zaH (fun x=>decide (y=x)) l 0)) []:=by
 refine zg.of_walk Tryz.func231 Tryz.ntmps231 zv2 zv3 (by simp) fun x hx=>?_
 simp only [go_sem,zxC,zxD]
 refine zr [0,1,7,8] 0 (fun n st=>∃ k:Nat,k + n=l.length∧zaH (fun x=>decide (y=x)) (l.drop k) k=zaH (fun x=>decide (y=x)) l 0 ∧
  st=⟨mkE .top [(0,.list (l.map zb5)),(1,.str y),(7,.int .i64 l.length),(8,.int .i64 k)],[]⟩) l.length (by simp [hx]) (by simp) ?_ ?_
 ·
  refine ⟨0,by omega,by simp,?_⟩
  simp [zi,go_sem,zc,zd,pos,List.range_succ]
 ·
  rintro n st ⟨k,hk,hi,rfl⟩
  by_cases hlt:k < l.length
  ·
   have hg:l[k]? = some (nth l k):=zk _ _ hlt
   have wk:=zD (k:=k) (by omega)
   rw [za9 _ l k hlt] at hi
   by_cases he:y=nth l k
   ·
    simp only [go_sem,hlt,hg,zb5,he,decide_true]
    refine zb hx ?_
    simp [he] at hi
    simp [go_sem,zxC,zxD,hi,he]
   ·
    simp only [go_sem,hlt,hg,zb5,he,wk,decide_false]
    refine ⟨by simp,n - 1,by omega,k + 1,by omega,by simpa [he] using hi,?_⟩
    simp [zi,go_sem,zc,zd,pos,List.range_succ]
  ·
   have:l.drop k = []:=List.drop_eq_nil_of_le (by omega)
   rw [this] at hi
   simp only [go_sem,hlt]
   refine zb hx ?_
   simp [go_sem,zxC,zxD,← hi,zaH]
theorem ze9 (l:List ByteArray) (y:ByteArray) (hl:l.length≤9223372036854775806):zg Tryz.prog 190 [.list (l.map zb5),.str y] [] (.bool (l.any fun x=>decide (y=x))) []:=by
 refine zg.of_walk Tryz.func190 Tryz.ntmps190 zvC zvD (by simp) fun x hx=>?_
 simp only [go_sem,zzC,zzD]
 refine za (.pureE (zg3 l y hl) (by simp [go_sem])) ?_
 simp only [go_sem]
 refine zb hx ?_
 simp [go_sem,zzC,zzD,zcb]
theorem zg4 (rows:List (List PV)) (hz:∀ row ∈ rows,row.length=5) (hb:rows.length * 56≤140737488355328):zg Tryz.prog 183 [.list rows] [] (.arr 0 1) [.arr 1 true false 242 5 rows]:=by
 refine zg.of_walk Tryz.func183 Tryz.ntmps183 zvu zvv (by simp) fun x hx=>?_
 simp only [go_sem,zxq,zxr]
 refine zf3 rfl fun b hb'=>?_
 cases b
 ·
  simp only [go_sem]
  rw [zB rfl rfl hz (by simpa using hb)]
  simp only [go_sem]
  refine zG [0] (by simp) (by simp [hx]) (by simp [hx]) ?_ ?_
  ·
   simp [go_sem,zxq,zxr,hx,pos]
  ·
   simp [zc,zd,hx]
 ·
  simp only [go_sem]
  refine zt (ZQ 2 1 242 5 true false rfl (by omega)) ?_
  have:rows = []:=hb' rfl
  subst this
  rw [Zt]
  refine zG [0] (by simp) (by simp [hx]) (by simp [hx]) ?_ ?_
  ·
   simp [go_sem,zxq,zxr,hx,pos]
  ·
   simp [zc,zd,hx]
end Go.Proofs.YtkcahmbcpkjpiaaGreatDoor
