/- Joined texts of this claim: V9 V10 V11 U4 V12 U10 U11 U13 U14 U15 V13. -/
import Derived.Test.YtkcahmbcpkjpiaaGreatDoorKF
import Derived.Test.YtkcahmbcpkjpiaaGreatDoorKE
import Derived.Test.YtkcahmbcpkjpiaaGreatDoorKD
set_option linter.unusedSimpArgs false
set_option linter.unusedVariables false
set_option linter.unusedSectionVars false
set_option maxHeartbeats 8000000
set_option maxRecDepth 100000
namespace Go.Proofs.YtkcahmbcpkjpiaaGreatDoor
open Go.RowKit
theorem zik {w:Wo} (h:WoOk w) {i:Int} (hi:i=0∨i=1) {e:Entry} (hc:zl e=0) (hb:zdj w e):zW i (w.log i) (w.wts i) e=0:=by
 by_cases hr:e.id.r=i
 ·
  exact if_pos (.inl (zbX.2 ⟨e,zif hb hr,rfl⟩))
 ·
  exact (zjH (h.si hi) hc hr).1
theorem zoC (vs vy va vb : Nat) (w : Wo) (h : WoOk w) (i n c : Int) (t : ByteArray) (hi : i = 0 ∨ i = 1) :
    ∃ va' vb',zg Tryz.prog 138 [.ptr 0 0,.agg (zo 2 i n c t)] (hWo vs vy va vb w) (.int .i64 (zN w 2 i n c t)) (hWo vs vy va' vb' (if zN w 2 i n c t=0 then doW w 2 i n c t else w)):=by
  have la:=h.la
  have lb:=h.lb
  rcases hi with rfl | rfl
  · skip
    by_cases hn0:n < 0
    · refine ⟨va,vb,?_⟩
      rw [zat (by decide) (by decide) (.inl hn0),if_neg (by decide)]
      refine zg.of_parts Tryz.func138 Tryz.ntmps138 Z1 Z2 (by simp) fun x hx=>?_
      simp only [LC.flat,ZJ,ZK,List.cons_append,List.nil_append]
      refine Zq 1 [0,3] 6 (fun st=>st=⟨mkE .top [(3,.rptr (zo 2 0 n c t)),(0,.ptr 0 0),(3,.ptr 5 0)],hWo vs vy va vb w ++ [.gone]⟩) (by simp [hx,hWo]) (by simp) ?_ ?_
      · simp only [go_sem,ZJ,ZK,List.take_succ_cons,List.take_zero,zo]
        rw [zI]
        refine ⟨by simp [hWo],_,?_,rfl⟩
        have e:=z6 (x:=x) (nt:=114) (st:=⟨mkE .top [(0,.ptr 0 0),(3,.ptr 5 0)],hWo vs vy va vb w ++ [.box (zo 2 0 n c t)]⟩) (cells':=zo 2 0 n c t) (H':=hWo vs vy va vb w ++ [.gone]) 3 5 rfl rfl (by simp [zo,frz]) (by simp [zo,PV.isPure]) rfl
        rw [Zt] at e
        refine Zh ?_ e
        simp [zi,go_sem,zc,zd,ze,zf,pos,List.range_succ,hWo,Wo.ss,zp,cSi,zo]
      rintro st rfl
      refine zY ?_
      simp only [go_sem,ZJ,ZK,List.drop_succ_cons,List.drop_zero,hWo,Wo.ss,zp,cSi,cE,zo,zq,Int.reduceLT,Int.reduceLE,Int.reduceToNat,Int.reduceAdd,frz,List.map_cons,List.map_nil,List.cons_append,List.nil_append,hn0]
      repeat refine ⟨rfl,?_⟩
      refine zG [] (by simp) (by simp) (by simp [hx,hWo]) ?_ ?_
      · simp [go_sem,ZJ,ZK,hx,pos,hWo]
      · simp [zc,zd,ze,zf,hx,pos,go_sem,hWo,List.range_succ,Wo.ss,zp,cSi]
    by_cases hn1:(w.a.length:Int)≤n
    · refine ⟨va,vb,?_⟩
      rw [zat (by decide) (by decide) (.inr (by show (w.a.length:Int)≤n; exact hn1)),if_neg (by decide)]
      refine zg.of_parts Tryz.func138 Tryz.ntmps138 Z1 Z2 (by simp) fun x hx=>?_
      simp only [LC.flat,ZJ,ZK,List.cons_append,List.nil_append]
      refine Zq 1 [0,3] 6 (fun st=>st=⟨mkE .top [(3,.rptr (zo 2 0 n c t)),(0,.ptr 0 0),(3,.ptr 5 0)],hWo vs vy va vb w ++ [.gone]⟩) (by simp [hx,hWo]) (by simp) ?_ ?_
      · simp only [go_sem,ZJ,ZK,List.take_succ_cons,List.take_zero,zo]
        rw [zI]
        refine ⟨by simp [hWo],_,?_,rfl⟩
        have e:=z6 (x:=x) (nt:=114) (st:=⟨mkE .top [(0,.ptr 0 0),(3,.ptr 5 0)],hWo vs vy va vb w ++ [.box (zo 2 0 n c t)]⟩) (cells':=zo 2 0 n c t) (H':=hWo vs vy va vb w ++ [.gone]) 3 5 rfl rfl (by simp [zo,frz]) (by simp [zo,PV.isPure]) rfl
        rw [Zt] at e
        refine Zh ?_ e
        simp [zi,go_sem,zc,zd,ze,zf,pos,List.range_succ,hWo,Wo.ss,zp,cSi,zo]
      rintro st rfl
      refine zY ?_
      simp only [go_sem,ZJ,ZK,List.drop_succ_cons,List.drop_zero,hWo,Wo.ss,zp,cSi,cE,zo,zq,Int.reduceLT,Int.reduceLE,Int.reduceToNat,Int.reduceAdd,frz,List.map_cons,List.map_nil,List.cons_append,List.nil_append,hn0]
      simp only [go_sem,hn1,List.length_map]
      repeat refine ⟨rfl,?_⟩
      refine zG [] (by simp) (by simp) (by simp [hx,hWo]) ?_ ?_
      · simp [go_sem,ZJ,ZK,hx,pos,hWo]
      · simp [zc,zd,ze,zf,hx,pos,go_sem,hWo,List.range_succ,Wo.ss,zp,cSi]
    obtain ⟨q,rfl⟩:∃ q:Nat,n=q:=⟨n.toNat,by omega⟩
    have hq:q < w.a.length:=by omega
    have hnn:¬ ((q:Int) < 0∨((w.way 0).length:Int)≤(q:Int)):=by show ¬ ((q:Int) < 0∨(w.a.length:Int)≤(q:Int)); omega
    have hce:=h.ca _ (zcT hq)
    have hnN:¬ w.a.length≤q:=by omega
    have hgq:w.a[q]? = some (nth w.a q):=zk _ _ hq
    have hbo:=h.ba _ (zcT hq)
    obtain ⟨va',vb',htk⟩:=zdx vs vy va vb w 0 q (by omega) hq (by show w.a.length≤30; omega)
    have hr0:zW 0 (w.log 0) (w.wts 0) (nth w.a q)=0:=zik h (by omega) hce hbo
    have hrc:=zbB vs vy va' vb' (w.setY 0 ((w.way 0).eraseIdx q)) 0 (nth w.a q) (h.si (by omega)) hce
    have hr1:zW 0 ((w.setY 0 ((w.way 0).eraseIdx q)).log 0) ((w.setY 0 ((w.way 0).eraseIdx q)).wts 0) (nth w.a q)=0:=hr0
    have hd:zN w 2 0 q c t=0:=by rw [zN,if_neg (by decide),if_neg (by decide),if_neg hnn,if_pos rfl,Int.toNat_natCast]; exact hr0
    have hdW:doW w 2 0 q c t=zii (w.setY 0 ((w.way 0).eraseIdx q)) 0 (nth w.a q):=by
      rw [doW,if_neg (by decide),if_neg (by decide),if_pos rfl,Int.toNat_natCast,zii,if_pos hr1]; rfl
    rw [hr1] at hrc
    refine ⟨va',vb',?_⟩
    rw [hd,if_pos rfl,hdW]
    have htk:zg Tryz.prog 211 [.ptr 0 0,.int .i64 0,.int .i64 q] (hWo vs vy va vb w) (.agg (cE (nth w.a q))) (hWo vs vy va' vb' (w.setY 0 ((w.way 0).eraseIdx q))):=htk
    generalize zii (w.setY 0 ((w.way 0).eraseIdx q)) 0 (nth w.a q)=w3 at *
    generalize w.setY 0 ((w.way 0).eraseIdx q)=w2 at *
    refine zg.of_parts Tryz.func138 Tryz.ntmps138 Z1 Z2 (by simp) fun x hx=>?_
    simp only [LC.flat,ZJ,ZK,List.cons_append,List.nil_append]
    refine Zq 1 [0,3] 6 (fun st=>st=⟨mkE .top [(3,.rptr (zo 2 0 (q:Int) c t)),(0,.ptr 0 0),(3,.ptr 5 0)],hWo vs vy va vb w ++ [.gone]⟩) (by simp [hx,hWo]) (by simp) ?_ ?_
    · simp only [go_sem,ZJ,ZK,List.take_succ_cons,List.take_zero,zo]
      rw [zI]
      refine ⟨by simp [hWo],_,?_,rfl⟩
      have e:=z6 (x:=x) (nt:=114) (st:=⟨mkE .top [(0,.ptr 0 0),(3,.ptr 5 0)],hWo vs vy va vb w ++ [.box (zo 2 0 (q:Int) c t)]⟩) (cells':=zo 2 0 (q:Int) c t) (H':=hWo vs vy va vb w ++ [.gone]) 3 5 rfl rfl (by simp [zo,frz]) (by simp [zo,PV.isPure]) rfl
      rw [Zt] at e
      refine Zh ?_ e
      simp [zi,go_sem,zc,zd,ze,zf,pos,List.range_succ,hWo,Wo.ss,zp,cSi,zo]
    rintro st rfl
    refine zY ?_
    simp only [go_sem,ZJ,ZK,List.drop_succ_cons,List.drop_zero,hWo,Wo.ss,zp,cSi,cE,zo,zq,Int.reduceLT,Int.reduceLE,Int.reduceToNat,Int.reduceAdd,frz,List.map_cons,List.map_nil,List.cons_append,List.nil_append,hn0]
    simp only [go_sem,hn0,hnN,List.length_map,zq,Int.reduceLT,Int.reduceLE,Int.reduceToNat,Int.reduceAdd,frz]
    repeat refine ⟨rfl,?_⟩
    try simp only [go_sem,zq,Int.reduceLT,Int.reduceLE,Int.reduceToNat,Int.reduceAdd,frz]
    refine zi1 (.heapE [0,1,2,3,4] (r' := .agg (cE (nth w.a q))) (H':=hWo vs vy va' vb' w2 ++ [.gone]) htk (by simp) (by simp) (by simp [go_sem,pos]) ?_ ?_ ?_) ?_
    · skip
      simp [zc,zd,ze,zf,pos,hWo,Wo.ss,zp,cSi]
    · simp [zbE,ren,ze,zf,cE]
    · skip
      simp [Zk,zH,zK,ZA,Zb,zd,ze,zf,pos,List.range_succ,hWo,Wo.ss,zp,cSi,cE,zo]
    simp only [go_sem,hWo,zq,Int.reduceLT,Int.reduceLE,Int.reduceToNat,Int.reduceAdd,frz,List.cons_append,List.nil_append]
    refine za (.heapE [0,1,2,3,4] (r' := .int .i64 0) (H':=hWo vs vy va' vb' w3 ++ [.gone]) hrc (by simp) (by simp) (by simp [go_sem,pos,cE]) ?_ ?_ ?_) ?_
    · skip
      simp [zc,zd,ze,zf,pos,hWo,Wo.ss,zp,cSi]
    · simp [zbE,ren,ze,zf]
    · skip
      simp [Zk,zH,zK,ZA,Zb,zd,ze,zf,pos,List.range_succ,hWo,Wo.ss,zp,cSi,cE,zo]
    simp only [go_sem,hWo,zq,Int.reduceLT,Int.reduceLE,Int.reduceToNat,Int.reduceAdd,frz]
    repeat refine ⟨rfl,?_⟩
    try simp only [go_sem,zq,Int.reduceLT,Int.reduceLE,Int.reduceToNat,Int.reduceAdd,frz]
    refine zG [] (by simp) (by simp) (by simp [hx,hWo]) ?_ ?_
    · simp [go_sem,ZJ,ZK,hx,pos,hWo]
    · simp [zc,zd,ze,zf,hx,pos,go_sem,hWo,List.range_succ,Wo.ss,zp,cSi]
  · skip
    by_cases hn0:n < 0
    · refine ⟨va,vb,?_⟩
      rw [zat (by decide) (by decide) (.inl hn0),if_neg (by decide)]
      refine zg.of_parts Tryz.func138 Tryz.ntmps138 Z1 Z2 (by simp) fun x hx=>?_
      simp only [LC.flat,ZJ,ZK,List.cons_append,List.nil_append]
      refine Zq 1 [0,3] 6 (fun st=>st=⟨mkE .top [(3,.rptr (zo 2 1 n c t)),(0,.ptr 0 0),(3,.ptr 5 0)],hWo vs vy va vb w ++ [.gone]⟩) (by simp [hx,hWo]) (by simp) ?_ ?_
      · simp only [go_sem,ZJ,ZK,List.take_succ_cons,List.take_zero,zo]
        rw [zI]
        refine ⟨by simp [hWo],_,?_,rfl⟩
        have e:=z6 (x:=x) (nt:=114) (st:=⟨mkE .top [(0,.ptr 0 0),(3,.ptr 5 0)],hWo vs vy va vb w ++ [.box (zo 2 1 n c t)]⟩) (cells':=zo 2 1 n c t) (H':=hWo vs vy va vb w ++ [.gone]) 3 5 rfl rfl (by simp [zo,frz]) (by simp [zo,PV.isPure]) rfl
        rw [Zt] at e
        refine Zh ?_ e
        simp [zi,go_sem,zc,zd,ze,zf,pos,List.range_succ,hWo,Wo.ss,zp,cSi,zo]
      rintro st rfl
      refine zY ?_
      simp only [go_sem,ZJ,ZK,List.drop_succ_cons,List.drop_zero,hWo,Wo.ss,zp,cSi,cE,zo,zq,Int.reduceLT,Int.reduceLE,Int.reduceToNat,Int.reduceAdd,frz,List.map_cons,List.map_nil,List.cons_append,List.nil_append,hn0]
      repeat refine ⟨rfl,?_⟩
      refine zG [] (by simp) (by simp) (by simp [hx,hWo]) ?_ ?_
      · simp [go_sem,ZJ,ZK,hx,pos,hWo]
      · simp [zc,zd,ze,zf,hx,pos,go_sem,hWo,List.range_succ,Wo.ss,zp,cSi]
    by_cases hn1:(w.b.length:Int)≤n
    · refine ⟨va,vb,?_⟩
      rw [zat (by decide) (by decide) (.inr (by show (w.b.length:Int)≤n; exact hn1)),if_neg (by decide)]
      refine zg.of_parts Tryz.func138 Tryz.ntmps138 Z1 Z2 (by simp) fun x hx=>?_
      simp only [LC.flat,ZJ,ZK,List.cons_append,List.nil_append]
      refine Zq 1 [0,3] 6 (fun st=>st=⟨mkE .top [(3,.rptr (zo 2 1 n c t)),(0,.ptr 0 0),(3,.ptr 5 0)],hWo vs vy va vb w ++ [.gone]⟩) (by simp [hx,hWo]) (by simp) ?_ ?_
      · simp only [go_sem,ZJ,ZK,List.take_succ_cons,List.take_zero,zo]
        rw [zI]
        refine ⟨by simp [hWo],_,?_,rfl⟩
        have e:=z6 (x:=x) (nt:=114) (st:=⟨mkE .top [(0,.ptr 0 0),(3,.ptr 5 0)],hWo vs vy va vb w ++ [.box (zo 2 1 n c t)]⟩) (cells':=zo 2 1 n c t) (H':=hWo vs vy va vb w ++ [.gone]) 3 5 rfl rfl (by simp [zo,frz]) (by simp [zo,PV.isPure]) rfl
        rw [Zt] at e
        refine Zh ?_ e
        simp [zi,go_sem,zc,zd,ze,zf,pos,List.range_succ,hWo,Wo.ss,zp,cSi,zo]
      rintro st rfl
      refine zY ?_
      simp only [go_sem,ZJ,ZK,List.drop_succ_cons,List.drop_zero,hWo,Wo.ss,zp,cSi,cE,zo,zq,Int.reduceLT,Int.reduceLE,Int.reduceToNat,Int.reduceAdd,frz,List.map_cons,List.map_nil,List.cons_append,List.nil_append,hn0]
      simp only [go_sem,hn1,List.length_map]
      repeat refine ⟨rfl,?_⟩
      refine zG [] (by simp) (by simp) (by simp [hx,hWo]) ?_ ?_
      · simp [go_sem,ZJ,ZK,hx,pos,hWo]
      · simp [zc,zd,ze,zf,hx,pos,go_sem,hWo,List.range_succ,Wo.ss,zp,cSi]
    obtain ⟨q,rfl⟩:∃ q:Nat,n=q:=⟨n.toNat,by omega⟩
    have hq:q < w.b.length:=by omega
    have hnn:¬ ((q:Int) < 0∨((w.way 1).length:Int)≤(q:Int)):=by show ¬ ((q:Int) < 0∨(w.b.length:Int)≤(q:Int)); omega
    have hce:=h.cb _ (zcT hq)
    have hnN:¬ w.b.length≤q:=by omega
    have hgq:w.b[q]? = some (nth w.b q):=zk _ _ hq
    have hbo:=h.bb _ (zcT hq)
    obtain ⟨va',vb',htk⟩:=zdx vs vy va vb w 1 q (by omega) hq (by show w.b.length≤30; omega)
    have hr0:zW 1 (w.log 1) (w.wts 1) (nth w.b q)=0:=zik h (by omega) hce hbo
    have hrc:=zbB vs vy va' vb' (w.setY 1 ((w.way 1).eraseIdx q)) 1 (nth w.b q) (h.si (by omega)) hce
    have hr1:zW 1 ((w.setY 1 ((w.way 1).eraseIdx q)).log 1) ((w.setY 1 ((w.way 1).eraseIdx q)).wts 1) (nth w.b q)=0:=hr0
    have hd:zN w 2 1 q c t=0:=by rw [zN,if_neg (by decide),if_neg (by decide),if_neg hnn,if_pos rfl,Int.toNat_natCast]; exact hr0
    have hdW:doW w 2 1 q c t=zii (w.setY 1 ((w.way 1).eraseIdx q)) 1 (nth w.b q):=by
      rw [doW,if_neg (by decide),if_neg (by decide),if_pos rfl,Int.toNat_natCast,zii,if_pos hr1]; rfl
    rw [hr1] at hrc
    refine ⟨va',vb',?_⟩
    rw [hd,if_pos rfl,hdW]
    have htk:zg Tryz.prog 211 [.ptr 0 0,.int .i64 1,.int .i64 q] (hWo vs vy va vb w) (.agg (cE (nth w.b q))) (hWo vs vy va' vb' (w.setY 1 ((w.way 1).eraseIdx q))):=htk
    generalize zii (w.setY 1 ((w.way 1).eraseIdx q)) 1 (nth w.b q)=w3 at *
    generalize w.setY 1 ((w.way 1).eraseIdx q)=w2 at *
    refine zg.of_parts Tryz.func138 Tryz.ntmps138 Z1 Z2 (by simp) fun x hx=>?_
    simp only [LC.flat,ZJ,ZK,List.cons_append,List.nil_append]
    refine Zq 1 [0,3] 6 (fun st=>st=⟨mkE .top [(3,.rptr (zo 2 1 (q:Int) c t)),(0,.ptr 0 0),(3,.ptr 5 0)],hWo vs vy va vb w ++ [.gone]⟩) (by simp [hx,hWo]) (by simp) ?_ ?_
    · simp only [go_sem,ZJ,ZK,List.take_succ_cons,List.take_zero,zo]
      rw [zI]
      refine ⟨by simp [hWo],_,?_,rfl⟩
      have e:=z6 (x:=x) (nt:=114) (st:=⟨mkE .top [(0,.ptr 0 0),(3,.ptr 5 0)],hWo vs vy va vb w ++ [.box (zo 2 1 (q:Int) c t)]⟩) (cells':=zo 2 1 (q:Int) c t) (H':=hWo vs vy va vb w ++ [.gone]) 3 5 rfl rfl (by simp [zo,frz]) (by simp [zo,PV.isPure]) rfl
      rw [Zt] at e
      refine Zh ?_ e
      simp [zi,go_sem,zc,zd,ze,zf,pos,List.range_succ,hWo,Wo.ss,zp,cSi,zo]
    rintro st rfl
    refine zY ?_
    simp only [go_sem,ZJ,ZK,List.drop_succ_cons,List.drop_zero,hWo,Wo.ss,zp,cSi,cE,zo,zq,Int.reduceLT,Int.reduceLE,Int.reduceToNat,Int.reduceAdd,frz,List.map_cons,List.map_nil,List.cons_append,List.nil_append,hn0]
    simp only [go_sem,hn0,hnN,List.length_map,zq,Int.reduceLT,Int.reduceLE,Int.reduceToNat,Int.reduceAdd,frz]
    repeat refine ⟨rfl,?_⟩
    try simp only [go_sem,zq,Int.reduceLT,Int.reduceLE,Int.reduceToNat,Int.reduceAdd,frz]
    refine zi1 (.heapE [0,1,2,3,4] (r' := .agg (cE (nth w.b q))) (H':=hWo vs vy va' vb' w2 ++ [.gone]) htk (by simp) (by simp) (by simp [go_sem,pos]) ?_ ?_ ?_) ?_
    · skip
      simp [zc,zd,ze,zf,pos,hWo,Wo.ss,zp,cSi]
    · simp [zbE,ren,ze,zf,cE]
    · skip
      simp [Zk,zH,zK,ZA,Zb,zd,ze,zf,pos,List.range_succ,hWo,Wo.ss,zp,cSi,cE,zo]
    simp only [go_sem,hWo,zq,Int.reduceLT,Int.reduceLE,Int.reduceToNat,Int.reduceAdd,frz,List.cons_append,List.nil_append]
    refine za (.heapE [0,1,2,3,4] (r' := .int .i64 0) (H':=hWo vs vy va' vb' w3 ++ [.gone]) hrc (by simp) (by simp) (by simp [go_sem,pos,cE]) ?_ ?_ ?_) ?_
    · skip
      simp [zc,zd,ze,zf,pos,hWo,Wo.ss,zp,cSi]
    · simp [zbE,ren,ze,zf]
    · skip
      simp [Zk,zH,zK,ZA,Zb,zd,ze,zf,pos,List.range_succ,hWo,Wo.ss,zp,cSi,cE,zo]
    simp only [go_sem,hWo,zq,Int.reduceLT,Int.reduceLE,Int.reduceToNat,Int.reduceAdd,frz]
    repeat refine ⟨rfl,?_⟩
    try simp only [go_sem,zq,Int.reduceLT,Int.reduceLE,Int.reduceToNat,Int.reduceAdd,frz]
    refine zG [] (by simp) (by simp) (by simp [hx,hWo]) ?_ ?_
    · simp [go_sem,ZJ,ZK,hx,pos,hWo]
    · simp [zc,zd,ze,zf,hx,pos,go_sem,hWo,List.range_succ,Wo.ss,zp,cSi]
theorem zoD (vs vy va vb : Nat) (w : Wo) (h : WoOk w) (i n c : Int) (t : ByteArray) (hi : i = 0 ∨ i = 1) :
    ∃ va' vb',zg Tryz.prog 138 [.ptr 0 0,.agg (zo 4 i n c t)] (hWo vs vy va vb w) (.int .i64 (zN w 4 i n c t)) (hWo vs vy va' vb' (if zN w 4 i n c t=0 then doW w 4 i n c t else w)):=by
  have la:=h.la
  have lb:=h.lb
  rcases hi with rfl | rfl
  · skip
    by_cases hn0:n < 0
    · refine ⟨va,vb,?_⟩
      rw [zat (by decide) (by decide) (.inl hn0),if_neg (by decide)]
      refine zg.of_parts Tryz.func138 Tryz.ntmps138 Z1 Z2 (by simp) fun x hx=>?_
      simp only [LC.flat,ZJ,ZK,List.cons_append,List.nil_append]
      refine Zq 1 [0,3] 6 (fun st=>st=⟨mkE .top [(3,.rptr (zo 4 0 n c t)),(0,.ptr 0 0),(3,.ptr 5 0)],hWo vs vy va vb w ++ [.gone]⟩) (by simp [hx,hWo]) (by simp) ?_ ?_
      · simp only [go_sem,ZJ,ZK,List.take_succ_cons,List.take_zero,zo]
        rw [zI]
        refine ⟨by simp [hWo],_,?_,rfl⟩
        have e:=z6 (x:=x) (nt:=114) (st:=⟨mkE .top [(0,.ptr 0 0),(3,.ptr 5 0)],hWo vs vy va vb w ++ [.box (zo 4 0 n c t)]⟩) (cells':=zo 4 0 n c t) (H':=hWo vs vy va vb w ++ [.gone]) 3 5 rfl rfl (by simp [zo,frz]) (by simp [zo,PV.isPure]) rfl
        rw [Zt] at e
        refine Zh ?_ e
        simp [zi,go_sem,zc,zd,ze,zf,pos,List.range_succ,hWo,Wo.ss,zp,cSi,zo]
      rintro st rfl
      refine zY ?_
      simp only [go_sem,ZJ,ZK,List.drop_succ_cons,List.drop_zero,hWo,Wo.ss,zp,cSi,cE,zo,zq,Int.reduceLT,Int.reduceLE,Int.reduceToNat,Int.reduceAdd,frz,List.map_cons,List.map_nil,List.cons_append,List.nil_append,hn0]
      repeat refine ⟨rfl,?_⟩
      refine zG [] (by simp) (by simp) (by simp [hx,hWo]) ?_ ?_
      · simp [go_sem,ZJ,ZK,hx,pos,hWo]
      · simp [zc,zd,ze,zf,hx,pos,go_sem,hWo,List.range_succ,Wo.ss,zp,cSi]
    by_cases hn1:(w.a.length:Int)≤n
    · refine ⟨va,vb,?_⟩
      rw [zat (by decide) (by decide) (.inr (by show (w.a.length:Int)≤n; exact hn1)),if_neg (by decide)]
      refine zg.of_parts Tryz.func138 Tryz.ntmps138 Z1 Z2 (by simp) fun x hx=>?_
      simp only [LC.flat,ZJ,ZK,List.cons_append,List.nil_append]
      refine Zq 1 [0,3] 6 (fun st=>st=⟨mkE .top [(3,.rptr (zo 4 0 n c t)),(0,.ptr 0 0),(3,.ptr 5 0)],hWo vs vy va vb w ++ [.gone]⟩) (by simp [hx,hWo]) (by simp) ?_ ?_
      · simp only [go_sem,ZJ,ZK,List.take_succ_cons,List.take_zero,zo]
        rw [zI]
        refine ⟨by simp [hWo],_,?_,rfl⟩
        have e:=z6 (x:=x) (nt:=114) (st:=⟨mkE .top [(0,.ptr 0 0),(3,.ptr 5 0)],hWo vs vy va vb w ++ [.box (zo 4 0 n c t)]⟩) (cells':=zo 4 0 n c t) (H':=hWo vs vy va vb w ++ [.gone]) 3 5 rfl rfl (by simp [zo,frz]) (by simp [zo,PV.isPure]) rfl
        rw [Zt] at e
        refine Zh ?_ e
        simp [zi,go_sem,zc,zd,ze,zf,pos,List.range_succ,hWo,Wo.ss,zp,cSi,zo]
      rintro st rfl
      refine zY ?_
      simp only [go_sem,ZJ,ZK,List.drop_succ_cons,List.drop_zero,hWo,Wo.ss,zp,cSi,cE,zo,zq,Int.reduceLT,Int.reduceLE,Int.reduceToNat,Int.reduceAdd,frz,List.map_cons,List.map_nil,List.cons_append,List.nil_append,hn0]
      simp only [go_sem,hn1,List.length_map]
      repeat refine ⟨rfl,?_⟩
      refine zG [] (by simp) (by simp) (by simp [hx,hWo]) ?_ ?_
      · simp [go_sem,ZJ,ZK,hx,pos,hWo]
      · simp [zc,zd,ze,zf,hx,pos,go_sem,hWo,List.range_succ,Wo.ss,zp,cSi]
    obtain ⟨q,rfl⟩:∃ q:Nat,n=q:=⟨n.toNat,by omega⟩
    have hq:q < w.a.length:=by omega
    have hnn:¬ ((q:Int) < 0∨((w.way 0).length:Int)≤(q:Int)):=by show ¬ ((q:Int) < 0∨(w.a.length:Int)≤(q:Int)); omega
    have hce:=h.ca _ (zcT hq)
    have hnN:¬ w.a.length≤q:=by omega
    have hgq:w.a[q]? = some (nth w.a q):=zk _ _ hq
    have hls:=(Zg hce).2
    obtain ⟨va',vb',hsd⟩:=zdy vs vy va vb w 0 (nth w.a q) (by omega) (by show w.a.length≤30; omega) hls
    have hd:zN w 4 0 q c t=if w.a.length=30 then 2 else 0:=by rw [zN,if_neg (by decide),if_neg (by decide),if_neg hnn,if_neg (by decide),if_neg (by decide)]; rfl
    have hdW:doW w 4 0 q c t=w.setY 0 ((w.way 0) ++ [nth w.a q]):=by rw [doW,if_neg (by decide),if_neg (by decide),if_neg (by decide),if_neg (by decide),Int.toNat_natCast]; rfl
    refine ⟨va',vb',?_⟩
    by_cases h30:w.a.length=30
    · have hs:zay w 0 (nth w.a q)=w:=by rw [zay,if_pos (show (w.way 0).length=30 from h30)]
      have hb:(!decide ((w.way 0).length=30))=false:=by show (!decide (w.a.length=30))=false; simp [h30]
      rw [hs,hb] at hsd
      rw [hd,if_pos h30,if_neg (by decide)]
      refine zg.of_parts Tryz.func138 Tryz.ntmps138 Z1 Z2 (by simp) fun x hx=>?_
      simp only [LC.flat,ZJ,ZK,List.cons_append,List.nil_append]
      refine Zq 1 [0,3] 6 (fun st=>st=⟨mkE .top [(3,.rptr (zo 4 0 (q:Int) c t)),(0,.ptr 0 0),(3,.ptr 5 0)],hWo vs vy va vb w ++ [.gone]⟩) (by simp [hx,hWo]) (by simp) ?_ ?_
      · simp only [go_sem,ZJ,ZK,List.take_succ_cons,List.take_zero,zo]
        rw [zI]
        refine ⟨by simp [hWo],_,?_,rfl⟩
        have e:=z6 (x:=x) (nt:=114) (st:=⟨mkE .top [(0,.ptr 0 0),(3,.ptr 5 0)],hWo vs vy va vb w ++ [.box (zo 4 0 (q:Int) c t)]⟩) (cells':=zo 4 0 (q:Int) c t) (H':=hWo vs vy va vb w ++ [.gone]) 3 5 rfl rfl (by simp [zo,frz]) (by simp [zo,PV.isPure]) rfl
        rw [Zt] at e
        refine Zh ?_ e
        simp [zi,go_sem,zc,zd,ze,zf,pos,List.range_succ,hWo,Wo.ss,zp,cSi,zo]
      rintro st rfl
      refine zY ?_
      simp only [go_sem,ZJ,ZK,List.drop_succ_cons,List.drop_zero,hWo,Wo.ss,zp,cSi,cE,zo,zq,Int.reduceLT,Int.reduceLE,Int.reduceToNat,Int.reduceAdd,frz,List.map_cons,List.map_nil,List.cons_append,List.nil_append,hn0]
      simp only [go_sem,hn0,hnN,List.length_map,zq,Int.reduceLT,Int.reduceLE,Int.reduceToNat,Int.reduceAdd,frz]
      repeat refine ⟨rfl,?_⟩
      try simp only [go_sem,zq,Int.reduceLT,Int.reduceLE,Int.reduceToNat,Int.reduceAdd,frz,hq,hgq,cE]
      refine za (.heapE [0,1,2,3,4] (r' := .bool false) (H':=hWo vs vy va' vb' w ++ [.gone]) hsd (by simp) (by simp) (by simp [go_sem,pos,cE]) ?_ ?_ ?_) ?_
      · skip
        simp [zc,zd,ze,zf,pos,hWo,Wo.ss,zp,cSi]
      · simp [zbE,ren,ze,zf]
      · skip
        simp [Zk,zH,zK,ZA,Zb,zd,ze,zf,pos,List.range_succ,hWo,Wo.ss,zp,cSi,cE,zo]
      simp only [go_sem,hWo,zq,Int.reduceLT,Int.reduceLE,Int.reduceToNat,Int.reduceAdd,frz]
      repeat refine ⟨rfl,?_⟩
      try simp only [go_sem,zq,Int.reduceLT,Int.reduceLE,Int.reduceToNat,Int.reduceAdd,frz]
      refine zG [] (by simp) (by simp) (by simp [hx,hWo]) ?_ ?_
      · simp [go_sem,ZJ,ZK,hx,pos,hWo]
      · simp [zc,zd,ze,zf,hx,pos,go_sem,hWo,List.range_succ,Wo.ss,zp,cSi]
    · have hs:zay w 0 (nth w.a q)=w.setY 0 ((w.way 0) ++ [nth w.a q]):=by rw [zay,if_neg (show ¬ (w.way 0).length=30 from h30)]
      have hb:(!decide ((w.way 0).length=30))=true:=by show (!decide (w.a.length=30))=true; simp [h30]
      rw [hs,hb] at hsd
      rw [hd,if_neg h30,if_pos rfl,hdW]
      generalize w.setY 0 ((w.way 0) ++ [nth w.a q])=w2 at *
      refine zg.of_parts Tryz.func138 Tryz.ntmps138 Z1 Z2 (by simp) fun x hx=>?_
      simp only [LC.flat,ZJ,ZK,List.cons_append,List.nil_append]
      refine Zq 1 [0,3] 6 (fun st=>st=⟨mkE .top [(3,.rptr (zo 4 0 (q:Int) c t)),(0,.ptr 0 0),(3,.ptr 5 0)],hWo vs vy va vb w ++ [.gone]⟩) (by simp [hx,hWo]) (by simp) ?_ ?_
      · simp only [go_sem,ZJ,ZK,List.take_succ_cons,List.take_zero,zo]
        rw [zI]
        refine ⟨by simp [hWo],_,?_,rfl⟩
        have e:=z6 (x:=x) (nt:=114) (st:=⟨mkE .top [(0,.ptr 0 0),(3,.ptr 5 0)],hWo vs vy va vb w ++ [.box (zo 4 0 (q:Int) c t)]⟩) (cells':=zo 4 0 (q:Int) c t) (H':=hWo vs vy va vb w ++ [.gone]) 3 5 rfl rfl (by simp [zo,frz]) (by simp [zo,PV.isPure]) rfl
        rw [Zt] at e
        refine Zh ?_ e
        simp [zi,go_sem,zc,zd,ze,zf,pos,List.range_succ,hWo,Wo.ss,zp,cSi,zo]
      rintro st rfl
      refine zY ?_
      simp only [go_sem,ZJ,ZK,List.drop_succ_cons,List.drop_zero,hWo,Wo.ss,zp,cSi,cE,zo,zq,Int.reduceLT,Int.reduceLE,Int.reduceToNat,Int.reduceAdd,frz,List.map_cons,List.map_nil,List.cons_append,List.nil_append,hn0]
      simp only [go_sem,hn0,hnN,List.length_map,zq,Int.reduceLT,Int.reduceLE,Int.reduceToNat,Int.reduceAdd,frz]
      repeat refine ⟨rfl,?_⟩
      try simp only [go_sem,zq,Int.reduceLT,Int.reduceLE,Int.reduceToNat,Int.reduceAdd,frz,hq,hgq,cE]
      refine za (.heapE [0,1,2,3,4] (r' := .bool true) (H':=hWo vs vy va' vb' w2 ++ [.gone]) hsd (by simp) (by simp) (by simp [go_sem,pos,cE]) ?_ ?_ ?_) ?_
      · skip
        simp [zc,zd,ze,zf,pos,hWo,Wo.ss,zp,cSi]
      · simp [zbE,ren,ze,zf]
      · skip
        simp [Zk,zH,zK,ZA,Zb,zd,ze,zf,pos,List.range_succ,hWo,Wo.ss,zp,cSi,cE,zo]
      simp only [go_sem,hWo,zq,Int.reduceLT,Int.reduceLE,Int.reduceToNat,Int.reduceAdd,frz]
      repeat refine ⟨rfl,?_⟩
      try simp only [go_sem,zq,Int.reduceLT,Int.reduceLE,Int.reduceToNat,Int.reduceAdd,frz]
      refine ZG [] (by simp) (by simp) (by simp [hx,hWo]) ?_ ?_
      · simp [go_sem,ZJ,ZK,hx,pos,hWo]
      · simp [zc,zd,ze,zf,hx,pos,go_sem,hWo,List.range_succ,Wo.ss,zp,cSi]
  · skip
    by_cases hn0:n < 0
    · refine ⟨va,vb,?_⟩
      rw [zat (by decide) (by decide) (.inl hn0),if_neg (by decide)]
      refine zg.of_parts Tryz.func138 Tryz.ntmps138 Z1 Z2 (by simp) fun x hx=>?_
      simp only [LC.flat,ZJ,ZK,List.cons_append,List.nil_append]
      refine Zq 1 [0,3] 6 (fun st=>st=⟨mkE .top [(3,.rptr (zo 4 1 n c t)),(0,.ptr 0 0),(3,.ptr 5 0)],hWo vs vy va vb w ++ [.gone]⟩) (by simp [hx,hWo]) (by simp) ?_ ?_
      · simp only [go_sem,ZJ,ZK,List.take_succ_cons,List.take_zero,zo]
        rw [zI]
        refine ⟨by simp [hWo],_,?_,rfl⟩
        have e:=z6 (x:=x) (nt:=114) (st:=⟨mkE .top [(0,.ptr 0 0),(3,.ptr 5 0)],hWo vs vy va vb w ++ [.box (zo 4 1 n c t)]⟩) (cells':=zo 4 1 n c t) (H':=hWo vs vy va vb w ++ [.gone]) 3 5 rfl rfl (by simp [zo,frz]) (by simp [zo,PV.isPure]) rfl
        rw [Zt] at e
        refine Zh ?_ e
        simp [zi,go_sem,zc,zd,ze,zf,pos,List.range_succ,hWo,Wo.ss,zp,cSi,zo]
      rintro st rfl
      refine zY ?_
      simp only [go_sem,ZJ,ZK,List.drop_succ_cons,List.drop_zero,hWo,Wo.ss,zp,cSi,cE,zo,zq,Int.reduceLT,Int.reduceLE,Int.reduceToNat,Int.reduceAdd,frz,List.map_cons,List.map_nil,List.cons_append,List.nil_append,hn0]
      repeat refine ⟨rfl,?_⟩
      refine zG [] (by simp) (by simp) (by simp [hx,hWo]) ?_ ?_
      · simp [go_sem,ZJ,ZK,hx,pos,hWo]
      · simp [zc,zd,ze,zf,hx,pos,go_sem,hWo,List.range_succ,Wo.ss,zp,cSi]
    by_cases hn1:(w.b.length:Int)≤n
    · refine ⟨va,vb,?_⟩
      rw [zat (by decide) (by decide) (.inr (by show (w.b.length:Int)≤n; exact hn1)),if_neg (by decide)]
      refine zg.of_parts Tryz.func138 Tryz.ntmps138 Z1 Z2 (by simp) fun x hx=>?_
      simp only [LC.flat,ZJ,ZK,List.cons_append,List.nil_append]
      refine Zq 1 [0,3] 6 (fun st=>st=⟨mkE .top [(3,.rptr (zo 4 1 n c t)),(0,.ptr 0 0),(3,.ptr 5 0)],hWo vs vy va vb w ++ [.gone]⟩) (by simp [hx,hWo]) (by simp) ?_ ?_
      · simp only [go_sem,ZJ,ZK,List.take_succ_cons,List.take_zero,zo]
        rw [zI]
        refine ⟨by simp [hWo],_,?_,rfl⟩
        have e:=z6 (x:=x) (nt:=114) (st:=⟨mkE .top [(0,.ptr 0 0),(3,.ptr 5 0)],hWo vs vy va vb w ++ [.box (zo 4 1 n c t)]⟩) (cells':=zo 4 1 n c t) (H':=hWo vs vy va vb w ++ [.gone]) 3 5 rfl rfl (by simp [zo,frz]) (by simp [zo,PV.isPure]) rfl
        rw [Zt] at e
        refine Zh ?_ e
        simp [zi,go_sem,zc,zd,ze,zf,pos,List.range_succ,hWo,Wo.ss,zp,cSi,zo]
      rintro st rfl
      refine zY ?_
      simp only [go_sem,ZJ,ZK,List.drop_succ_cons,List.drop_zero,hWo,Wo.ss,zp,cSi,cE,zo,zq,Int.reduceLT,Int.reduceLE,Int.reduceToNat,Int.reduceAdd,frz,List.map_cons,List.map_nil,List.cons_append,List.nil_append,hn0]
      simp only [go_sem,hn1,List.length_map]
      repeat refine ⟨rfl,?_⟩
      refine zG [] (by simp) (by simp) (by simp [hx,hWo]) ?_ ?_
      · simp [go_sem,ZJ,ZK,hx,pos,hWo]
      · simp [zc,zd,ze,zf,hx,pos,go_sem,hWo,List.range_succ,Wo.ss,zp,cSi]
    obtain ⟨q,rfl⟩:∃ q:Nat,n=q:=⟨n.toNat,by omega⟩
    have hq:q < w.b.length:=by omega
    have hnn:¬ ((q:Int) < 0∨((w.way 1).length:Int)≤(q:Int)):=by show ¬ ((q:Int) < 0∨(w.b.length:Int)≤(q:Int)); omega
    have hce:=h.cb _ (zcT hq)
    have hnN:¬ w.b.length≤q:=by omega
    have hgq:w.b[q]? = some (nth w.b q):=zk _ _ hq
    have hls:=(Zg hce).2
    obtain ⟨va',vb',hsd⟩:=zdy vs vy va vb w 1 (nth w.b q) (by omega) (by show w.b.length≤30; omega) hls
    have hd:zN w 4 1 q c t=if w.b.length=30 then 2 else 0:=by rw [zN,if_neg (by decide),if_neg (by decide),if_neg hnn,if_neg (by decide),if_neg (by decide)]; rfl
    have hdW:doW w 4 1 q c t=w.setY 1 ((w.way 1) ++ [nth w.b q]):=by rw [doW,if_neg (by decide),if_neg (by decide),if_neg (by decide),if_neg (by decide),Int.toNat_natCast]; rfl
    refine ⟨va',vb',?_⟩
    by_cases h30:w.b.length=30
    · have hs:zay w 1 (nth w.b q)=w:=by rw [zay,if_pos (show (w.way 1).length=30 from h30)]
      have hb:(!decide ((w.way 1).length=30))=false:=by show (!decide (w.b.length=30))=false; simp [h30]
      rw [hs,hb] at hsd
      rw [hd,if_pos h30,if_neg (by decide)]
      refine zg.of_parts Tryz.func138 Tryz.ntmps138 Z1 Z2 (by simp) fun x hx=>?_
      simp only [LC.flat,ZJ,ZK,List.cons_append,List.nil_append]
      refine Zq 1 [0,3] 6 (fun st=>st=⟨mkE .top [(3,.rptr (zo 4 1 (q:Int) c t)),(0,.ptr 0 0),(3,.ptr 5 0)],hWo vs vy va vb w ++ [.gone]⟩) (by simp [hx,hWo]) (by simp) ?_ ?_
      · simp only [go_sem,ZJ,ZK,List.take_succ_cons,List.take_zero,zo]
        rw [zI]
        refine ⟨by simp [hWo],_,?_,rfl⟩
        have e:=z6 (x:=x) (nt:=114) (st:=⟨mkE .top [(0,.ptr 0 0),(3,.ptr 5 0)],hWo vs vy va vb w ++ [.box (zo 4 1 (q:Int) c t)]⟩) (cells':=zo 4 1 (q:Int) c t) (H':=hWo vs vy va vb w ++ [.gone]) 3 5 rfl rfl (by simp [zo,frz]) (by simp [zo,PV.isPure]) rfl
        rw [Zt] at e
        refine Zh ?_ e
        simp [zi,go_sem,zc,zd,ze,zf,pos,List.range_succ,hWo,Wo.ss,zp,cSi,zo]
      rintro st rfl
      refine zY ?_
      simp only [go_sem,ZJ,ZK,List.drop_succ_cons,List.drop_zero,hWo,Wo.ss,zp,cSi,cE,zo,zq,Int.reduceLT,Int.reduceLE,Int.reduceToNat,Int.reduceAdd,frz,List.map_cons,List.map_nil,List.cons_append,List.nil_append,hn0]
      simp only [go_sem,hn0,hnN,List.length_map,zq,Int.reduceLT,Int.reduceLE,Int.reduceToNat,Int.reduceAdd,frz]
      repeat refine ⟨rfl,?_⟩
      try simp only [go_sem,zq,Int.reduceLT,Int.reduceLE,Int.reduceToNat,Int.reduceAdd,frz,hq,hgq,cE]
      refine za (.heapE [0,1,2,3,4] (r' := .bool false) (H':=hWo vs vy va' vb' w ++ [.gone]) hsd (by simp) (by simp) (by simp [go_sem,pos,cE]) ?_ ?_ ?_) ?_
      · skip
        simp [zc,zd,ze,zf,pos,hWo,Wo.ss,zp,cSi]
      · simp [zbE,ren,ze,zf]
      · skip
        simp [Zk,zH,zK,ZA,Zb,zd,ze,zf,pos,List.range_succ,hWo,Wo.ss,zp,cSi,cE,zo]
      simp only [go_sem,hWo,zq,Int.reduceLT,Int.reduceLE,Int.reduceToNat,Int.reduceAdd,frz]
      repeat refine ⟨rfl,?_⟩
      try simp only [go_sem,zq,Int.reduceLT,Int.reduceLE,Int.reduceToNat,Int.reduceAdd,frz]
      refine zG [] (by simp) (by simp) (by simp [hx,hWo]) ?_ ?_
      · simp [go_sem,ZJ,ZK,hx,pos,hWo]
      · simp [zc,zd,ze,zf,hx,pos,go_sem,hWo,List.range_succ,Wo.ss,zp,cSi]
    · have hs:zay w 1 (nth w.b q)=w.setY 1 ((w.way 1) ++ [nth w.b q]):=by rw [zay,if_neg (show ¬ (w.way 1).length=30 from h30)]
      have hb:(!decide ((w.way 1).length=30))=true:=by show (!decide (w.b.length=30))=true; simp [h30]
      rw [hs,hb] at hsd
      rw [hd,if_neg h30,if_pos rfl,hdW]
      generalize w.setY 1 ((w.way 1) ++ [nth w.b q])=w2 at *
      refine zg.of_parts Tryz.func138 Tryz.ntmps138 Z1 Z2 (by simp) fun x hx=>?_
      simp only [LC.flat,ZJ,ZK,List.cons_append,List.nil_append]
      refine Zq 1 [0,3] 6 (fun st=>st=⟨mkE .top [(3,.rptr (zo 4 1 (q:Int) c t)),(0,.ptr 0 0),(3,.ptr 5 0)],hWo vs vy va vb w ++ [.gone]⟩) (by simp [hx,hWo]) (by simp) ?_ ?_
      · simp only [go_sem,ZJ,ZK,List.take_succ_cons,List.take_zero,zo]
        rw [zI]
        refine ⟨by simp [hWo],_,?_,rfl⟩
        have e:=z6 (x:=x) (nt:=114) (st:=⟨mkE .top [(0,.ptr 0 0),(3,.ptr 5 0)],hWo vs vy va vb w ++ [.box (zo 4 1 (q:Int) c t)]⟩) (cells':=zo 4 1 (q:Int) c t) (H':=hWo vs vy va vb w ++ [.gone]) 3 5 rfl rfl (by simp [zo,frz]) (by simp [zo,PV.isPure]) rfl
        rw [Zt] at e
        refine Zh ?_ e
        simp [zi,go_sem,zc,zd,ze,zf,pos,List.range_succ,hWo,Wo.ss,zp,cSi,zo]
      rintro st rfl
      refine zY ?_
      simp only [go_sem,ZJ,ZK,List.drop_succ_cons,List.drop_zero,hWo,Wo.ss,zp,cSi,cE,zo,zq,Int.reduceLT,Int.reduceLE,Int.reduceToNat,Int.reduceAdd,frz,List.map_cons,List.map_nil,List.cons_append,List.nil_append,hn0]
      simp only [go_sem,hn0,hnN,List.length_map,zq,Int.reduceLT,Int.reduceLE,Int.reduceToNat,Int.reduceAdd,frz]
      repeat refine ⟨rfl,?_⟩
      try simp only [go_sem,zq,Int.reduceLT,Int.reduceLE,Int.reduceToNat,Int.reduceAdd,frz,hq,hgq,cE]
      refine za (.heapE [0,1,2,3,4] (r' := .bool true) (H':=hWo vs vy va' vb' w2 ++ [.gone]) hsd (by simp) (by simp) (by simp [go_sem,pos,cE]) ?_ ?_ ?_) ?_
      · skip
        simp [zc,zd,ze,zf,pos,hWo,Wo.ss,zp,cSi]
      · simp [zbE,ren,ze,zf]
      · skip
        simp [Zk,zH,zK,ZA,Zb,zd,ze,zf,pos,List.range_succ,hWo,Wo.ss,zp,cSi,cE,zo]
      simp only [go_sem,hWo,zq,Int.reduceLT,Int.reduceLE,Int.reduceToNat,Int.reduceAdd,frz]
      repeat refine ⟨rfl,?_⟩
      try simp only [go_sem,zq,Int.reduceLT,Int.reduceLE,Int.reduceToNat,Int.reduceAdd,frz]
      refine ZG [] (by simp) (by simp) (by simp [hx,hWo]) ?_ ?_
      · simp [go_sem,ZJ,ZK,hx,pos,hWo]
      · simp [zc,zd,ze,zf,hx,pos,go_sem,hWo,List.range_succ,Wo.ss,zp,cSi]
theorem zlu (vs vy va vb : Nat) (w : Wo) (h : WoOk w) (k i n c : Int) (t : ByteArray) (hi : i = 0 ∨ i = 1) (hk : ¬ (k < 1 ∨ 5 < k)) :
    ∃ va' vb',zg Tryz.prog 138 [.ptr 0 0,.agg (zo k i n c t)] (hWo vs vy va vb w) (.int .i64 (zN w k i n c t)) (hWo vs vy va' vb' (if zN w k i n c t=0 then doW w k i n c t else w)):=by
  have:k=1∨k=2∨k=3∨k=4∨k=5:=by omega
  rcases this with rfl | rfl | rfl | rfl | rfl
  · exact zoz vs vy va vb w h i n c t hi
  · exact zoC vs vy va vb w h i n c t hi
  · exact zoB vs vy va vb w h i n c t hi
  · exact zoD vs vy va vb w h i n c t hi
  · have h0:zN w 5 i n c t=0:=by rw [zN,if_neg (by decide),if_pos rfl]; exact (zd6 h hi).1
    refine ⟨va,vb,?_⟩
    rw [h0,if_pos rfl]
    exact zoA vs vy va vb w h i n c t hi
theorem zgx (k i n c:Int) (t:ByteArray):zg Tryz.prog 137 [.agg (zo k i n c t)] [] (.bool (Z3 k n c t)) []:=by
 have ht:decide (t=⟨#[]⟩)=decide (t.size=0):=by
  rw [Bool.eq_iff_iff,decide_eq_true_eq,decide_eq_true_eq]
  constructor
  ·
   intro h; rw [h]; rfl
  ·
   intro h; exact ByteArray.ext (Array.eq_empty_of_size_eq_zero h)
 refine zg.of_walk Tryz.func137 Tryz.ntmps137 zuS zuT (by simp) fun x hx=>?_
 by_cases k1:k=1
 ·
  subst k1
  by_cases n0:n=0
  ·
   simp only [go_sem,zkz,zkA,zo,zq,Int.reduceLT,Int.reduceLE,Int.reduceToNat,Int.reduceAdd,frz,n0]
   repeat refine ⟨rfl,?_⟩
   refine zb hx ?_
   simp [go_sem,zkz,zkA,Z3,n0]
  ·
   simp only [go_sem,zkz,zkA,zo,zq,Int.reduceLT,Int.reduceLE,Int.reduceToNat,Int.reduceAdd,frz,n0]
   repeat refine ⟨rfl,?_⟩
   refine zb hx ?_
   simp [go_sem,zkz,zkA,Z3,n0]
 ·
  by_cases c0:c=0
  ·
   by_cases t0:t.size=0
   ·
    by_cases k5:k=5
    ·
     subst k5
     by_cases n0:n=0
     ·
      simp only [go_sem,zkz,zkA,zo,zq,Int.reduceLT,Int.reduceLE,Int.reduceToNat,Int.reduceAdd,frz,n0,c0,ht,t0]
      repeat refine ⟨rfl,?_⟩
      refine zb hx ?_
      simp [go_sem,zkz,zkA,Z3,n0,t0]
     ·
      simp only [go_sem,zkz,zkA,zo,zq,Int.reduceLT,Int.reduceLE,Int.reduceToNat,Int.reduceAdd,frz,n0,c0,ht,t0]
      repeat refine ⟨rfl,?_⟩
      refine zb hx ?_
      simp [go_sem,zkz,zkA,Z3,n0,t0]
    ·
     simp only [go_sem,zkz,zkA,zo,zq,Int.reduceLT,Int.reduceLE,Int.reduceToNat,Int.reduceAdd,frz,k1,k5,c0,ht,t0]
     repeat refine ⟨rfl,?_⟩
     refine zb hx ?_
     simp [go_sem,zkz,zkA,Z3,k1,k5,t0]
   ·
    simp only [go_sem,zkz,zkA,zo,zq,Int.reduceLT,Int.reduceLE,Int.reduceToNat,Int.reduceAdd,frz,k1,c0,ht,t0]
    repeat refine ⟨rfl,?_⟩
    refine zb hx ?_
    simp [go_sem,zkz,zkA,Z3,k1,t0]
  ·
   simp only [go_sem,zkz,zkA,zo,zq,Int.reduceLT,Int.reduceLE,Int.reduceToNat,Int.reduceAdd,frz,k1,c0]
   repeat refine ⟨rfl,?_⟩
   refine zb hx ?_
   simp [go_sem,zkz,zkA,Z3,k1,c0]
def cWo (w:Wo):List PV:=cWd w.ss w.ys
def za2:List PV := [.list [],.list []]
def doC (w:Wo) (k i n c:Int) (t:ByteArray):List PV:=if ZF w k i n c t=0 then cWo (doW w k i n c t) else za2
theorem zjL (w:Wo) (h:WoOk w) (k i n c:Int) (t:ByteArray):zg Tryz.prog 66 [.agg (cWo w),.agg (zo k i n c t)] [] (.tup [.agg (doC w k i n c t),.int .i64 (ZF w k i n c t)]) []:=by
  refine zg.of_walk Tryz.func66 Tryz.ntmps66 zt4 zt5 (by simp) fun x hx=>?_
  have hown:=zgw w h
  simp only [go_sem,L66,R66,cWo,cWd,zo,zq,Int.reduceLT,Int.reduceLE,Int.reduceToNat,Int.reduceAdd,frz]
  refine za (.heapE [] (r' := .ptr 3 0) (H' := [.box (cWo w),.box (zo k i n c t),.box [.nilsl,.nilsl],.box [.arr 4 2,.arr 5 2],.arr 2 true false 36 3 (w.ss.map zp),.arr 2 true true 34 1 [[.arr 6 w.a.length],[.arr 7 w.b.length]],.arr w.a.length true false 32 5 (w.a.map cE),.arr w.b.length true false 32 5 (w.b.map cE)]) hown (by simp) (by simp) (by simp [go_sem,cWo,cWd]) rfl rfl rfl) ?_
  by_cases hk:k < 1∨5 < k
  · have e:ZF w k i n c t=7:=by rw [ZF,if_pos hk]
    rcases hk with hk | hk
    · simp only [go_sem,hk,zq,Int.reduceLT,Int.reduceLE,Int.reduceToNat,Int.reduceAdd,frz,zo]
      refine zb hx ?_
      simp [go_sem,L66,R66,doC,e,za2]
    · have hk1:¬ k < 1:=by omega
      simp only [go_sem,hk,hk1,zq,Int.reduceLT,Int.reduceLE,Int.reduceToNat,Int.reduceAdd,frz,zo]
      refine zb hx ?_
      simp [go_sem,L66,R66,doC,e,za2]
  · have hk1:¬ k < 1:=by omega
    have hk2:¬ 5 < k:=by omega
    simp only [go_sem,hk1,hk2,zq,Int.reduceLT,Int.reduceLE,Int.reduceToNat,Int.reduceAdd,frz,zo]
    refine za (.pureE (zgx k i n c t) (by simp [go_sem,zo])) ?_
    cases hx2:Z3 k n c t
    · by_cases hi:i=0∨i=1
      · have e:ZF w k i n c t=zN w k i n c t:=by rw [ZF,if_neg hk,if_neg (by simp [hx2]),if_neg (by simp [hi])]
        obtain ⟨va',vb',hdo⟩:=zlu 2 2 w.a.length w.b.length w h k i n c t hi hk
        have hi0:(¬ i=0∧¬ i=1)=False:=by simp; omega
        have hcall : CallTo Tryz.prog 138 [.ptr 3 0, .agg (zo k i n c t)] ([.box (cWo w), .box (zo k i n c t), .box [.nilsl, .nilsl], .box [.arr 4 2, .arr 5 2], .arr 2 true false 36 3 (w.ss.map zp), .arr 2 true true 34 1 [[.arr 6 w.a.length], [.arr 7 w.b.length]], .arr w.a.length true false 32 5 (w.a.map cE), .arr w.b.length true false 32 5 (w.b.map cE)]) true (.int .i64 (zN w k i n c t))
            ([.box (cWo w),.box (zo k i n c t),.box [.nilsl,.nilsl],.box [.arr 4 2,.arr 5 2],.arr 2 true false 36 3 ((if zN w k i n c t=0 then doW w k i n c t else w).ss.map zp),.arr 2 true true 34 1 [[.arr 6 va'],[.arr 7 vb']],.arr va' true false 32 5 ((if zN w k i n c t=0 then doW w k i n c t else w).a.map cE),.arr vb' true false 32 5 ((if zN w k i n c t=0 then doW w k i n c t else w).b.map cE)]):=by
          refine .heapE [3,4,5,6,7] hdo (by simp) (by simp) (by simp [go_sem,pos,zo]) ?_ ?_ ?_
          · simp [zc,zd,ze,zf,pos,hWo]
          · simp [zbE,ren,ze,zf]
          · simp [Zk,zH,zK,ZA,Zb,zd,ze,zf,pos,List.range_succ,hWo,zo]
        by_cases h0:zN w k i n c t=0
        · rw [if_pos h0,h0] at hcall
          have eW:doC w k i n c t=cWo (doW w k i n c t):=by rw [doC,e,if_pos h0]
          rw [eW,e,h0]
          generalize doW w k i n c t=w2 at *
          rcases hi with rfl | rfl
          · skip
            simp only [go_sem,zq,Int.reduceLT,Int.reduceLE,Int.reduceToNat,Int.reduceAdd,frz,zo]
            refine za hcall ?_
            simp only [go_sem,zq,Int.reduceLT,Int.reduceLE,Int.reduceToNat,Int.reduceAdd,frz]
            refine zt (zx 6 rfl) ?_
            refine zt (zx 7 rfl) ?_
            refine zt (Z6 5 rfl rfl (by simp [frz,PV.isPure])) ?_
            refine zt (zx 4 rfl) ?_
            refine zb hx ?_
            simp [go_sem,L66,R66,cWo,cWd,cYs,Wo.ys,zu,pos,frz]
          · skip
            simp only [go_sem,zq,Int.reduceLT,Int.reduceLE,Int.reduceToNat,Int.reduceAdd,frz,zo]
            refine za hcall ?_
            simp only [go_sem,zq,Int.reduceLT,Int.reduceLE,Int.reduceToNat,Int.reduceAdd,frz]
            refine zt (zx 6 rfl) ?_
            refine zt (zx 7 rfl) ?_
            refine zt (Z6 5 rfl rfl (by simp [frz,PV.isPure])) ?_
            refine zt (zx 4 rfl) ?_
            refine zb hx ?_
            simp [go_sem,L66,R66,cWo,cWd,cYs,Wo.ys,zu,pos,frz]
        · rw [if_neg h0] at hcall
          have eW:doC w k i n c t=za2:=by rw [doC,e,if_neg h0]
          rw [eW,e]
          rcases hi with rfl | rfl
          · skip
            simp only [go_sem,zq,Int.reduceLT,Int.reduceLE,Int.reduceToNat,Int.reduceAdd,frz,zo]
            refine za hcall ?_
            simp only [go_sem,zq,Int.reduceLT,Int.reduceLE,Int.reduceToNat,Int.reduceAdd,frz,h0]
            refine zb hx ?_
            simp [go_sem,L66,R66,za2]
          · skip
            simp only [go_sem,zq,Int.reduceLT,Int.reduceLE,Int.reduceToNat,Int.reduceAdd,frz,zo]
            refine za hcall ?_
            simp only [go_sem,zq,Int.reduceLT,Int.reduceLE,Int.reduceToNat,Int.reduceAdd,frz,h0]
            refine zb hx ?_
            simp [go_sem,L66,R66,za2]
      · have e:ZF w k i n c t=3:=by rw [ZF,if_neg hk,if_neg (by simp [hx2]),if_pos hi]
        have hi0:¬ i=0:=by omega
        have hi1:¬ i=1:=by omega
        simp only [go_sem,hi0,hi1,zq,Int.reduceLT,Int.reduceLE,Int.reduceToNat,Int.reduceAdd,frz]
        refine zb hx ?_
        simp [go_sem,L66,R66,doC,e,za2]
    · have e:ZF w k i n c t=1:=by rw [ZF,if_neg hk,if_pos hx2]
      simp only [go_sem,zq,Int.reduceLT,Int.reduceLE,Int.reduceToNat,Int.reduceAdd,frz]
      refine zb hx ?_
      simp [go_sem,L66,R66,doC,e,za2]
theorem zdl {w:Wo} (h:WoOk w):zg1 w.ss∧zkb w.ys:=by
 have a:=(h.log (i:=0) (.inl rfl)).len
 have b:=(h.log (i:=1) (.inr rfl)).len
 have a:w.p.length≤40:=a
 have b:w.q.length≤40:=b
 obtain ⟨-,-,-,-,-,-,-,c⟩:=zcf h.s0
 obtain ⟨-,-,-,-,-,-,-,d⟩:=zcf h.s1
 have la:=h.la
 have lb:=h.lb
 refine ⟨fun s hs=>?_,fun l hl=>?_⟩
 ·
  simp only [Wo.ss,List.mem_cons,List.not_mem_nil,or_false] at hs
  rcases hs with rfl | rfl
  ·
   simp only; omega
  ·
   simp only; omega
 ·
  simp only [Wo.ys,List.mem_cons,List.not_mem_nil,or_false] at hl
  rcases hl with rfl | rfl
  ·
   omega
  ·
   omega
theorem zoE (w:Wo) (k i n c:Int) (t:ByteArray):∃ ds dy,doC w k i n c t=cWd ds dy:=by
 unfold doC
 split
 ·
  exact ⟨_,_,rfl⟩
 ·
  exact ⟨[],[],rfl⟩
theorem ze5 (w : Wo) (h : WoOk w) (k i n c : Int) (t : ByteArray) :
    zg Tryz.prog 11 [.agg (cWo w),.agg (zo k i n c t)] [] (.tup [.agg (doC w k i n c t),.int .i64 (ZF w k i n c t)]) []:=by
  obtain ⟨o1,o2⟩:=zdl h
  refine zg.of_walk Tryz.func11 Tryz.ntmps11 zsu zsv (by simp) fun x hx=>?_
  simp only [go_sem,L11,R11,cWo,cWd,zo]
  refine za (.pureE (Z4 w.ss w.ys (by simp [Wo.ss]) (by simp [Wo.ys]) o1 o2) (by simp [go_sem,cWd])) ?_
  rw [Z8.2 h]
  simp only [go_sem,zq,Int.reduceLT,Int.reduceLE,Int.reduceToNat,Int.reduceAdd,frz,cWo,cWd,zo]
  have hraw:=zjL w h k i n c t
  obtain ⟨ds,dy,hq⟩:=zoE w k i n c t
  rw [hq] at hraw ⊢
  refine za (.pureE hraw (by simp [go_sem,cWo,cWd,zo])) ?_
  simp only [go_sem,cWd]
  refine zb hx ?_
  simp [go_sem,L11,R11,cWd]
def hS2 (w0 w:Wo):List AObj := [.box (cWo w0),.box [.nilsl,.nilsl],.box [.arr 3 2,.arr 4 2],.arr 2 true false 36 3 (w.ss.map zp),.arr 2 true true 34 1 [[.arr 5 w0.a.length],[.arr 6 w0.b.length]],.arr w0.a.length true false 32 5 (w.a.map cE),.arr w0.b.length true false 32 5 (w.b.map cE)]
theorem zjM (w:Wo) (h:WoOk w):zg Tryz.prog 13 [.agg (cWo w)] [] (.tup [.agg (cWo (stW w)),.int .i64 0]) []:=by
  obtain ⟨o1,o2⟩:=zdl h
  have hown:=zgw w h
  have k1:IntKind.i64.wrap 1=1:=by decide
  have k2:IntKind.i64.wrap 2=2:=by decide
  obtain ⟨-,a2,-,-,-⟩:=zd6 h (.inl rfl)
  have hal0:=zbY 2 2 w.a.length w.b.length w 0 (.inl rfl) h.s0 (h.log (.inr rfl))
  have hal1:zg Tryz.prog 68 [.ptr 0 0,.int .i64 1] (hWo 2 2 w.a.length w.b.length (w.setS 0 (zcU w 0).2)) (.int .i64 0) (hWo 2 2 w.a.length w.b.length (stW w)):=zbY 2 2 w.a.length w.b.length (w.setS 0 (zcU w 0).2) 1 (.inr rfl) (a2.si (.inr rfl)) (a2.log (.inl rfl))
  refine zg.of_walk Tryz.func13 Tryz.ntmps13 zsw zsx (by simp) fun x hx=>?_
  simp only [go_sem,L13,R13,cWo,cWd]
  refine za (.pureE (Z4 w.ss w.ys (by simp [Wo.ss]) (by simp [Wo.ys]) o1 o2) (by simp [go_sem,cWd])) ?_
  rw [Z8.2 h]
  simp only [go_sem,zq,Int.reduceLT,Int.reduceLE,Int.reduceToNat,Int.reduceAdd,frz,cWo,cWd]
  refine za (.heapE [] (r' := .ptr 2 0) (H':=hS2 w w) hown (by simp) (by simp) (by simp [go_sem,cWd]) rfl rfl rfl) ?_
  simp only [go_sem,zq,Int.reduceLT,Int.reduceLE,Int.reduceToNat,Int.reduceAdd,frz]
  refine za7 [2, 5, 16] (fun m st => (m = 2 ∧ st = ⟨mkE .top [(2, .ptr 1 0), (5, .ptr 2 0), (16, .int .i64 0)], hS2 w w⟩) ∨
      (m=1∧st=⟨mkE .top [(2,.ptr 1 0),(5,.ptr 2 0),(16,.int .i64 1)],hS2 w (w.setS 0 (zcU w 0).2)⟩) ∨
      (m=0∧st=⟨mkE .top [(2,.ptr 1 0),(5,.ptr 2 0),(16,.int .i64 2)],hS2 w (stW w)⟩)) 2 ?_ ?_
  · refine .inl ⟨rfl,?_⟩
    simp [ZW,go_sem]
  · rintro m st (⟨rfl,rfl⟩ | ⟨rfl,rfl⟩ | ⟨rfl,rfl⟩)
    · skip
      have hcall:CallTo Tryz.prog 68 [.ptr 2 0,.int .i64 0] (hS2 w w) true (.int .i64 0) (hS2 w (w.setS 0 (zcU w 0).2)):=by
        refine .heapE [2,3,4,5,6] (hal0) (by simp) (by simp [hS2]) (by simp [go_sem,pos]) ?_ ?_ ?_
        · simp [zc,zd,ze,zf,pos,hWo,hS2]
        · simp [zbE,ren,ze,zf]
        · simp [Zk,zH,zK,ZA,Zb,zd,ze,zf,pos,List.range_succ,hWo,hS2]
      simp only [go_sem,hS2,zq,Int.reduceLT,Int.reduceLE,Int.reduceToNat,Int.reduceAdd,frz]
      refine za hcall ?_
      simp only [go_sem,hS2,zq,Int.reduceLT,Int.reduceLE,Int.reduceToNat,Int.reduceAdd,frz,k1,k2]
      refine ⟨1,by omega,.inr (.inl ⟨rfl,?_⟩)⟩
      simp [ZW,go_sem,hS2]
    · skip
      have hcall:CallTo Tryz.prog 68 [.ptr 2 0,.int .i64 1] (hS2 w (w.setS 0 (zcU w 0).2)) true (.int .i64 0) (hS2 w (stW w)):=by
        refine .heapE [2,3,4,5,6] (hal1) (by simp) (by simp [hS2]) (by simp [go_sem,pos]) ?_ ?_ ?_
        · simp [zc,zd,ze,zf,pos,hWo,hS2]
        · simp [zbE,ren,ze,zf]
        · simp [Zk,zH,zK,ZA,Zb,zd,ze,zf,pos,List.range_succ,hWo,hS2]
      simp only [go_sem,hS2,zq,Int.reduceLT,Int.reduceLE,Int.reduceToNat,Int.reduceAdd,frz]
      refine za hcall ?_
      simp only [go_sem,hS2,zq,Int.reduceLT,Int.reduceLE,Int.reduceToNat,Int.reduceAdd,frz,k1,k2]
      refine ⟨0,by omega,.inr (.inr ⟨rfl,?_⟩)⟩
      simp [ZW,go_sem,hS2]
    · generalize stW w=w2 at *
      simp only [go_sem,hS2,zq,Int.reduceLT,Int.reduceLE,Int.reduceToNat,Int.reduceAdd,frz]
      refine zt (zx 5 rfl) ?_
      refine zt (zx 6 rfl) ?_
      refine zt (Z6 4 rfl rfl (by simp [frz,PV.isPure])) ?_
      refine zt (zx 3 rfl) ?_
      refine zb hx ?_
      simp [go_sem,L13,R13,cWo,cWd,cYs,Wo.ys,zu,pos,frz]
def zlv:Wo:=⟨[],[],[],[],[],[]⟩
theorem zgy:zg Tryz.prog 50 [] [] (.agg (cWo zlv)) []:=by
 have h0:zg Tryz.prog 50 [] [] (.agg [.list [[.int .i64 0,.nilsl,.nilsl],[.int .i64 1,.nilsl,.nilsl]],.list [[.nilsl],[.nilsl]]]) []:=by
  refine zg.of_walk Tryz.func50 Tryz.ntmps50 zya zyb (by simp) fun x hx=>?_
  simp only [go_sem,L50,R50,zq,Int.reduceLT,Int.reduceLE,Int.reduceToNat,Int.reduceAdd,frz,Int.reduceMul,Int.le_refl]
  change zld _ _ _ _ _ .ret _
  refine zt (zx 1 rfl) ?_
  refine zb hx ?_
  simp [go_sem,L50,R50,zu,pos]
 exact zg.nl 4 h0 rfl
def zaf (ss:List Si) (ys:List (List Entry)):List PV := [.oll (ss.map zp),.oll (cYs ys)]
theorem zag (ss:List Si) (ys:List (List Entry)) (hs:ss.length≤1000000000000000) (hy:ys.length≤1000000000000000) (ho:zg1 ss) (hoy:zkb ys):zg Tryz.prog 52 [.agg (zaf ss ys)] [] (.int .i64 (Zw ss ys)) []:=(Z4 ss ys hs hy ho hoy).freshS rfl rfl
def zcG (w:Wo) (vy:Nat) (_:Nat) (rows:List (List PV)) (rest:List AObj):List AObj := [.box (zaf w.ss w.ys),.box [.arr 2 2,.arr 3 vy],.arr 2 true false 36 3 (w.ss.map zp),.arr vy true true 34 1 rows] ++ rest
theorem zfm (w:Wo) (h:WoOk w):zg Tryz.prog 67 [.agg (zaf w.ss w.ys)] [] (.ptr 0 0) (hWo 2 2 w.a.length w.b.length w):=by
 obtain ⟨-,p2,p3,p4,p5,-,-,-⟩:=zcf h.s0
 obtain ⟨-,q2,q3,q4,q5,-,-,-⟩:=zcf h.s1
 have fa:zbT w.a:=fun e he=>Zg (h.ca e he)
 have fb:zbT w.b:=fun e he=>Zg (h.cb e he)
 have la:=h.la
 have lb:=h.lb
 have k1:IntKind.i64.wrap 1=1:=by decide
 have k2:IntKind.i64.wrap 2=2:=by decide
 refine zg.of_walk Tryz.func67 Tryz.ntmps67 zt6 zt7 (by simp) fun x hx=>?_
 simp only [go_sem,L67,R67,zaf,cWd,Wo.ss,Wo.ys,cYs,zp,cSi,zq,Int.reduceLT,Int.reduceLE,Int.reduceToNat,Int.reduceAdd,frz,List.map_cons,List.map_nil]
 refine zaa (Z9 1 0 0 36 3 true false rfl rfl (by omega)) ?_
 refine zaa (Z9 1 1 0 34 1 true true rfl rfl (by omega)) ?_
 refine zr [1,3,14,15,16] 4 (fun m st=>∃ k:Nat,k + m=2 ∧
  st=⟨mkE .top [(1,.ptr 0 0),(3,.ptr 1 0),(14,.oll (w.ss.map zp)),(15,.int .i64 2),(16,.int .i64 k)],[.box (zaf w.ss w.ys),.box [.arr 2 k,.arr 3 0],.arr k true false 36 3 ((w.ss.take k).map zp),.arr 0 true true 34 1 []]⟩) 2 (by simp [hx]) (by simp) ?_ ?_
 ·
  refine ⟨0,by omega,?_⟩
  simp [zi,go_sem,zc,zd,ze,zf,pos,List.range_succ,Wo.ss,Wo.ys,zaf,cWd,cYs,zp,cSi]
 ·
  rintro m st ⟨k,hk,rfl⟩
  by_cases hk2:k < 2
  ·
   obtain rfl | rfl:k=0∨k=1:=by omega
   ·
    skip
    simp only [go_sem,zaf,cWd,Wo.ss,Wo.ys,cYs,zp,cSi,zq,Int.reduceLT,Int.reduceLE,Int.reduceToNat,Int.reduceAdd,frz,List.map_cons,List.map_nil,List.take_succ_cons,List.take_zero]
    refine za (.pureE (zey 0 w.p w.u (by omega) (by omega) p4 p5) (by simp [go_sem,zae])) ?_
    simp only [go_sem,cSi,zq,Int.reduceLT,Int.reduceLE,Int.reduceToNat,Int.reduceAdd,frz]
    rw [zB rfl rfl (by simp) (by simp)]
    simp only [go_sem,zq,Int.reduceLT,Int.reduceLE,Int.reduceToNat,Int.reduceAdd,frz]
    repeat refine ⟨rfl,?_⟩
    try simp only [go_sem,zq,Int.reduceLT,Int.reduceLE,Int.reduceToNat,Int.reduceAdd,frz]
    refine ⟨by simp,m - 1,by omega,0 + 1,by omega,?_⟩
    simp [zi,go_sem,zc,zd,ze,zf,pos,List.range_succ,Wo.ss,Wo.ys,zaf,cWd,cYs,zp,cSi,k1,k2]
   ·
    skip
    simp only [go_sem,zaf,cWd,Wo.ss,Wo.ys,cYs,zp,cSi,zq,Int.reduceLT,Int.reduceLE,Int.reduceToNat,Int.reduceAdd,frz,List.map_cons,List.map_nil,List.take_succ_cons,List.take_zero]
    refine za (.pureE (zey 1 w.q w.v (by omega) (by omega) q4 q5) (by simp [go_sem,zae])) ?_
    simp only [go_sem,cSi,zq,Int.reduceLT,Int.reduceLE,Int.reduceToNat,Int.reduceAdd,frz]
    rw [zB rfl rfl (by simp) (by simp)]
    simp only [go_sem,zq,Int.reduceLT,Int.reduceLE,Int.reduceToNat,Int.reduceAdd,frz]
    repeat refine ⟨rfl,?_⟩
    try simp only [go_sem,zq,Int.reduceLT,Int.reduceLE,Int.reduceToNat,Int.reduceAdd,frz]
    refine ⟨by simp,m - 1,by omega,1 + 1,by omega,?_⟩
    simp [zi,go_sem,zc,zd,ze,zf,pos,List.range_succ,Wo.ss,Wo.ys,zaf,cWd,cYs,zp,cSi,k1,k2]
  ·
   obtain rfl:k=2:=by omega
   simp only [go_sem,zaf,cWd,Wo.ss,Wo.ys,cYs,zp,cSi,zq,Int.reduceLT,Int.reduceLE,Int.reduceToNat,Int.reduceAdd,frz,List.map_cons,List.map_nil,List.take_succ_cons,List.take_zero]
   refine za7 [1,3,35,36,37] (fun m st=>(m=2∧st=⟨mkE .top [(1,.ptr 0 0),(3,.ptr 1 0),(35,.oll [[.list (w.a.map cE)],[.list (w.b.map cE)]]),(36,.int .i64 2),(37,.int .i64 0)],zcG w 0 0 [] []⟩) ∨
    (m=1∧st=⟨mkE .top [(1,.ptr 0 0),(3,.ptr 1 0),(35,.oll [[.list (w.a.map cE)],[.list (w.b.map cE)]]),(36,.int .i64 2),(37,.int .i64 1)],zcG w 1 0 [[.arr 4 w.a.length]] [.arr w.a.length true false 32 5 (w.a.map cE)]⟩) ∨
    (m=0∧st=⟨mkE .top [(1,.ptr 0 0),(3,.ptr 1 0),(35,.oll [[.list (w.a.map cE)],[.list (w.b.map cE)]]),(36,.int .i64 2),(37,.int .i64 2)],zcG w 2 0 [[.arr 4 w.a.length],[.arr 5 w.b.length]] [.arr w.a.length true false 32 5 (w.a.map cE),.arr w.b.length true false 32 5 (w.b.map cE)]⟩)) 2 ?_ ?_
   ·
    refine .inl ⟨rfl,?_⟩
    simp [ZW,go_sem,zcG,zaf,cWd,Wo.ss,Wo.ys,cYs,zp,cSi]
   ·
    rintro m st (⟨rfl,rfl⟩ | ⟨rfl,rfl⟩ | ⟨rfl,rfl⟩)
    ·
     skip
     simp only [go_sem,zcG,zq,Int.reduceLT,Int.reduceLE,Int.reduceToNat,Int.reduceAdd,frz,List.nil_append,List.cons_append]
     refine zaa (ZQ 8 0 32 5 true false rfl (by omega)) ?_
     rw [Zt]
     refine zr [1,3,8,35,36,37,41,42,43] (4 + 1) (fun m st=>∃ k:Nat,k + m=w.a.length ∧
      st=⟨mkE .top [(1,.ptr 0 0),(3,.ptr 1 0),(8,.arr 4 k),(35,.oll [[.list (w.a.map cE)],[.list (w.b.map cE)]]),(36,.int .i64 2),(37,.int .i64 0),(41,.oll (w.a.map cE)),(42,.int .i64 w.a.length),(43,.int .i64 k)],zcG w 0 0 [] ([] ++ [.arr k true false 32 5 ((w.a.take k).map cE)])⟩) w.a.length (by simp [hx]) (by simp) ?_ ?_
     ·
      refine ⟨0,by omega,?_⟩
      simp [zi,go_sem,zc,zd,ze,zf,pos,List.range_succ,zcG,zaf,cWd,Wo.ss,Wo.ys,cYs,zp,cSi]
     ·
      rintro m st ⟨k,hk,rfl⟩
      by_cases hlt:k < w.a.length
      ·
       have hg:w.a[k]? = some (nth w.a k):=zk _ _ hlt
       have wk:=zD (k:=k) (by omega)
       have htk:w.a.take (k + 1)=w.a.take k ++ [nth w.a k]:=Z5 hlt
       simp only [go_sem,zcG,hlt,hg,cE,List.nil_append,List.cons_append]
       refine za (.pureE (zbA (nth w.a k) (fa _ (zcT hlt)).2) (by simp [go_sem,cEo])) ?_
       simp only [go_sem,cE]
       rw [zB rfl rfl (by simp) (by simp; omega)]
       simp only [go_sem,wk]
       refine ⟨by simp,m - 1,by omega,k + 1,by omega,?_⟩
       simp [zi,go_sem,zc,zd,ze,zf,pos,List.range_succ,zcG,zaf,cWd,Wo.ss,Wo.ys,cYs,zp,cSi,htk,cE]
      ·
       obtain rfl:k=w.a.length:=by omega
       rw [List.take_length]
       simp only [go_sem,hlt,zcG,zq,Int.reduceLT,Int.reduceLE,Int.reduceToNat,Int.reduceAdd,frz,List.nil_append,List.cons_append]
       rw [zds rfl rfl (by simp) (by simp)]
       simp only [go_sem,zq,Int.reduceLT,Int.reduceLE,Int.reduceToNat,Int.reduceAdd,frz,k1,k2]
       refine ⟨1,by omega,.inr (.inl ⟨rfl,?_⟩)⟩
       simp [ZW,go_sem,zcG,zaf,cWd,Wo.ss,Wo.ys,cYs,zp,cSi,k1,k2]
    ·
     skip
     simp only [go_sem,zcG,zq,Int.reduceLT,Int.reduceLE,Int.reduceToNat,Int.reduceAdd,frz,List.nil_append,List.cons_append]
     refine zaa (ZQ 8 0 32 5 true false rfl (by omega)) ?_
     rw [Zt]
     refine zr [1,3,8,35,36,37,41,42,43] (5 + 1) (fun m st=>∃ k:Nat,k + m=w.b.length ∧
      st=⟨mkE .top [(1,.ptr 0 0),(3,.ptr 1 0),(8,.arr 5 k),(35,.oll [[.list (w.a.map cE)],[.list (w.b.map cE)]]),(36,.int .i64 2),(37,.int .i64 1),(41,.oll (w.b.map cE)),(42,.int .i64 w.b.length),(43,.int .i64 k)],zcG w 1 0 [[.arr 4 w.a.length]] ([.arr w.a.length true false 32 5 (w.a.map cE)] ++ [.arr k true false 32 5 ((w.b.take k).map cE)])⟩) w.b.length (by simp [hx]) (by simp) ?_ ?_
     ·
      refine ⟨0,by omega,?_⟩
      simp [zi,go_sem,zc,zd,ze,zf,pos,List.range_succ,zcG,zaf,cWd,Wo.ss,Wo.ys,cYs,zp,cSi]
     ·
      rintro m st ⟨k,hk,rfl⟩
      by_cases hlt:k < w.b.length
      ·
       have hg:w.b[k]? = some (nth w.b k):=zk _ _ hlt
       have wk:=zD (k:=k) (by omega)
       have htk:w.b.take (k + 1)=w.b.take k ++ [nth w.b k]:=Z5 hlt
       simp only [go_sem,zcG,hlt,hg,cE,List.nil_append,List.cons_append]
       refine za (.pureE (zbA (nth w.b k) (fb _ (zcT hlt)).2) (by simp [go_sem,cEo])) ?_
       simp only [go_sem,cE]
       rw [zB rfl rfl (by simp) (by simp; omega)]
       simp only [go_sem,wk]
       refine ⟨by simp,m - 1,by omega,k + 1,by omega,?_⟩
       simp [zi,go_sem,zc,zd,ze,zf,pos,List.range_succ,zcG,zaf,cWd,Wo.ss,Wo.ys,cYs,zp,cSi,htk,cE]
      ·
       obtain rfl:k=w.b.length:=by omega
       rw [List.take_length]
       simp only [go_sem,hlt,zcG,zq,Int.reduceLT,Int.reduceLE,Int.reduceToNat,Int.reduceAdd,frz,List.nil_append,List.cons_append]
       rw [zds rfl rfl (by simp) (by simp)]
       simp only [go_sem,zq,Int.reduceLT,Int.reduceLE,Int.reduceToNat,Int.reduceAdd,frz,k1,k2]
       refine ⟨0,by omega,.inr (.inr ⟨rfl,?_⟩)⟩
       simp [ZW,go_sem,zcG,zaf,cWd,Wo.ss,Wo.ys,cYs,zp,cSi,k1,k2]
    ·
     simp only [go_sem,zcG,zq,Int.reduceLT,Int.reduceLE,Int.reduceToNat,Int.reduceAdd,frz,List.nil_append,List.cons_append]
     refine zG [1,2,3,4,5] (by simp) (by simp [hx]) (by simp [hx]) ?_ ?_
     ·
      simp [go_sem,L67,R67,hx,pos]
     ·
      simp [zc,zd,ze,zf,hx,pos,go_sem,hWo,List.range_succ,Wo.ss,zp,cSi]
theorem zjN (w:Wo) (h:WoOk w) (k i n c:Int) (t:ByteArray):zg Tryz.prog 66 [.agg (zaf w.ss w.ys),.agg (zo k i n c t)] [] (.tup [.agg (doC w k i n c t),.int .i64 (ZF w k i n c t)]) []:=by
  refine zg.of_walk Tryz.func66 Tryz.ntmps66 zt4 zt5 (by simp) fun x hx=>?_
  have hown:=zfm w h
  simp only [go_sem,L66,R66,zaf,zo,zq,Int.reduceLT,Int.reduceLE,Int.reduceToNat,Int.reduceAdd,frz]
  refine za (.heapE [] (r' := .ptr 3 0) (H' := [.box (zaf w.ss w.ys),.box (zo k i n c t),.box [.nilsl,.nilsl],.box [.arr 4 2,.arr 5 2],.arr 2 true false 36 3 (w.ss.map zp),.arr 2 true true 34 1 [[.arr 6 w.a.length],[.arr 7 w.b.length]],.arr w.a.length true false 32 5 (w.a.map cE),.arr w.b.length true false 32 5 (w.b.map cE)]) hown (by simp) (by simp) (by simp [go_sem,zaf]) rfl rfl rfl) ?_
  by_cases hk:k < 1∨5 < k
  · have e:ZF w k i n c t=7:=by rw [ZF,if_pos hk]
    rcases hk with hk | hk
    · simp only [go_sem,hk,zq,Int.reduceLT,Int.reduceLE,Int.reduceToNat,Int.reduceAdd,frz,zo]
      refine zb hx ?_
      simp [go_sem,L66,R66,doC,e,za2]
    · have hk1:¬ k < 1:=by omega
      simp only [go_sem,hk,hk1,zq,Int.reduceLT,Int.reduceLE,Int.reduceToNat,Int.reduceAdd,frz,zo]
      refine zb hx ?_
      simp [go_sem,L66,R66,doC,e,za2]
  · have hk1:¬ k < 1:=by omega
    have hk2:¬ 5 < k:=by omega
    simp only [go_sem,hk1,hk2,zq,Int.reduceLT,Int.reduceLE,Int.reduceToNat,Int.reduceAdd,frz,zo]
    refine za (.pureE (zgx k i n c t) (by simp [go_sem,zo])) ?_
    cases hx2:Z3 k n c t
    · by_cases hi:i=0∨i=1
      · have e:ZF w k i n c t=zN w k i n c t:=by rw [ZF,if_neg hk,if_neg (by simp [hx2]),if_neg (by simp [hi])]
        obtain ⟨va',vb',hdo⟩:=zlu 2 2 w.a.length w.b.length w h k i n c t hi hk
        have hi0:(¬ i=0∧¬ i=1)=False:=by simp; omega
        have hcall : CallTo Tryz.prog 138 [.ptr 3 0, .agg (zo k i n c t)] ([.box (zaf w.ss w.ys), .box (zo k i n c t), .box [.nilsl, .nilsl], .box [.arr 4 2, .arr 5 2], .arr 2 true false 36 3 (w.ss.map zp), .arr 2 true true 34 1 [[.arr 6 w.a.length], [.arr 7 w.b.length]], .arr w.a.length true false 32 5 (w.a.map cE), .arr w.b.length true false 32 5 (w.b.map cE)]) true (.int .i64 (zN w k i n c t))
            ([.box (zaf w.ss w.ys),.box (zo k i n c t),.box [.nilsl,.nilsl],.box [.arr 4 2,.arr 5 2],.arr 2 true false 36 3 ((if zN w k i n c t=0 then doW w k i n c t else w).ss.map zp),.arr 2 true true 34 1 [[.arr 6 va'],[.arr 7 vb']],.arr va' true false 32 5 ((if zN w k i n c t=0 then doW w k i n c t else w).a.map cE),.arr vb' true false 32 5 ((if zN w k i n c t=0 then doW w k i n c t else w).b.map cE)]):=by
          refine .heapE [3,4,5,6,7] hdo (by simp) (by simp) (by simp [go_sem,pos,zo]) ?_ ?_ ?_
          · simp [zc,zd,ze,zf,pos,hWo]
          · simp [zbE,ren,ze,zf]
          · simp [Zk,zH,zK,ZA,Zb,zd,ze,zf,pos,List.range_succ,hWo,zo]
        by_cases h0:zN w k i n c t=0
        · rw [if_pos h0,h0] at hcall
          have eW:doC w k i n c t=cWo (doW w k i n c t):=by rw [doC,e,if_pos h0]
          rw [eW,e,h0]
          generalize doW w k i n c t=w2 at *
          rcases hi with rfl | rfl
          · skip
            simp only [go_sem,zq,Int.reduceLT,Int.reduceLE,Int.reduceToNat,Int.reduceAdd,frz,zo]
            refine za hcall ?_
            simp only [go_sem,zq,Int.reduceLT,Int.reduceLE,Int.reduceToNat,Int.reduceAdd,frz]
            refine zt (zx 6 rfl) ?_
            refine zt (zx 7 rfl) ?_
            refine zt (Z6 5 rfl rfl (by simp [frz,PV.isPure])) ?_
            refine zt (zx 4 rfl) ?_
            refine zb hx ?_
            simp [go_sem,L66,R66,cWo,cWd,cYs,Wo.ys,zu,pos,frz]
          · skip
            simp only [go_sem,zq,Int.reduceLT,Int.reduceLE,Int.reduceToNat,Int.reduceAdd,frz,zo]
            refine za hcall ?_
            simp only [go_sem,zq,Int.reduceLT,Int.reduceLE,Int.reduceToNat,Int.reduceAdd,frz]
            refine zt (zx 6 rfl) ?_
            refine zt (zx 7 rfl) ?_
            refine zt (Z6 5 rfl rfl (by simp [frz,PV.isPure])) ?_
            refine zt (zx 4 rfl) ?_
            refine zb hx ?_
            simp [go_sem,L66,R66,cWo,cWd,cYs,Wo.ys,zu,pos,frz]
        · rw [if_neg h0] at hcall
          have eW:doC w k i n c t=za2:=by rw [doC,e,if_neg h0]
          rw [eW,e]
          rcases hi with rfl | rfl
          · skip
            simp only [go_sem,zq,Int.reduceLT,Int.reduceLE,Int.reduceToNat,Int.reduceAdd,frz,zo]
            refine za hcall ?_
            simp only [go_sem,zq,Int.reduceLT,Int.reduceLE,Int.reduceToNat,Int.reduceAdd,frz,h0]
            refine zb hx ?_
            simp [go_sem,L66,R66,za2]
          · skip
            simp only [go_sem,zq,Int.reduceLT,Int.reduceLE,Int.reduceToNat,Int.reduceAdd,frz,zo]
            refine za hcall ?_
            simp only [go_sem,zq,Int.reduceLT,Int.reduceLE,Int.reduceToNat,Int.reduceAdd,frz,h0]
            refine zb hx ?_
            simp [go_sem,L66,R66,za2]
      · have e:ZF w k i n c t=3:=by rw [ZF,if_neg hk,if_neg (by simp [hx2]),if_pos hi]
        have hi0:¬ i=0:=by omega
        have hi1:¬ i=1:=by omega
        simp only [go_sem,hi0,hi1,zq,Int.reduceLT,Int.reduceLE,Int.reduceToNat,Int.reduceAdd,frz]
        refine zb hx ?_
        simp [go_sem,L66,R66,doC,e,za2]
    · have e:ZF w k i n c t=1:=by rw [ZF,if_neg hk,if_pos hx2]
      simp only [go_sem,zq,Int.reduceLT,Int.reduceLE,Int.reduceToNat,Int.reduceAdd,frz]
      refine zb hx ?_
      simp [go_sem,L66,R66,doC,e,za2]
theorem zoF (ss : List Si) (ys : List (List Entry)) (k i n c : Int) (t : ByteArray) (hs : ss.length ≤ 1000000000000000) (hy : ys.length ≤ 1000000000000000) (ho : zg1 ss) (hoy : zkb ys) (h : Zw ss ys ≠ 0) :
    zg Tryz.prog 11 [.agg (zaf ss ys),.agg (zo k i n c t)] [] (.tup [.agg za2,.int .i64 (Zw ss ys)]) []:=by
  refine zg.of_walk Tryz.func11 Tryz.ntmps11 zsu zsv (by simp) fun x hx=>?_
  simp only [go_sem,L11,R11,zaf,zo]
  refine za (.pureE (zag ss ys hs hy ho hoy) (by simp [go_sem,zaf])) ?_
  simp only [go_sem,h]
  refine zb hx ?_
  simp [go_sem,L11,R11,za2]
theorem zqS (w : Wo) (h : WoOk w) (k i n c : Int) (t : ByteArray) :
    zg Tryz.prog 11 [.agg (zaf w.ss w.ys),.agg (zo k i n c t)] [] (.tup [.agg (doC w k i n c t),.int .i64 (ZF w k i n c t)]) []:=by
  obtain ⟨o1,o2⟩:=zdl h
  refine zg.of_walk Tryz.func11 Tryz.ntmps11 zsu zsv (by simp) fun x hx=>?_
  simp only [go_sem,L11,R11,zaf,zo]
  refine za (.pureE (zag w.ss w.ys (by simp [Wo.ss]) (by simp [Wo.ys]) o1 o2) (by simp [go_sem,zaf])) ?_
  rw [Z8.2 h]
  simp only [go_sem,zq,Int.reduceLT,Int.reduceLE,Int.reduceToNat,Int.reduceAdd,frz,zaf,zo]
  have hraw:=zjN w h k i n c t
  obtain ⟨ds,dy,hq⟩:=zoE w k i n c t
  rw [hq] at hraw ⊢
  refine za (.pureE hraw (by simp [go_sem,zaf,zo])) ?_
  simp only [go_sem,cWd]
  refine zb hx ?_
  simp [go_sem,L11,R11,cWd]
theorem zkM (ss : List Si) (ys : List (List Entry)) (hs : ss.length ≤ 1000000000000000) (hy : ys.length ≤ 1000000000000000) (ho : zg1 ss) (hoy : zkb ys) (h : Zw ss ys ≠ 0) :
    zg Tryz.prog 13 [.agg (zaf ss ys)] [] (.tup [.agg za2,.int .i64 (Zw ss ys)]) []:=by
  refine zg.of_walk Tryz.func13 Tryz.ntmps13 zsw zsx (by simp) fun x hx=>?_
  simp only [go_sem,L13,R13,zaf]
  refine za (.pureE (zag ss ys hs hy ho hoy) (by simp [go_sem,zaf])) ?_
  simp only [go_sem,h]
  refine zb hx ?_
  simp [go_sem,L13,R13,za2]
def zg2 (w0 w:Wo):List AObj := [.box (zaf w0.ss w0.ys),.box [.nilsl,.nilsl],.box [.arr 3 2,.arr 4 2],.arr 2 true false 36 3 (w.ss.map zp),.arr 2 true true 34 1 [[.arr 5 w0.a.length],[.arr 6 w0.b.length]],.arr w0.a.length true false 32 5 (w.a.map cE),.arr w0.b.length true false 32 5 (w.b.map cE)]
theorem zmz (w:Wo) (h:WoOk w):zg Tryz.prog 13 [.agg (zaf w.ss w.ys)] [] (.tup [.agg (cWo (stW w)),.int .i64 0]) []:=by
  obtain ⟨o1,o2⟩:=zdl h
  have hown:=zfm w h
  have k1:IntKind.i64.wrap 1=1:=by decide
  have k2:IntKind.i64.wrap 2=2:=by decide
  obtain ⟨-,a2,-,-,-⟩:=zd6 h (.inl rfl)
  have hal0:=zbY 2 2 w.a.length w.b.length w 0 (.inl rfl) h.s0 (h.log (.inr rfl))
  have hal1:zg Tryz.prog 68 [.ptr 0 0,.int .i64 1] (hWo 2 2 w.a.length w.b.length (w.setS 0 (zcU w 0).2)) (.int .i64 0) (hWo 2 2 w.a.length w.b.length (stW w)):=zbY 2 2 w.a.length w.b.length (w.setS 0 (zcU w 0).2) 1 (.inr rfl) (a2.si (.inr rfl)) (a2.log (.inl rfl))
  refine zg.of_walk Tryz.func13 Tryz.ntmps13 zsw zsx (by simp) fun x hx=>?_
  simp only [go_sem,L13,R13,zaf]
  refine za (.pureE (zag w.ss w.ys (by simp [Wo.ss]) (by simp [Wo.ys]) o1 o2) (by simp [go_sem,zaf])) ?_
  rw [Z8.2 h]
  simp only [go_sem,zq,Int.reduceLT,Int.reduceLE,Int.reduceToNat,Int.reduceAdd,frz,zaf]
  refine za (.heapE [] (r' := .ptr 2 0) (H':=zg2 w w) hown (by simp) (by simp) (by simp [go_sem,zaf]) rfl rfl rfl) ?_
  simp only [go_sem,zq,Int.reduceLT,Int.reduceLE,Int.reduceToNat,Int.reduceAdd,frz]
  refine za7 [2, 5, 16] (fun m st => (m = 2 ∧ st = ⟨mkE .top [(2, .ptr 1 0), (5, .ptr 2 0), (16, .int .i64 0)], zg2 w w⟩) ∨
      (m=1∧st=⟨mkE .top [(2,.ptr 1 0),(5,.ptr 2 0),(16,.int .i64 1)],zg2 w (w.setS 0 (zcU w 0).2)⟩) ∨
      (m=0∧st=⟨mkE .top [(2,.ptr 1 0),(5,.ptr 2 0),(16,.int .i64 2)],zg2 w (stW w)⟩)) 2 ?_ ?_
  · refine .inl ⟨rfl,?_⟩
    simp [ZW,go_sem]
  · rintro m st (⟨rfl,rfl⟩ | ⟨rfl,rfl⟩ | ⟨rfl,rfl⟩)
    · skip
      have hcall:CallTo Tryz.prog 68 [.ptr 2 0,.int .i64 0] (zg2 w w) true (.int .i64 0) (zg2 w (w.setS 0 (zcU w 0).2)):=by
        refine .heapE [2,3,4,5,6] (hal0) (by simp) (by simp [zg2]) (by simp [go_sem,pos]) ?_ ?_ ?_
        · simp [zc,zd,ze,zf,pos,hWo,zg2]
        · simp [zbE,ren,ze,zf]
        · simp [Zk,zH,zK,ZA,Zb,zd,ze,zf,pos,List.range_succ,hWo,zg2]
      simp only [go_sem,zg2,zq,Int.reduceLT,Int.reduceLE,Int.reduceToNat,Int.reduceAdd,frz]
      refine za hcall ?_
      simp only [go_sem,zg2,zq,Int.reduceLT,Int.reduceLE,Int.reduceToNat,Int.reduceAdd,frz,k1,k2]
      refine ⟨1,by omega,.inr (.inl ⟨rfl,?_⟩)⟩
      simp [ZW,go_sem,zg2]
    · skip
      have hcall:CallTo Tryz.prog 68 [.ptr 2 0,.int .i64 1] (zg2 w (w.setS 0 (zcU w 0).2)) true (.int .i64 0) (zg2 w (stW w)):=by
        refine .heapE [2,3,4,5,6] (hal1) (by simp) (by simp [zg2]) (by simp [go_sem,pos]) ?_ ?_ ?_
        · simp [zc,zd,ze,zf,pos,hWo,zg2]
        · simp [zbE,ren,ze,zf]
        · simp [Zk,zH,zK,ZA,Zb,zd,ze,zf,pos,List.range_succ,hWo,zg2]
      simp only [go_sem,zg2,zq,Int.reduceLT,Int.reduceLE,Int.reduceToNat,Int.reduceAdd,frz]
      refine za hcall ?_
      simp only [go_sem,zg2,zq,Int.reduceLT,Int.reduceLE,Int.reduceToNat,Int.reduceAdd,frz,k1,k2]
      refine ⟨0,by omega,.inr (.inr ⟨rfl,?_⟩)⟩
      simp [ZW,go_sem,zg2]
    · generalize stW w=w2 at *
      simp only [go_sem,zg2,zq,Int.reduceLT,Int.reduceLE,Int.reduceToNat,Int.reduceAdd,frz]
      refine zt (zx 5 rfl) ?_
      refine zt (zx 6 rfl) ?_
      refine zt (Z6 4 rfl rfl (by simp [frz,PV.isPure])) ?_
      refine zt (zx 3 rfl) ?_
      refine zb hx ?_
      simp [go_sem,L13,R13,cWo,cWd,cYs,Wo.ys,zu,pos,frz]
theorem zil {ys:List (List Entry)} {k:Nat} (h:k < ys.length):(cYs ys)[k]? = some [.list ((nth ys k).map cE)]:=by
 unfold cYs; rw [List.getElem?_map,zk _ _ h]; rfl
theorem zcp (ys:List (List Entry)):(cYs ys).length=ys.length:=by simp [cYs]
theorem zbZ (ss:List Si) (ys:List (List Entry)) (hs:ss.length≤1000000000000000) (hy:ys.length≤1000000000000000) (ho:zg1 ss) (hoy:zkb ys):zg Tryz.prog 18 [.agg (cWd ss ys),.agg (cWd ss ys)] [] (.bool true) []:=by
 refine zg.of_walk Tryz.func18 Tryz.ntmps18 zxW zxX (by simp) fun x hx=>?_
 simp only [go_sem,L18,R18,cWd,zcp]
 refine zr [2,3,5] 2 (fun m st=>∃ k:Nat,k + m=ss.length ∧
  st=⟨mkE .top [(2,.ptr 0 0),(3,.ptr 1 0),(5,.int .i64 k)],[.box (cWd ss ys),.box (cWd ss ys)]⟩) ss.length (by simp [hx]) (by simp) ?_ ?_
 ·
  refine ⟨0,by omega,?_⟩
  simp [zi,go_sem,zc,zd,pos,List.range_succ,cWd]
 ·
  rintro m st ⟨k,hk,rfl⟩
  by_cases hlt:k < ss.length
  ·
   have hg:ss[k]? = some (nth ss k):=zk _ _ hlt
   have wk:=zD (k:=k) (by omega)
   obtain ⟨l1,l2⟩:=zrS hlt ho
   simp only [go_sem,hlt,hg,zp,cSi,cWd]
   refine za (.pureE (zgZ (nth ss k) (by omega) (by omega)) (by simp [go_sem,zp,cSi])) ?_
   simp only [go_sem,wk]
   repeat refine ⟨rfl,?_⟩
   refine ⟨by simp,m - 1,by omega,k + 1,by omega,?_⟩
   simp [zi,go_sem,zc,zd,pos,List.range_succ,cWd]
  ·
   simp only [go_sem,hlt,cWd]
   refine zr [2,3,6] 2 (fun m st=>∃ k:Nat,k + m=ys.length ∧
    st=⟨mkE .top [(2,.ptr 0 0),(3,.ptr 1 0),(6,.int .i64 k)],[.box (cWd ss ys),.box (cWd ss ys)]⟩) ys.length (by simp [hx]) (by simp) ?_ ?_
   ·
    refine ⟨0,by omega,?_⟩
    simp [zi,go_sem,zc,zd,pos,List.range_succ,cWd]
   ·
    rintro m st ⟨k,hk,rfl⟩
    by_cases hlt:k < ys.length
    ·
     have wk:=zD (k:=k) (by omega)
     have l1:=zzR hlt hoy
     have hlt':k < (cYs ys).length:=by rw [zcp]; exact hlt
     simp only [go_sem,hlt,hlt',zil hlt,zcp,cWd]
     refine za (.pureE (zcF (nth ys k) (by omega)) (by simp [go_sem])) ?_
     simp only [go_sem,wk]
     repeat refine ⟨rfl,?_⟩
     refine ⟨by simp,m - 1,by omega,k + 1,by omega,?_⟩
     simp [zi,go_sem,zc,zd,pos,List.range_succ,cWd]
    ·
     simp only [go_sem,hlt,zcp,cWd]
     refine zb hx ?_
     simp [go_sem,L18,R18]
theorem zim (e : Int) (ss : List Si) (ys : List (List Entry)) (hs : ss.length ≤ 1000000000000000) (hy : ys.length ≤ 1000000000000000) (ho : zg1 ss) (hoy : zkb ys) :
    zg Tryz.prog 12 [.agg (if e=0 then cWd ss ys else za2),.int .i64 e,.int .i64 e,.agg (cWd ss ys)] [] (.bool true) []:=by
  refine zg.of_walk Tryz.func12 Tryz.ntmps12 zxS zxT (by simp) fun x hx=>?_
  by_cases h:e=0
  · simp only [go_sem,L12,R12,h,cWd]
    refine za (.pureE (zbZ ss ys hs hy ho hoy) (by simp [go_sem,cWd])) ?_
    simp only [go_sem]
    refine zb hx ?_
    simp [go_sem,L12,R12]
  · simp only [go_sem,L12,R12,h,cWd,za2]
    refine za (.pureE (zbZ [] [] (by simp) (by simp) (by intro s h; cases h) (by intro s h; cases h)) (by simp [go_sem,cWd,cYs])) ?_
    simp only [go_sem]
    refine zb hx ?_
    simp [go_sem,L12,R12]
theorem zfv (ss:List Si) (ys:List (List Entry)) (hs:ss.length≤1000000000000000) (hy:ys.length≤1000000000000000) (ho:zg1 ss) (hoy:zkb ys):zg Tryz.prog 9 [.agg (cWd ss ys)] [] (.int .i64 (Zw ss ys)) []:=by
 refine zg.of_walk Tryz.func9 Tryz.ntmps9 zAy zAz (by simp) fun x hx=>?_
 by_cases h1:(ss.length:Int)=2
 ·
  by_cases h2:(ys.length:Int)=2
  ·
   have s2:ss.length=2:=by omega
   have y2:ys.length=2:=by omega
   have e1:Zw ss ys=if zw (zdi ss) 2≠0 then zw (zdi ss) 2 else if zw (fun i=>ZT ss (nth ys i)) 2≠0 then zw (fun i=>ZT ss (nth ys i)) 2 else if zd7 ss 2=true then 4 else 0:=by rw [Zw,if_neg (by simp [s2,y2]),zjJ s2]
   have hyl:(cYs ys).length=ys.length:=by simp [cYs]
   simp only [go_sem,L9,R9,cWd,h1,h2,hyl]
   refine zr [1,3] 1 (fun m st=>∃ k:Nat,k + m=2∧zw (zdi ss) k=0 ∧
    st=⟨mkE .top [(1,.ptr 0 0),(3,.int .i64 k)],[.box (cWd ss ys)]⟩) 2 (by simp [hx]) (by simp) ?_ ?_
   ·
    refine ⟨0,by omega,rfl,?_⟩
    simp [zi,go_sem,zc,zd,pos,List.range_succ,cWd]
   ·
    rintro m st ⟨k,hk,hz,rfl⟩
    by_cases hk2:(k:Int) < 2
    ·
     have hlt:k < ss.length:=by omega
     have hg:ss[k]? = some (nth ss k):=zk _ _ hlt
     have wk:=zD (k:=k) (by omega)
     obtain ⟨l1,l2⟩:=zrS hlt ho
     have fin:∀ q:Int,zdi ss k=q→q≠0→Zw ss ys=q:=fun q h3 h4=>by rw [e1,zZ hz (by rw [h3]; exact h4) (by omega:k < 2),h3,if_pos h4]
     simp only [go_sem,hk2,hlt,hg,zp,cSi,cWd]
     refine za (.pureE (zgq (nth ss k).1 (nth ss k).2.1 (nth ss k).2.2 (by omega) (by omega)) (by simp [go_sem,cSi])) ?_
     by_cases h3:zL (nth ss k).1 (nth ss k).2.1 (nth ss k).2.2=0
     ·
      by_cases h4:(nth ss k).1=(k:Int)
      ·
       have h5:zdi ss k=0:=by rw [zdi,if_pos h3,if_pos h4]
       simp only [go_sem,h3,hlt,hg,zp,cSi,cWd]
       simp only [go_sem,h4,wk]
       refine ⟨by simp,m - 1,by omega,k + 1,by omega,zQ hz h5,?_⟩
       simp [zi,go_sem,zc,zd,pos,List.range_succ,cWd]
      ·
       have h5:zdi ss k=4:=by rw [zdi,if_pos h3,if_neg h4]
       simp only [go_sem,h3,hlt,hg,zp,cSi,cWd]
       simp only [go_sem,h4]
       refine zb hx ?_
       simp [go_sem,L9,R9,fin 4 h5 (by decide)]
     ·
      have h5:zdi ss k=zL (nth ss k).1 (nth ss k).2.1 (nth ss k).2.2:=by rw [zdi,if_neg h3]
      simp only [go_sem,h3]
      refine zb hx ?_
      simp [go_sem,L9,R9,fin _ h5 h3]
    ·
     obtain rfl:k=2:=by omega
     have hst:∀ j,j < 2→zdi ss j=0:=ZY.1 hz
     have e2:Zw ss ys=if zw (fun i=>ZT ss (nth ys i)) 2≠0 then zw (fun i=>ZT ss (nth ys i)) 2 else if zd7 ss 2=true then 4 else 0:=by rw [e1,if_neg (by simp [hz])]
     simp only [go_sem,hk2,cWd]
     refine zr [1,5] 1 (fun m st=>∃ k:Nat,k + m=2∧zw (fun i=>ZT ss (nth ys i)) k=0 ∧
      st=⟨mkE .top [(1,.ptr 0 0),(5,.int .i64 k)],[.box (cWd ss ys)]⟩) 2 (by simp [hx]) (by simp) ?_ ?_
     ·
      refine ⟨0,by omega,rfl,?_⟩
      simp [zi,go_sem,zc,zd,pos,List.range_succ,cWd]
     ·
      rintro m st ⟨k,hk,hz2,rfl⟩
      by_cases hk2:(k:Int) < 2
      ·
       have hlt:k < ys.length:=by omega
       have hg:=zil hlt
       have wk:=zD (k:=k) (by omega)
       have l1:=zzR hlt hoy
       have hkl:k < (cYs ys).length:=by omega
       have fin:∀ q:Int,ZT ss (nth ys k)=q→q≠0→Zw ss ys=q:=fun q h3 h4=>by rw [e2,zZ hz2 (by simp only [h3]; exact h4) (by omega:k < 2)]; simp only [h3]; rw [if_pos h4]
       by_cases h30:(30:Int) < ((nth ys k).length:Int)
       ·
        have h3:ZT ss (nth ys k)=2:=by rw [ZT,if_pos (by omega)]
        simp only [go_sem,hk2,hkl,hg,cWd,h30]
        refine zb hx ?_
        simp [go_sem,L9,R9,fin 2 h3 (by decide)]
       ·
        have hwe:ZT ss (nth ys k)=zw (zgM ss (nth ys k)) (nth ys k).length:=by rw [ZT,if_neg (by omega)]
        simp only [go_sem,hk2,hkl,hg,cWd,h30]
        generalize hl:nth ys k=l at *
        refine zr [1,5,6] 1 (fun m st=>∃ q:Nat,q + m=l.length∧zw (zgM ss l) q=0 ∧
         st=⟨mkE .top [(1,.ptr 0 0),(5,.int .i64 k),(6,.int .i64 q)],[.box (cWd ss ys)]⟩) l.length (by simp [hx]) (by simp) ?_ ?_
        ·
         refine ⟨0,by omega,rfl,?_⟩
         simp [zi,go_sem,zc,zd,pos,List.range_succ,cWd]
        ·
         rintro m2 st ⟨q,hq,hz4,rfl⟩
         by_cases hql:q < l.length
         ·
          have hgq:l[q]? = some (nth l q):=zk _ _ hql
          have wq:=zD (k:=q) (by omega)
          have fin2:∀ a:Int,zgM ss l q=a→a≠0→Zw ss ys=a:=fun a h3 h4=>fin a (by rw [hwe,zZ hz4 (by rw [h3]; exact h4) hql,h3]) h4
          simp only [go_sem,hkl,hg,hql,hgq,cE,cWd]
          refine za (.pureE (zbl (nth l q)) (by simp [go_sem,cE])) ?_
          by_cases h5:zl (nth l q)=0
          ·
           simp only [go_sem,h5,hkl,hg,hql,hgq,cE,cWd]
           refine za (.pureE (zfk ss ys (nth l q) s2 ho (zdk h5)) (by simp [go_sem,cE,cWd])) ?_
           cases hb:zaP ss (nth l q)
           ·
            have h6:zgM ss l q=4:=by rw [zgM,if_pos h5,if_neg (by simp [hb])]
            simp only [go_sem]
            repeat refine ⟨rfl,?_⟩
            refine zb hx ?_
            simp [go_sem,L9,R9,fin2 4 h6 (by decide)]
           ·
            have h6:zgM ss l q=0:=by rw [zgM,if_pos h5,if_pos hb]
            simp only [go_sem,wq]
            repeat refine ⟨rfl,?_⟩
            refine ⟨by simp,m2 - 1,by omega,q + 1,by omega,zQ hz4 h6,?_⟩
            simp [zi,go_sem,zc,zd,pos,List.range_succ,cWd]
          ·
           have h6:zgM ss l q=zl (nth l q):=by rw [zgM,if_neg h5]
           simp only [go_sem,h5]
           refine zb hx ?_
           simp [go_sem,L9,R9,fin2 _ h6 h5]
         ·
          obtain rfl:q=l.length:=by omega
          simp only [go_sem,hkl,hg,hql,cWd,wk]
          refine ⟨by simp,m - 1,by omega,k + 1,by omega,zQ hz2 (by simp only [hl]; rw [hwe]; exact hz4),?_⟩
          simp [zi,go_sem,zc,zd,pos,List.range_succ,cWd]
      ·
       obtain rfl:k=2:=by omega
       have e3:Zw ss ys=if zd7 ss 2=true then 4 else 0:=by rw [e2,if_neg (by simp [hz2])]
       simp only [go_sem,hk2,cWd]
       refine zr [1,8] 1 (fun m st=>∃ k:Nat,k + m=2∧zd7 ss k=false ∧
        st=⟨mkE .top [(1,.ptr 0 0),(8,.int .i64 k)],[.box (cWd ss ys)]⟩) 2 (by simp [hx]) (by simp) ?_ ?_
       ·
        refine ⟨0,by omega,rfl,?_⟩
        simp [zi,go_sem,zc,zd,pos,List.range_succ,cWd]
       ·
        rintro m st ⟨k,hk,hz3,rfl⟩
        by_cases hk2:(k:Int) < 2
        ·
         have hlt:k < ss.length:=by omega
         have hg:ss[k]? = some (nth ss k):=zk _ _ hlt
         have wk:=zD (k:=k) (by omega)
         obtain ⟨l1,l2⟩:=zrS hlt ho
         have hreg:=zjF (zoy (hst k (by omega))).1
         obtain ⟨-,n1,n2,-,-,-,-,-⟩:=zcf (zoy (hst k (by omega))).1
         have hsB:zgN ss (nth ss k)=(((nth ss k).2.1 ++ (nth ss k).2.2).any fun e => !zaP ss e):=by rw [List.any_append]; rfl
         have fin:zgN ss (nth ss k)=true→Zw ss ys=4:=fun h=>by rw [e3,if_pos (zjK (by omega:k < 2) (by omega) h)]
         simp only [go_sem,hk2,hlt,hg,zp,cSi,cWd]
         rw [zB rfl rfl (zba _) (by simp; omega)]
         simp only [go_sem,hlt,hg,zp,cSi,cWd]
         rw [zB rfl rfl (zba _) (by simp; omega)]
         rw [← List.map_append]
         have hregL:∀ e ∈ (nth ss k).2.1 ++ (nth ss k).2.2,e.id.r=0∨e.id.r=1:=fun e he=>hreg e (List.mem_append.1 he)
         have hL:((nth ss k).2.1 ++ (nth ss k).2.2).length≤2000000000000000:=by rw [List.length_append]; omega
         generalize (nth ss k).2.1 ++ (nth ss k).2.2=L at *
         simp only [go_sem]
         repeat refine ⟨rfl,?_⟩
         refine zr [1,8,9,10] 2 (fun m st=>∃ q:Nat,q + m=L.length∧(L.take q).any (fun e => !zaP ss e)=false ∧
          st=⟨mkE .top [(1,.ptr 0 0),(8,.int .i64 k),(9,.arr 1 2),(10,.int .i64 q)],[.box (cWd ss ys),.arr 2 true false 32 5 (L.map cE)]⟩) L.length (by simp [hx]) (by simp) ?_ ?_
         ·
          refine ⟨0,by omega,rfl,?_⟩
          simp [zi,go_sem,zc,zd,ze,zf,pos,List.range_succ,cWd]
         ·
          rintro m2 st ⟨q,hq,hz4,rfl⟩
          by_cases hql:q < L.length
          ·
           have hgq:L[q]? = some (nth L q):=zk _ _ hql
           have wq:=zD (k:=q) (by omega)
           simp only [go_sem,hql,hgq,cE,cWd]
           refine za (.pureE (zfk ss ys (nth L q) s2 ho (hregL _ (zcT hql))) (by simp [go_sem,cE,cWd])) ?_
           cases hb:zaP ss (nth L q)
           ·
            have h5:zgN ss (nth ss k)=true:=by rw [hsB,List.any_eq_true]; exact ⟨_,zcT hql,by simp [hb]⟩
            simp only [go_sem]
            repeat refine ⟨rfl,?_⟩
            refine zb hx ?_
            simp [go_sem,L9,R9,fin h5]
           ·
            simp only [go_sem,wq]
            repeat refine ⟨rfl,?_⟩
            refine ⟨by simp,m2 - 1,by omega,q + 1,by omega,?_,?_⟩
            ·
             rw [Z5 hql,List.any_append,hz4]; simp [hb]
            ·
             simp [zi,go_sem,zc,zd,ze,zf,pos,List.range_succ,cWd]
          ·
           obtain rfl:q=L.length:=by omega
           rw [List.take_length] at hz4
           have h5:zgN ss (nth ss k)=false:=by rw [hsB,hz4]
           simp only [go_sem,hql,wk]
           refine ⟨by simp,m - 1,by omega,k + 1,by omega,by rw [zhB hlt,hz3,h5]; rfl,?_⟩
           simp [zi,go_sem,zc,zd,ze,zf,pos,List.range_succ,cWd]
        ·
         obtain rfl:k=2:=by omega
         have e4:Zw ss ys=0:=by rw [e3,if_neg (by simp [hz3])]
         simp only [go_sem,hk2]
         refine zb hx ?_
         simp [go_sem,L9,R9,e4]
  ·
   have e1:Zw ss ys=1:=by rw [Zw,if_pos (by omega)]
   have hyl:(cYs ys).length=ys.length:=by simp [cYs]
   simp only [go_sem,L9,R9,cWd,h1,h2,hyl]
   refine zb hx ?_
   simp [go_sem,L9,R9,e1]
 ·
  have e1:Zw ss ys=1:=by rw [Zw,if_pos (by omega)]
  simp only [go_sem,L9,R9,cWd,h1]
  refine zb hx ?_
  simp [go_sem,L9,R9,e1]
theorem zfw (a:Entry):zg Tryz.prog 19 [.agg (cEo a),.agg (cEo a)] [] (.bool (zck a a)) []:=(zbO a a).freshS rfl rfl
theorem zfx (ss:List Si) (ys:List (List Entry)) (hs:ss.length≤1000000000000000) (hy:ys.length≤1000000000000000) (ho:zg1 ss) (hoy:zkb ys):zg Tryz.prog 18 [.agg (zaf ss ys),.agg (zaf ss ys)] [] (.bool true) []:=(zbZ ss ys hs hy ho hoy).freshS rfl rfl
theorem zcq (e : Int) (ss : List Si) (ys : List (List Entry)) (hs : ss.length ≤ 1000000000000000) (hy : ys.length ≤ 1000000000000000) (ho : zg1 ss) (hoy : zkb ys) :
    zg Tryz.prog 12 [.agg (if e=0 then cWd ss ys else za2),.int .i64 e,.int .i64 e,.agg (zaf ss ys)] [] (.bool true) []:=by
  refine (zim e ss ys hs hy ho hoy).freshS ?_ rfl
  by_cases h:e=0 <;> simp [h,unO,ztw,cWd,zaf,za2]
theorem zjO {l:List Entry} {q:PV} (h:zao (.list (l.map cE)) q):∃ l':List Entry,l'.length=l.length∧q = .list (l'.map cE):=zeq h
def noC (C:Conc):Conc := { C with old:=fun _ _=>False }
def zlw:PV→Bool
 | .agg cs=>cs.all PV.isPure
 | p=>p.isPure
theorem zmA {S S':Nat→Nat→Prop} {w:World} {C C':Conc} (hS:∀ b o,S b o→S' b o) {p:PV} {v:Value} (hp:zlw p=true) (h:RepV S w C p v):RepV S' w C' p v:=by
 cases p
 case agg cs =>
  obtain ⟨vs,rfl,hl,h1,h2⟩:=h.agg_inv
  exact .agg cs vs hl h1 fun j p u hj hu => .pure (((h2 j p u hj hu).pureOf (List.all_eq_true.1 hp p (List.mem_of_getElem? hj))).mono hS fun _ _ _=>rfl)
 all_goals exact .pure ((h.pureOf hp).mono hS fun _ _ _=>rfl)
theorem zg.of_newW {P : Program} {f : Nat} {fn : Func} {lc : LC} {lrs : List LRes} {args : List PV} {r : PV} {nt : Nat} (hf : P.funcs[f]? = some fn) (hnt : fn.ntmps = nt) (hlc : (fn.body.bind (zh P nt)) = some lc) (hres : zj P fn.results.toList = some lrs)
    (hargs:args.length≤nt) (hpl:args.all zlw=true) (h:∀ x:Cx,x.H0 = []→(∀ b o,¬ x.C0.old b o)→W P x nt lc (zw7 x nt lrs r) ⟨mkE .undef (zm4 0 args),[]⟩):zg P f args [] r []:=by
  intro x vs hx hr hp
  have hn:∀ b o,zj9 x.C0 [] b o:=fun b o i ob hi=>by simp at hi
  have h1:HR ⟨x.w0,fun b o=>zA x x.C0 [] x.w0 b o,noC x.C0,[]⟩ (noC x.C0) [] x.w0 :=
    ⟨hr.n,fun i ob h=>by simp at h,fun i i' ob ob' b h=>by simp at h,fun i ob b h=>by simp at h,fun b o h=>⟨h.2.1,fun i ob hi=>by simp at hi,rfl⟩,Nat.le_refl _,rfl,rfl,rfl,fun _ _ _=>rfl,Nat.le_refl _,fun _ _=>rfl,fun _ _ => .inl ⟨rfl,rfl⟩,fun b o h=>h.elim,fun _ _ h=>h,fun _ _ h=>h⟩
  have hp1:zk5 (zA ⟨x.w0,fun b o=>zA x x.C0 [] x.w0 b o,noC x.C0,[]⟩ (noC x.C0) [] x.w0) x.w0 (noC x.C0) args vs.toList :=
    ⟨hp.1,fun j p u hj hu=>zmA (fun b o h=>⟨.inl h,h.2.1,fun i ob hi=>by simp at hi⟩) (List.all_eq_true.1 hpl p (List.mem_of_getElem? hj)) (hp.2 j p u hj hu)⟩
  obtain ⟨c,hb,hlc⟩:=Option.bind_eq_some_iff.1 hlc
  have hvl:vs.size=args.length:=by have:=hp1.1; simpa using this
  have hal:args.length≤nt:=hargs
  have hno:∀ b o,¬ (noC x.C0).old b o:=fun b o h=>h
  refine calls_of_wp hf hb ?_
  generalize hx1:(⟨x.w0,fun b o=>zA x x.C0 [] x.w0 b o,noC x.C0,[]⟩:Cx)=x1 at *
  have hH0:x1.H0 = []:=by rw [← hx1]
  have hw0:x1.w0=x.w0:=by rw [← hx1]
  have hC0:x1.C0=noC x.C0:=by rw [← hx1]
  have hrel:Rel x1 nt (St.init args []) { tmps:=vs ++ Array.replicate (fn.ntmps - vs.size) Go.undef,defers := [] } x.w0:=by
    refine ⟨⟨noC x.C0,h1,fun t=>?_⟩,rfl,by simp; omega⟩
    simp only [St.init]
    by_cases ht:t < args.length
    · have e1:args[t]? = some args[t]:=List.getElem?_eq_getElem ht
      have e2:vs.toList[t]? = some vs[t]:=by simp [ht,hvl]
      have:=hp1.2 t _ _ e1 e2
      simp only [List.getD,e1,Option.getD_some]
      rw [show (vs ++ Array.replicate (fn.ntmps - vs.size) Go.undef).getD t Go.undef=vs[t] by
        simp [Array.getD,Array.getElem_append,hvl,ht]; omega]
      exact this
    · simp only [List.getD,List.getElem?_eq_none (by omega:args.length≤t),Option.getD_none]
      rw [show (vs ++ Array.replicate (fn.ntmps - vs.size) Go.undef).getD t Go.undef=Go.undef by
        simp only [Array.getD]
        split
        · rw [Array.getInternal_eq_getElem,Array.getElem_append_right (by omega)]; simp
        · rfl]
      exact .undef
  have fin:∀ st a w,(∃ st',zbk x1 nt st st'∧(ZZ st' lrs).map (fun ps=>frS st'.heap (zdW ps))=some r)→Rel x1 nt st a w→a.defers = []∧∃ v,(results fn a.tmps).run P w = .ok v w∧∃ v1 C',Ending.returned v = .returned v1∧HR x C' [] w∧RepV (zA x C' [] w) w C' r v1:=by
    intro st a w ⟨st',hwk,hq⟩ hrel
    obtain ⟨ps,g1,g2⟩:=Option.map_eq_some_iff.1 hq
    replace hrel:=hwk a w hrel
    obtain ⟨⟨C,hr1,he⟩,hdf,hsz⟩:=hrel
    obtain ⟨us,k1,k2⟩:=zaT hr1 he hres g1
    refine ⟨hdf,if h:us.toArray.size=1 then us.toArray[0] else .tuple us.toArray,?_,if h:us.toArray.size=1 then us.toArray[0] else .tuple us.toArray,x.C0,rfl,?_⟩
    · have hm:(fn.results.mapM (zcY a.tmps)).run P w = .ok us.toArray w:=by
        rw [Array.mapM_eq_mapM_toList]
        simp [k1]
      have hq:results fn a.tmps=(do let vs ← fn.results.mapM (zcY a.tmps); pure (if h:vs.size=1 then vs[0] else .tuple vs)):=rfl
      rw [hq,Sem.run_bind,hm,Result.andThen_ok,Sem.run_pure]
    · obtain ⟨q1,-,-⟩:=hr.grow (w':=w) ⟨by rw [← hw0]; exact hr1.size,by rw [← hw0]; exact hr1.os,by rw [← hw0]; exact hr1.tape,by rw [← hw0]; exact hr1.output,fun b hb _=>by
        rw [← hw0]; exact hr1.frame b (by rw [hw0]; exact hb) fun i ob h=>by rw [hH0] at h; simp at h⟩
      refine ⟨q1,?_⟩
      rw [← g2]
      exact zky hr1 hH0 (fun b o a1 a2 a3=>⟨.inr ⟨.inl (by rw [← hw0]; exact a1),a3⟩,a2,hn b o⟩) (zei k2)
  refine wp_mono (h x1 hH0 (by rw [hC0]; exact hno) c (by rw [hnt] at *; exact hlc) _ _ (by rw [zf2] at hrel; exact hrel)) fun e a w hq=>?_
  cases e with
  | normal=>obtain ⟨st,g1,g2⟩:=hq; exact fin st a w g1 g2
  | ret=>obtain ⟨st,g1,g2⟩:=hq; exact fin st a w g1 g2
  | exit id=>obtain ⟨st,g1,g2⟩:=hq; exact g1.elim
  | goto l=>exact hq.elim
  | panic ch=>exact hq.elim
  | outgrown=>exact hq.elim
theorem zg.of_newL {P : Program} {f : Nat} {fn : Func} {lc : LC} {lrs : List LRes} {args : List PV} {r : PV} {nt : Nat} (hf : P.funcs[f]? = some fn) (hnt : fn.ntmps = nt) (hlc : (fn.body.bind (zh P nt)) = some lc) (hres : zj P fn.results.toList = some lrs)
    (hargs:args.length≤nt) (hpl:args.all zlw=true) (h:∀ x:Cx,x.H0 = []→(∀ b o,¬ x.C0.old b o)→WL P x nt lc.flat (zw7 x nt lrs r) ⟨mkE .undef (zm4 0 args),[]⟩):zg P f args [] r [] :=
  zg.of_newW hf hnt hlc hres hargs hpl fun x hx ho=>zi5 (h x hx ho)
def zin [K:BxK] (Q:AE→St→Prop):AE→St→Prop
 | .normal,st=>K.k st
 | .exit id,st=>Q (.exit id) st
 | .ret,st=>Q .ret st
theorem zqT (st:St) (live:List Nat):st.keep live=⟨mkE .top (live.map fun t=>(t,st.env t)),st.heap⟩:=by
 simp only [St.keep,St.mk.injEq,and_true]
 funext t
 induction live with
 | nil=>simp [mkE]
 | cons k live ih =>
  simp only [List.map_cons,mkE]
  by_cases e:k=t
  ·
   subst e; simp
  ·
   rw [if_neg e,← ih]
   simp [Ne.symm e]
/-! ### what a state is behind a spoiling,piece by piece -/
def zjP:List Nat→(Nat→PV)→(List (Nat × PV)→Prop)→Prop
 | [],_,K=>K []
 | t :: ts,e,K=>∀ q,zao (e t) q→zjP ts e fun r=>K ((t,q) :: r)
def zkN:List PV→(List PV→Prop)→Prop
 | [],K=>K []
 | p :: ps,K=>∀ q,zao p q→zkN ps fun r=>K (q :: r)
def zs2 (rows rows':List (List PV)):Prop :=
 rows'.length=rows.length∧∀ (k:Nat) (r r':List PV),rows[k]? = some r→rows'[k]? = some r'→r'.length=r.length∧∀ (j:Nat) (p p':PV),r[j]? = some p→r'[j]? = some p'→zao p p'
def zmB:AObj→(AObj→Prop)→Prop
 | .box cs,K=>zkN cs fun cs'=>K (.box cs')
 | .arr v st ipu T sz rows,K=>∀ rows',zs2 rows rows'→K (.arr v st ipu T sz rows')
 | .gone,K=>K .gone
def zio:List AObj→(List AObj→Prop)→Prop
 | [],K=>K []
 | ob :: H,K=>zmB ob fun ob'=>zio H fun H'=>K (ob' :: H')
theorem zlx {e e':Nat→PV} (h:∀ t,zao (e t) (e' t)):∀ (live:List Nat) {K:List (Nat × PV)→Prop},zjP live e K→K (live.map fun t=>(t,e' t))
 | [],_,hk=>hk
 | t :: ts,_,hk=>zlx h ts (hk _ (h t))
theorem zly:∀ {cs cs':List PV} {K:List PV→Prop},cs'.length=cs.length→(∀ (j:Nat) (p p':PV),cs[j]? = some p→cs'[j]? = some p'→zao p p')→zkN cs K→K cs'
 | [],[],_,_,_,hk=>hk
 | [],_ :: _,_,hl,_,_=>by simp at hl
 | _ :: _,[],_,hl,_,_=>by simp at hl
 | p :: ps,q :: qs,K,hl,h,hk=>zly (cs:=ps) (cs':=qs) (K:=fun r=>K (q :: r)) (by simpa using hl) (fun j a b h1 h2=>h (j + 1) a b (by simpa using h1) (by simpa using h2)) (hk q (h 0 p q rfl rfl))
theorem zqU {ob ob':AObj} {K:AObj→Prop} (h:zf6 ob ob') (hk:zmB ob K):K ob':=by
 cases ob with
 | box cs=>obtain ⟨cs',rfl,h1,h2⟩:=h; exact zly h1 h2 hk
 | arr v st ipu T sz rows=>obtain ⟨rows',rfl,h1,h2⟩:=h; exact hk rows' ⟨h1,h2⟩
 | gone=>have h:ob'=_:=h; subst h; exact hk
theorem zlz:∀ {H H':List AObj} {K:List AObj→Prop},H'.length=H.length→(∀ (id:Nat) ob ob',H[id]? = some ob→H'[id]? = some ob'→zf6 ob ob')→zio H K→K H'
 | [],[],_,_,_,hk=>hk
 | [],_ :: _,_,hl,_,_=>by simp at hl
 | _ :: _,[],_,hl,_,_=>by simp at hl
 | p :: ps,q :: qs,K,hl,h,hk=>zlz (H:=ps) (H':=qs) (K:=fun r=>K (q :: r)) (by simpa using hl) (fun j a b h1 h2=>h (j + 1) a b (by simpa using h1) (by simpa using h2)) (zqU (K:=fun ob'=>zio ps fun H'=>K (ob' :: H')) (h 0 p q rfl rfl) hk)
def zgz:List AObj→Bool
 | []=>true
 | .arr _ st _ _ _ _ :: H=>st && zgz H
 | _ :: H=>zgz H
theorem zlA:∀ {H:List AObj},zgz H=true→∀ (id:Nat) v sto ipu T sz rows,H[id]? = some (.arr v sto ipu T sz rows)→sto=true
 | [],_,id,_,_,_,_,_,_,h=>by simp at h
 | ob :: H,hs,id,v,sto,ipu,T,sz,rows,h=>by
  cases id with
  | zero =>
   simp only [List.getElem?_cons_zero,Option.some.injEq] at h
   subst h
   simp only [zgz,Bool.and_eq_true] at hs
   exact hs.1
  | succ id =>
   refine zlA (H:=H) ?_ id v sto ipu T sz rows (by simpa using h)
   cases ob <;> simp only [zgz,Bool.and_eq_true] at hs
   ·
    exact hs
   ·
    exact hs.2
   ·
    exact hs
section
variable {P:Program} {x:Cx} {nt:Nat}
theorem Zx {K:St→Prop} {Q:AE→St→Prop} {st:St} (h:K st):@zin ⟨K⟩ Q .normal st:=h
theorem zmC {K:BxK} {Q:AE→St→Prop} {i:Nat} {st:St}:@zin K Q (.exit i) st=Q (.exit i) st:=id rfl
theorem zoG {K:BxK} {Q:AE→St→Prop} {st:St}:@zin K Q .ret st=Q .ret st:=id rfl
theorem zfK {a:LC} {l:List LC} {Q:AE→St→Prop} {st:St} (h:W P x nt a (@zin ⟨WL P x nt l Q⟩ Q) st):WL P x nt (a :: l) Q st :=
 W.mono (lc:=a) h fun e st' hq=>by cases e <;> exact hq
theorem zfy:∀ (k:Nat) {l:List LC} {Q:AE→St→Prop} {st:St},zkx P x nt (l.take k) (@zin ⟨WL P x nt (l.drop k) Q⟩ Q) st→WL P x nt l Q st
  | 0,_,_,_,h=>h
  | _ + 1,[],_,_,h=>h
  | k + 1, a :: l, _, _, h => (zaC (lc := a) h).mono fun e st' hq => by
      cases e with
      | normal=>exact zfy k (l:=l) hq
      | exit id=>exact hq
      | ret=>exact hq
theorem zdO {i:Nat} {b:LC} {l:List LC} {Q:AE→St→Prop} {st:St} (h:WL P x nt b.flat (zeg i (@zin ⟨WL P x nt l Q⟩ Q)) st):WL P x nt (.block i b :: l) Q st:=zfK (zks (zi5 h))
theorem zqV {b : LC} {l : List LC} {Q : AE → St → Prop} {st : St} (live : List Nat) (m : Nat) (I : Nat → St → Prop) (n : Nat) (h1 : x.H0.length ≤ m) (h2 : m ≤ st.heap.length) (h0 : I n (st.trim live m))
    (hstep:∀ n st,I n st→WL P x nt b.flat (@zeU ⟨zi3 live m I n⟩ (@zin ⟨WL P x nt l Q⟩ Q)) st):WL P x nt (.loop b :: l) Q st:=zfK (zgb live m I n h1 h2 h0 fun n st hI=>zi5 (hstep n st hI))
theorem zwf {b : LC} {l : List LC} {Q : AE → St → Prop} {st : St} (live : List Nat) (m : Nat) (I : Nat → St → Prop) (n : Nat) (h1 : x.H0.length ≤ m) (h2 : m ≤ st.heap.length) (h0 : I n (st.trim live m))
    (hstep:∀ n st,I n st→W P x nt b (@zeU ⟨zi3 live m I n⟩ (@zin ⟨WL P x nt l Q⟩ Q)) st):WL P x nt (.loop b :: l) Q st:=zfK (zgb live m I n h1 h2 h0 hstep)
theorem zlB {a:LC} {l:List LC} {Q:AE→St→Prop} {st:St} (st':St) (hw:zbk x nt st st') (h:WL P x nt (a :: l) Q st'):WL P x nt (a :: l) Q st:=zhU hw h
theorem zoH {l : List LC} {Q : AE → St → Prop} {a : LC} {d : Option Nat} {v : PV} (live : List Nat) (hd : ∀ t, d = some t → t ∉ live) {st1 st2 : St} (hs : znT st1 st2)
    (h:zjP live st1.env fun E=>zio st1.heap fun H=>WL P x nt (a :: l) Q ⟨mkE .top E,H⟩):WL P x nt (a :: l) Q (st2.put d v st2.heap):=by
  refine zhU (zf4 live) ?_
  rw [zqT]
  obtain ⟨h1,h2,h3⟩:=hs
  have g:=zlz h1 h2 (zlx h3 live h)
  have e:(live.map fun t=>(t,(st2.put d v st2.heap).env t))=live.map fun t=>(t,st2.env t):=by
    refine List.map_congr_left fun t ht=>?_
    simp only [St.put]
    rw [if_neg fun e=>hd t e ht]
  rw [e]
  exact g
def zlC (X:LOpd) (ok:List (List PV)→Prop) (live:List Nat) [K:BxK] (st1:St):Prop :=
 (∃ rows,X.ev st1 = .list rows∧ok rows)∧zgz st1.heap=true∧zjP live st1.env fun E=>zio st1.heap fun H=>K.k ⟨mkE .top E,H⟩
theorem Zo.mono {P:Program} {K K':St→Prop} (hk:∀ st,K st→K' st):∀ (ops:List LOper) (st:St),Zo P ops K st→Zo P ops K' st:=by
 have one:∀ (so:Bool) (o:LOp) (st:St) (K K':PV→List AObj→Prop),(∀ v H,K v H→K' v H)→WOp P so o st K→WOp P so o st K':=by
  intro so o st K K' h hw
  cases o
  case call f args hot=>obtain ⟨r,H',h1,h2⟩:=hw; exact ⟨r,H',h1,h _ _ h2⟩
  case callv X args=>obtain ⟨f,pre,caps,h1,h2,r,H',h3,h4⟩:=hw; exact ⟨f,pre,caps,h1,h2,r,H',h3,h _ _ h4⟩
  case isnil neg X =>
   simp only [WOp] at hw ⊢
   split
   ·
    rename_i e; rw [e] at hw; exact h _ _ hw
   ·
    rename_i rows e; rw [e] at hw; exact fun b hb=>h _ _ (hw b hb)
   ·
    rename_i e1 e2; split at hw
    ·
     rename_i e; exact (e1 e).elim
    ·
     rename_i e; exact (e2 _ e).elim
    ·
     exact hw
  all_goals (obtain ⟨v,H',h1,h2⟩:=hw; exact ⟨v,H',h1,h _ _ h2⟩)
 intro ops
 induction ops with
 | nil=>exact fun st h=>hk st h
 | cons o ops ih =>
  intro st h
  simp only [Zo] at h ⊢
  split
  ·
   rename_i e; rw [e] at h; exact one _ _ _ _ _ (fun v H h=>ih _ h) h
  ·
   rename_i t want e
   rw [e] at h
   dsimp only at h
   split
   ·
    rename_i b hb
    rw [hb] at h
    dsimp only at h
    split
    ·
     rename_i hw; rw [if_pos hw] at h; exact one _ _ _ _ _ (fun v H h=>ih _ h) h
    ·
     rename_i hw; rw [if_neg hw] at h; exact ih _ h
   ·
    rename_i hb; rw [hb] at h; exact ih _ h
   ·
    rename_i e1 e2; split at h
    ·
     rename_i hb; exact (e1 _ hb).elim
    ·
     rename_i hb; exact (e2 hb).elim
    ·
     exact h
theorem zfn:∀ {l:List LOper} {o:LOper},l.getLast? = some o→l=l.dropLast ++ [o]
 | [],_,h=>by simp at h
 | [a],o,h=>by simp at h; subst h; rfl
 | a :: b :: l,o,h=>by
  have:=zfn (l:=b :: l) (o:=o) (by simpa using h)
  rw [List.dropLast_cons_of_ne_nil (by simp),List.cons_append,← this]
theorem zlD {ops : List LOper} {a : LC} {l l0 : List LC} {Q Q0 : AE → St → Prop} {st : St} {d : Option Nat} {f hot : Nat} {so : Bool} {X : LOpd} {ok : List (List PV) → Prop} (live : List Nat) (hsp : zja P f ok) (hS0 : ∀ b o, ¬ x.S0 b o)
    (ho:ops.getLast? = some ⟨d,.call f [X] hot,none,so⟩) (hd:∀ t,d=some t→t ∉ live) (h0:∀ st,WL P x nt (a :: l) Q st→WL P x nt l0 Q0 st)
    (h:Zo P ops.dropLast (@zlC X ok live ⟨WL P x nt (a :: l) Q⟩) st):WL P x nt (.reg none ops :: l0) Q0 st:=by
  refine zfK ?_
  rw [zfn ho]
  refine zsI hsp hS0 (Zo.mono ?_ _ _ h)
  rintro st1 ⟨h1,h2,h3⟩
  exact ⟨h1,zlA h2,fun st2 hs=>h0 _ (zoH live hd hs h3)⟩
theorem zjQ {ops : List LOper} {a : LC} {l : List LC} {Q : AE → St → Prop} {st : St} {d : Option Nat} {f hot : Nat} {so : Bool} {X : LOpd} {ok : List (List PV) → Prop} (live : List Nat) (hsp : zja P f ok) (hS0 : ∀ b o, ¬ x.S0 b o)
    (ho:ops.getLast? = some ⟨d,.call f [X] hot,none,so⟩) (hd:∀ t,d=some t→t ∉ live)
    (h:Zo P ops.dropLast (@zlC X ok live ⟨WL P x nt (a :: l) Q⟩) st):WL P x nt (.reg none ops :: a :: l) Q st:=zlD live hsp hS0 ho hd (fun _ h=>h) h
theorem zjR {ops : List LOper} {a : LC} {l : List LC} {Q Q' : AE → St → Prop} {st : St} {i : Nat} {d : Option Nat} {f hot : Nat} {so : Bool} {X : LOpd} {ok : List (List PV) → Prop} (live : List Nat) (hsp : zja P f ok) (hS0 : ∀ b o, ¬ x.S0 b o)
    (ho:ops.getLast? = some ⟨d,.call f [X] hot,none,so⟩) (hd:∀ t,d=some t→t ∉ live)
    (h:Zo P ops.dropLast (@zlC X ok live ⟨WL P x nt (a :: l) Q⟩) st):WL P x nt [.reg none ops] (zeg i (@zin ⟨WL P x nt (a :: l) Q⟩ Q')) st:=zlD live hsp hS0 ho hd (fun _ h=>h) h
end
theorem zoI (l:List (Nat × PV)) (H:List AObj):znY ⟨mkE .top l,H⟩=⟨mkE .top (l.map fun p=>(p.1,zmk p.2)),H.map zgV⟩:=by
 simp only [znY,St.mk.injEq,and_true]
 funext t
 induction l with
 | nil=>rfl
 | cons p l ih =>
  simp only [mkE,List.map_cons]
  split <;> first | rfl | exact ih
theorem zs3 (l:List (Nat × PV)) (H:List AObj):zxG ⟨mkE .top l,H⟩=⟨mkE .top (l.map fun p=>(p.1,unR p.2)),H.map znW⟩:=by
 simp only [zxG,St.mk.injEq,and_true]
 funext t
 induction l with
 | nil=>rfl
 | cons p l ih =>
  simp only [mkE,List.map_cons]
  split <;> first | rfl | exact ih
theorem zoJ {k:IntKind} {n:Int} {q:PV}:zao (.int k n) q=(q = .int k n):=id rfl
theorem zmD {b:Bool} {q:PV}:zao (.bool b) q=(q = .bool b):=id rfl
theorem zoK {s:ByteArray} {q:PV}:zao (.str s) q=(q = .str s):=id rfl
theorem zkO {q:PV}:zao .nilsl q=(q = .nilsl):=id rfl
theorem zmE {q:PV}:zao .nilp q=(q = .nilp):=id rfl
theorem zoL {q:PV}:zao .top q=(q = .top):=id rfl
theorem zkP {q:PV}:zao .undef q=(q = .undef):=id rfl
theorem zoM {i o:Nat} {q:PV}:zao (.ptr i o) q=(q = .ptr i o):=id rfl
theorem zoN {i v:Nat} {q:PV}:zao (.arr i v) q=(q = .arr i v):=id rfl
theorem zoO {rows:List (List PV)} {q:PV}:zao (.oll rows) q=(q = .oll rows):=id rfl
theorem zoP {cs:List PV} {q:PV}:zao (.olp cs) q=(q = .olp cs):=id rfl
theorem zmF {cs:List PV} {q:PV}:zao (.rptr cs) q=(q = .top):=id rfl
theorem zoQ {cs:List PV} {q:PV}:zao (.agg cs) q=(q = .top):=id rfl
theorem zoR {cs:List PV} {q:PV}:zao (.tup cs) q=(q = .top):=id rfl
theorem zmG {rows:List (List PV)} {q:PV}:zao (.list rows) q=Bl (.list rows) q:=id rfl
theorem zoS {e:Nat→PV} {K:List (Nat × PV)→Prop}:zjP [] e K=K []:=id rfl
theorem zmH {t:Nat} {ts:List Nat} {e:Nat→PV} {K:List (Nat × PV)→Prop}:zjP (t :: ts) e K=∀ q,zao (e t) q→zjP ts e fun r=>K ((t,q) :: r):=id rfl
theorem zoT {K:List PV→Prop}:zkN [] K=K []:=id rfl
theorem zmI {p:PV} {ps:List PV} {K:List PV→Prop}:zkN (p :: ps) K=∀ q,zao p q→zkN ps fun r=>K (q :: r):=id rfl
theorem zoU {cs:List PV} {K:AObj→Prop}:zmB (.box cs) K=zkN cs fun cs'=>K (.box cs'):=id rfl
theorem zoV {v T sz:Nat} {st ipu:Bool} {rows:List (List PV)} {K:AObj→Prop}:zmB (.arr v st ipu T sz rows) K=∀ rows',zs2 rows rows'→K (.arr v st ipu T sz rows'):=id rfl
theorem zmJ {K:AObj→Prop}:zmB .gone K=K .gone:=id rfl
theorem zoW {K:List AObj→Prop}:zio [] K=K []:=id rfl
theorem zmK {ob:AObj} {H:List AObj} {K:List AObj→Prop}:zio (ob :: H) K=zmB ob fun ob'=>zio H fun H'=>K (ob' :: H'):=id rfl
theorem zoX {X:LOpd} {ok:List (List PV)→Prop} {live:List Nat} {K:BxK} {st1:St}:@zlC X ok live K st1=((∃ rows,X.ev st1 = .list rows∧ok rows)∧zgz st1.heap=true∧zjP live st1.env fun E=>zio st1.heap fun H=>K.k ⟨mkE .top E,H⟩):=id rfl
attribute [go_sem] zmC zoG zoJ zmD zoK zkO zmE zoL zkP zoM zoN zoO zoP zmF zoQ zoR zmG zoS zmH zoT zmI zoU zoV zmJ zoW zmK zoX forall_eq List.dropLast_cons₂ List.dropLast_singleton
theorem zoY {α β:Type} {f:α→β} {G:α→Prop}:∀ {rs:List β},(∀ r ∈ rs,∃ y,r=f y∧G y)→∃ l:List α,rs=l.map f∧∀ y ∈ l,G y
 | [],_=>⟨[],rfl,by simp⟩
 | r :: rs,h=>by
  obtain ⟨y,rfl,hy⟩:=h r (by simp)
  obtain ⟨l,rfl,hl⟩:=zoY (rs:=rs) fun q hq=>h q (by simp [hq])
  exact ⟨y :: l,rfl,by simpa using ⟨hy,hl⟩⟩
theorem zlE {α : Type} {f : α → List PV} {P : α → α → Prop} {R : PV → PV → Prop} {l : List α} {rows : List (List PV)} (hl : rows.length = (l.map f).length)
    (hr:∀ (k:Nat) (r r':List PV),(l.map f)[k]? = some r→rows[k]? = some r'→r'.length=r.length∧∀ (j:Nat) (p p':PV),r[j]? = some p→r'[j]? = some p'→R p p')
    (hf:∀ y r,r.length=(f y).length→(∀ (j:Nat) (p p':PV),(f y)[j]? = some p→r[j]? = some p'→R p p')→∃ y',r=f y'∧P y y') :
    ∃ l':List α,l'.length=l.length∧rows=l'.map f∧∀ y' ∈ l',∃ y ∈ l,P y y':=by
  obtain ⟨l',e,h⟩:=zoY (f:=f) (G:=fun y'=>∃ y ∈ l,P y y') (rs:=rows) fun r hr'=>by
    obtain ⟨k,hk,e⟩:=List.getElem_of_mem hr'
    have hk':k < l.length:=by rw [hl] at hk; simpa using hk
    have g1:(l.map f)[k]? = some (f l[k]):=by simp [hk']
    have g2:rows[k]? = some r:=by rw [List.getElem?_eq_getElem hk,e]
    obtain ⟨a,b⟩:=hr k _ _ g1 g2
    obtain ⟨y',e1,e2⟩:=hf _ _ a b
    exact ⟨y',e1,_,List.getElem_mem hk',e2⟩
  refine ⟨l',?_,e,h⟩
  rw [e] at hl
  simpa using hl
theorem zoZ {α : Type} {f : α → List PV} {P : α → α → Prop} {l : List α} {q : PV} (h : Bl (.list (l.map f)) q)
    (hf:∀ y r,r.length=(f y).length→(∀ (j:Nat) (p p':PV),(f y)[j]? = some p→r[j]? = some p'→Bl p p')→∃ y',r=f y'∧P y y') :
    ∃ l':List α,l'.length=l.length∧q = .list (l'.map f)∧∀ y' ∈ l',∃ y ∈ l,P y y':=by
  obtain ⟨rows',rfl,hl,hr,h⟩:=zkB h
  obtain ⟨l',h1,h2,h3⟩:=zlE (R:=Bl) hl (fun k r r' a b=>⟨hr k r r' a b,fun j p p' c d=>h k r r' j p p' a b c d⟩) hf
  exact ⟨l',h1,by rw [h2],h3⟩
theorem zAi {α:Type} {r:List α} (h:r.length=3):∃ a b c,r = [a,b,c]:=by
 match r,h with
 | [a,b,c],_=>exact ⟨a,b,c,rfl⟩
theorem len2 {α:Type} {r:List α} (h:r.length=2):∃ a b,r = [a,b]:=by
 match r,h with
 | [a,b],_=>exact ⟨a,b,rfl⟩
theorem zAE {α:Type} {r:List α} (h:r.length=1):∃ a,r = [a]:=by
 match r,h with
 | [a],_=>exact ⟨a,rfl⟩
theorem zs4 (s:Si) (r:List PV) (hl:r.length=(zp s).length) (h:∀ (j:Nat) (p p':PV),(zp s)[j]? = some p→r[j]? = some p'→Bl p p'):∃ s',r=zp s'∧True:=by
 obtain ⟨a,b,c,rfl⟩:=zAi hl
 obtain ⟨m,rfl⟩:=zhi (h 0 _ _ rfl rfl)
 obtain ⟨l1,-,rfl⟩:=zeq (h 1 _ _ rfl rfl)
 obtain ⟨l2,-,rfl⟩:=zeq (h 2 _ _ rfl rfl)
 exact ⟨(m,l1,l2),rfl,trivial⟩
theorem zqW {ss:List Si} {q:PV} (h:Bl (.list (ss.map zp)) q):∃ ss':List Si,ss'.length=ss.length∧q = .list (ss'.map zp):=by
 obtain ⟨l',h1,h2,-⟩:=zoZ (P:=fun _ _=>True) h zs4
 exact ⟨l',h1,h2⟩
theorem zzS {ys:List (List Entry)} {q:PV} (h:Bl (.list (cYs ys)) q):∃ ys':List (List Entry),ys'.length=ys.length∧q = .list (cYs ys'):=by
 obtain ⟨l',h1,h2,-⟩:=zoZ (P:=fun _ _=>True) (f:=fun y:List Entry => [PV.list (y.map cE)]) h fun y r hl h=>by
  obtain ⟨a,rfl⟩:=zAE hl
  obtain ⟨l1,-,rfl⟩:=zeq (h 0 _ _ rfl rfl)
  exact ⟨l1,rfl,trivial⟩
 exact ⟨l',h1,h2⟩
abbrev Wd:=List Si × List (List Entry)
def zo0 (w:Wd):List PV:=cWd w.1 w.2
def zs5 (ws:List Wd):Prop:=ws.length=3∧∀ w ∈ ws,w.1.length≤2∧w.2.length≤2
theorem zrT {ws:List Wd} {q:PV} (h:Bl (.list (ws.map zo0)) q) (ho:zs5 ws):∃ ws':List Wd,zs5 ws'∧q = .list (ws'.map zo0):=by
 obtain ⟨l',h1,h2,h3⟩:=zoZ (P:=fun w w':Wd=>w'.1.length=w.1.length∧w'.2.length=w.2.length) (f:=zo0) h fun w r hl h=>by
  obtain ⟨a,b,rfl⟩:=len2 hl
  obtain ⟨l1,e1,rfl⟩:=zqW (h 0 _ _ rfl rfl)
  obtain ⟨l2,e2,rfl⟩:=zzS (h 1 _ _ rfl rfl)
  exact ⟨(l1,l2),rfl,e1,e2⟩
 refine ⟨l',⟨h1.trans ho.1,fun w' hw'=>?_⟩,h2⟩
 obtain ⟨w,hw,e1,e2⟩:=h3 w' hw'
 have:=ho.2 w hw
 omega
theorem zcH {ss:List Si} {rows:List (List PV)} (h:zs2 (ss.map zp) rows):∃ ss':List Si,ss'.length=ss.length∧rows=ss'.map zp:=by
 obtain ⟨l',h1,h2,-⟩:=zlE (P:=fun _ _=>True) (R:=zao) h.1 h.2 fun s r hl h=>by
  obtain ⟨a,b,c,rfl⟩:=zAi hl
  have h0:a = .int .i64 s.1:=h 0 _ _ rfl rfl
  subst h0
  obtain ⟨l1,-,rfl⟩:=zjO (h 1 _ _ rfl rfl)
  obtain ⟨l2,-,rfl⟩:=zjO (h 2 _ _ rfl rfl)
  exact ⟨(s.1,l1,l2),rfl,trivial⟩
 exact ⟨l',h1,h2⟩
def rwB:LC:=match (L3.flat[14]? : Option LC) with | some (LC.block _ (LC.loop b))=>b | _=>LC.skip
def rwE (u i:Int):List (Nat × PV) := [(3,.ptr 0 0),(4,.ptr 1 0),(5,.ptr 2 0),(7,.ptr 3 0),(10,.ptr 4 0),(11,.int .i64 u),(12,.ptr 5 0),(13,.int .i64 i)]
def rwH (ss:List Si) (ys:List (List Entry)) (k i n c:Int) (t:ByteArray) (e:Entry) (wx:List Si) (wy:List (List Entry)):List AObj :=
 [.box (cWd ss ys),.box (zo k i n c t),.box (cE e),.box (cWd ss ys),.box (cE e),.box (cWd wx wy)]
def rwO (ss:List Si) (ys:List (List Entry)) (k i n c:Int) (t:ByteArray) (e:Entry) (wx:List Si) (wy:List (List Entry)):List AObj :=
 [.box (zaf ss ys),.box (zo k i n c t),.box (cEo e),.box (zaf ss ys),.box (cEo e),.box (zaf wx wy)]
theorem zqX {x : Cx} (hx : x.H0 = []) (hxo : ∀ b o, ¬ x.C0.old b o) (ss : List Si) (ys : List (List Entry)) (k i n c : Int) (t : ByteArray) (e : Entry) (wx : List Si) (wy : List (List Entry)) (u j : Int) (hj : 0 ≤ j ∧ j < 2)
    (hs:ss.length≤1048576) (hes:zg1 ss) (hey:zkb ys) (hy:ys.length≤1000000000000000) (hee:zck e e=true) {dx sx rx:List Si} {dy sy ry:List (List Entry)} {es:List (List PV)} {vs vr:Int}
    (hdo:zg Tryz.prog 11 [.agg (zaf ss ys),.agg (zo k i n c t)] [] (.tup [.agg (cWd dx dy),.int .i64 u]) [])
    (hse:zg Tryz.prog 13 [.agg (zaf ss ys)] [] (.tup [.agg (cWd sx sy),.int .i64 vs]) [])
    (hru:zg Tryz.prog 14 [.list [zo k i n c t]] [] (.tup [.agg (cWd rx ry),.list es,.int .i64 vr]) [])
    (his:zg Tryz.prog 12 [.agg (cWd dx dy),.int .i64 u,.int .i64 u,.agg (zaf wx wy)] [] (.bool true) [])
    (hok:zs5 [(dx,dy),(sx,sy),(rx,ry)]) :
    W Tryz.prog x 235 rwB (fun q st=>q = .normal∧6≤st.heap.length∧st.trim [3,4,5,7,10,11,12,13] 6=⟨mkE .top (rwE u (j + 1)),rwH ss ys k i n c t e wx wy⟩) ⟨mkE .top (rwE u j),rwH ss ys k i n c t e wx wy⟩:=by
  refine zsK hxo (by intro id ob h; match id,h with | 0,h | 1,h | 2,h | 3,h | 4,h | 5,h=>cases h; trivial | _ + 6,h=>simp [rwH] at h) fun x2 hS2 hH2=>?_
  have hl2:x2.H0.length=6:=by rw [hH2]; simp [rwH]
  rw [zoI]
  refine zi5 ?_
  simp only [rwB,L3,LC.flat,List.cons_append,List.nil_append,List.getElem?_cons_succ,List.getElem?_cons_zero,rwE,rwH,List.map_cons,List.map_nil,zmk,zgV,cWd,zo,cE]
  have hj2:=hj.2
  refine zfy 2 ?_
  simp only [go_sem,hj2]
  refine Zx ?_
  simp only [List.drop_succ_cons,List.drop_zero]
  refine zdO ?_
  simp only [LC.flat,List.cons_append,List.nil_append]
  refine zfy 8 ?_
  simp only [go_sem]
  refine za (.pureE hdo (by simp [go_sem,zaf,zo])) ?_
  simp only [go_sem,cWd]
  refine za (.pureE his (by simp [go_sem,cWd,zaf])) ?_
  simp only [go_sem]
  refine za (.pureE hse (by simp [go_sem,zaf])) ?_
  simp only [go_sem,cWd]
  refine za (.pureE hru (by simp [go_sem,zo])) ?_
  simp only [go_sem,cWd]
  refine Zx ?_
  simp only [List.drop_succ_cons,List.drop_zero]
  refine zlB _ (zbz [3,4,5,7,10,11,12,13,21,22,23] [0,1,2,3,4,5] (by simp) (by simp) (by rw [hl2]; intro i hi; match i,hi with | 0,_ | 1,_ | 2,_ | 3,_ | 4,_ | 5,_=>rfl)) ?_
  rw [zdM]
  simp only [go_sem,zc,zd,ze,zf,pos,List.map_cons,List.map_nil]
  refine zlB _ (ZQ 22 0 36 3 true false rfl (by omega)) ?_
  rw [Zt]
  refine zdO ?_
  simp only [LC.flat,List.cons_append,List.nil_append]
  refine zqV [3,4,5,7,10,11,12,13,21,22,23] 7 (fun m st=>∃ (q v:Nat) (ws:List Wd) (qs:List Si),q + m=ss.length∧zs5 ws∧qs.length=2 * q ∧
    st=⟨mkE .top (rwE u j ++ [(21,.list (ws.map zo0)),(22,.arr 6 v),(23,.int .i64 q)]),rwO ss ys k i n c t e wx wy ++ [.arr v true false 36 3 (qs.map zp)]⟩) ss.length (by rw [hl2]; omega) (by simp) ?_ ?_
  · refine ⟨0,0,[(dx,dy),(sx,sy),(rx,ry)],[],by omega,hok,rfl,?_⟩
    simp [zi,go_sem,zc,zd,ze,zf,pos,List.range_succ,rwE,rwO,zaf,zo,cEo,zo0,cWd]
  · rintro m st ⟨q,v,ws,qs,hq,hws,hqs,rfl⟩
    simp only [rwE,rwO,LC.flat,List.cons_append,List.nil_append,zaf,zo,cEo]
    refine zfy 2 ?_
    by_cases hlt:q < ss.length
    · have hg:ss[q]? = some (nth ss q):=zk _ _ hlt
      have wq:=zD (k:=q) (by omega)
      obtain ⟨l1,l2⟩:=zrS hlt hes
      simp only [go_sem,hlt]
      refine Zx ?_
      simp only [List.drop_succ_cons,List.drop_zero]
      refine zdO ?_
      simp only [LC.flat,List.cons_append,List.nil_append]
      refine zfy 2 ?_
      simp only [go_sem,hlt,hg,zp,cSi]
      refine za (.pureE (zfu (nth ss q).1 (nth ss q).2.1 (nth ss q).2.2 e (by omega) (by omega)) (by simp [go_sem,zae,cEo])) ?_
      simp only [go_sem,hlt,hg,zp,cSi]
      generalize zdf (nth ss q).1 (nth ss q).2.1 (nth ss q).2.2 e=s1
      repeat refine ⟨rfl,?_⟩
      refine za (.pureE (zgp (nth ss q).1 (nth ss q).2.1 (nth ss q).2.2 7 ⟨#[116]⟩ (by omega) (by omega)) (by simp [go_sem,zae])) ?_
      simp only [go_sem,zp,cSi,cE]
      generalize zdd (nth ss q).1 (nth ss q).2.1 (nth ss q).2.2 7 ⟨#[116]⟩=s2
      generalize zde (nth ss q).1 (nth ss q).2.1 (nth ss q).2.2 7 ⟨#[116]⟩=n1
      refine Zx ?_
      simp only [List.drop_succ_cons,List.drop_zero]
      refine zjQ [3,4,5,7,10,11,12,13,21,22,23,24,26] zaF hS2 rfl (by simp) ?_
      simp only [go_sem]
      refine ⟨⟨_,rfl,[n1],by simp [cE]⟩,by simp [zgz],?_⟩
      intro q1 h1 r2 h2 q3 h3 q4 h4 q5 h5 q6 h6 q7 h7
      obtain ⟨ws2,hws2,rfl⟩:=zrT h1 hws
      obtain ⟨qs2,hqs2,rfl⟩:=zcH h2
      obtain ⟨l3,-,rfl⟩:=zeq h3
      obtain ⟨l4,-,rfl⟩:=zeq h4
      obtain ⟨l5,-,rfl⟩:=zeq h5
      obtain ⟨l6,-,rfl⟩:=zeq h6
      obtain ⟨l7,-,rfl⟩:=znV h7
      refine zY ?_
      simp only [go_sem]
      rw [zB rfl rfl (by simp) (by simp; omega)]
      simp only [go_sem]
      refine Zx ?_
      refine zY ?_
      simp only [go_sem,wq]
      refine ⟨by simp,m - 1,by omega,q + 1,v + 1,ws2,qs2 ++ [(s1.1,l3,l4),(s2.1,l5,l6)],by omega,hws2,by simp; omega,?_⟩
      simp [zi,go_sem,zc,zd,ze,zf,pos,List.range_succ,rwE,rwO,zaf,zo,cEo,zp,cSi]
    · obtain rfl:q=ss.length:=by omega
      simp only [go_sem,hlt]
      refine Zx ?_
      refine zfy 3 ?_
      simp only [go_sem]
      refine za (.pureE (zfx ss ys (by omega) (by omega) hes hey) (by simp [go_sem,zaf])) ?_
      simp only [go_sem]
      refine za (.pureE (zfw e) (by simp [go_sem,cEo])) ?_
      simp only [go_sem,hee]
      refine Zx ?_
      simp only [List.drop_succ_cons,List.drop_zero]
      refine zdO ?_
      simp only [LC.flat,List.cons_append,List.nil_append]
      refine zqV [3,4,5,7,10,11,12,13,21,22,29] 7 (fun m st=>∃ (q v:Nat) (ws:List Wd) (qs:List Si),q + m=3∧zs5 ws∧qs.length≤2097152 + 2 * q ∧
        st=⟨mkE .top (rwE u j ++ [(21,.list (ws.map zo0)),(22,.arr 6 v),(29,.int .i64 q)]),rwO ss ys k i n c t e wx wy ++ [.arr v true false 36 3 (qs.map zp)]⟩) 3 (by rw [hl2]; omega) (by simp) ?_ ?_
      · refine ⟨0,v,ws,qs,by omega,hws,by omega,?_⟩
        simp [zi,go_sem,zc,zd,ze,zf,pos,List.range_succ,rwE,rwO,zaf,zo,cEo]
      · clear hws hqs hq hlt ws qs v m
        rintro m st ⟨q,v,ws,qs,hq,hws,hqs,rfl⟩
        simp only [rwE,rwO,LC.flat,List.cons_append,List.nil_append,zaf,zo,cEo]
        have hw3:ws.length=3:=hws.1
        refine zfy 2 ?_
        by_cases hlt:q < 3
        · have hlt2:q < ws.length:=by omega
          have hg:ws[q]? = some (nth ws q):=zk _ _ hlt2
          have wq:=zD (k:=q) (by omega)
          obtain ⟨l1,l2⟩:=hws.2 _ (List.mem_of_getElem? hg)
          simp only [go_sem,hlt2]
          refine Zx ?_
          simp only [List.drop_succ_cons,List.drop_zero]
          refine zdO ?_
          simp only [LC.flat,List.cons_append,List.nil_append]
          refine zfy 2 ?_
          simp only [go_sem,hlt2,hg,zo0,cWd]
          rw [zB rfl rfl (zlt _) (by simp; omega)]
          simp only [go_sem]
          refine Zx ?_
          simp only [List.drop_succ_cons,List.drop_zero]
          refine zdO ?_
          simp only [LC.flat,List.cons_append,List.nil_append]
          refine zqV [3,4,5,7,10,11,12,13,21,22,29,30] 7 (fun m st=>∃ (g:Nat) (ws:List Wd) (qs:List Si),g + m=2∧zs5 ws∧qs.length≤2097152 + 2 * (q + 1) ∧
            st=⟨mkE .top (rwE u j ++ [(21,.list (ws.map zo0)),(22,.arr 6 (v + 1)),(29,.int .i64 q),(30,.int .i64 g)]),rwO ss ys k i n c t e wx wy ++ [.arr (v + 1) true false 36 3 (qs.map zp)]⟩) 2 (by rw [hl2]; omega) (by simp) ?_ ?_
          · refine ⟨0,ws,qs ++ (nth ws q).1,by omega,hws,by simp; omega,?_⟩
            simp [zi,go_sem,zc,zd,ze,zf,pos,List.range_succ,rwE,rwO,zaf,zo,cEo]
          · clear hws hqs hw3 hlt2 hg l1 l2 ws qs
            rintro m2 st ⟨g,ws,qs,hg2,hws,hqs,rfl⟩
            simp only [rwE,rwO,LC.flat,List.cons_append,List.nil_append,zaf,zo,cEo]
            have hlt2:q < ws.length:=by rw [hws.1]; omega
            have hg:ws[q]? = some (nth ws q):=zk _ _ hlt2
            obtain ⟨l1,l2⟩:=hws.2 _ (List.mem_of_getElem? hg)
            refine zfy 2 ?_
            by_cases hlt3:g < (nth ws q).2.length
            · have hy2:(cYs (nth ws q).2)[g]? = some [.list ((nth (nth ws q).2 g).map cE)]:=zil hlt3
              have wg:=zD (k:=g) (by omega)
              simp only [go_sem,hlt2,hg,zo0,cWd,zcp,hlt3]
              refine Zx ?_
              simp only [List.drop_succ_cons,List.drop_zero]
              refine zdO ?_
              simp only [LC.flat,List.cons_append,List.nil_append]
              refine zjR [3,4,5,7,10,11,12,13,21,22,29,30] zaF hS2 rfl (by simp) ?_
              simp only [go_sem,hlt2,hg,zo0,cWd,zcp,hlt3,hy2]
              refine ⟨⟨_,rfl,_,rfl⟩,by simp [zgz],?_⟩
              intro q1 h1 r2 h2
              obtain ⟨ws2,hws2,rfl⟩:=zrT h1 hws
              obtain ⟨qs2,hqs2,rfl⟩:=zcH h2
              refine zY ?_
              simp only [go_sem,wg]
              refine ⟨by simp,m2 - 1,by omega,g + 1,ws2,qs2,by omega,hws2,by omega,?_⟩
              simp [zi,go_sem,zc,zd,ze,zf,pos,List.range_succ,rwE,rwO,zaf,zo,cEo]
            · simp only [go_sem,hlt2,hg,zo0,cWd,zcp,hlt3]
              refine Zx ?_
              refine zY ?_
              simp only [go_sem]
              refine Zx ?_
              refine zY ?_
              simp only [go_sem,wq]
              refine ⟨by simp,m - 1,by omega,q + 1,v + 1,ws,qs,by omega,hws,by omega,?_⟩
              simp [zi,go_sem,zc,zd,ze,zf,pos,List.range_succ,rwE,rwO,zaf,zo,cEo]
        · obtain rfl:q=3:=by omega
          simp only [go_sem,hw3]
          refine Zx ?_
          refine zfy 1 ?_
          simp only [go_sem]
          refine Zx ?_
          simp only [List.drop_succ_cons,List.drop_zero]
          refine zdO ?_
          simp only [LC.flat,List.cons_append,List.nil_append]
          refine zqV [3,4,5,7,10,11,12,13,22,31] 7 (fun m st=>∃ (g:Nat) (qs2:List Si),g + m=qs2.length∧qs2.length≤2097158 ∧
            st=⟨mkE .top (rwE u j ++ [(22,.arr 6 v),(31,.int .i64 g)]),rwO ss ys k i n c t e wx wy ++ [.arr v true false 36 3 (qs2.map zp)]⟩) qs.length (by rw [hl2]; omega) (by simp) ?_ ?_
          · refine ⟨0,qs,by omega,by omega,?_⟩
            simp [zi,go_sem,zc,zd,ze,zf,pos,List.range_succ,rwE,rwO,zaf,zo,cEo]
          · clear hqs qs
            rintro m2 st ⟨g,qs,hg2,hqs,rfl⟩
            simp only [rwE,rwO,LC.flat,List.cons_append,List.nil_append,zaf,zo,cEo]
            refine zfy 2 ?_
            by_cases hlt3:g < qs.length
            · have hg:qs[g]? = some (nth qs g):=zk _ _ hlt3
              have wg:=zD (k:=g) (by omega)
              simp only [go_sem,hlt3]
              refine Zx ?_
              simp only [List.drop_succ_cons,List.drop_zero]
              refine zdO ?_
              simp only [LC.flat,List.cons_append,List.nil_append]
              refine zjQ [3,4,5,7,10,11,12,13,22,31] zaF hS2 rfl (by simp) ?_
              simp only [go_sem,hlt3,hg,zp,cSi]
              refine ⟨⟨_,rfl,_,rfl⟩,by simp [zgz],?_⟩
              intro r2 h2
              obtain ⟨qs2,hqs2,rfl⟩:=zcH (ss:=qs) h2
              have hlt4:g < qs2.length:=by omega
              have hg3:qs2[g]? = some (nth qs2 g):=zk _ _ hlt4
              refine zjR [3,4,5,7,10,11,12,13,22,31] zaF hS2 rfl (by simp) ?_
              simp only [go_sem,hlt4,hg3,zp,cSi]
              refine ⟨⟨_,rfl,_,rfl⟩,by simp [zgz],?_⟩
              intro r3 h3
              obtain ⟨qs3,hqs3,rfl⟩:=zcH (ss:=qs2) h3
              refine zY ?_
              simp only [go_sem,wg]
              refine ⟨by simp,m2 - 1,by omega,g + 1,qs3,by omega,by omega,?_⟩
              simp [zi,go_sem,zc,zd,ze,zf,pos,List.range_succ,rwE,rwO,zaf,zo,cEo]
            · simp only [go_sem,hlt3]
              refine Zx ?_
              refine zY ?_
              simp only [go_sem]
              refine Zx ?_
              refine zY ?_
              simp only [go_sem]
              have wj:IntKind.i64.wrap (j + 1)=j + 1:=by rw [IntKind.wrap_i64]; omega
              rw [zs3,wj]
              refine ⟨by simp,?_⟩
              simp [zi,go_sem,zc,zd,ze,zf,pos,List.range_succ,unR,znW]
theorem zqY {x:Cx} {nt:Nat} {st:St} (id:Nat) {v T sz:Nat} {rows:List (List PV)} (h:st.heap[id]? = some (.arr v true false T sz rows)):zbk x nt st ⟨st.env,st.heap.set id (.arr v true true T sz rows)⟩:=by
 intro a w ⟨⟨C,hr,he⟩,hdf,hs⟩
 obtain ⟨k1,k2⟩:=hr.change (C':=C) (ob' := .arr v true true T sz rows) h (za5 w) rfl (fun _=>rfl) (fun _ _=>⟨rfl,rfl⟩) (.inl ⟨rfl,rfl⟩)
  (fun b o _ hf hb=>by have:=hf hb; simp at this) (fun b o _ _=>rfl) (fun b h => .inl h)
  (fun hm hmp=>by
   obtain ⟨o1,o2,o3,xs,o4,o5⟩:=hr.obj id _ h
   refine ⟨o1,o2,o3,xs,o4,fun k row j p u a b c=>?_⟩
   obtain ⟨e1,e2⟩:=o5 k row j p u a b c
   refine ⟨e1,?_⟩
   simp only [Bool.false_eq_true,if_false,if_true] at e2 ⊢
   exact .pure (hmp _ _ e2))
 exact ⟨⟨C,k1,fun u=>k2 _ _ (he u)⟩,hdf,hs⟩
theorem zs6 (ys:List (List Entry)):∀ row ∈ cYs ys,row.length=1:=fun row h=>by
 obtain ⟨w,-,rfl⟩:=List.mem_map.1 h; rfl
def hCW (w w2:Wo):List AObj := [.arr 2 true false 36 3 (w.ss.map zp),.arr 2 true true 34 1 (cYs w2.ys)]
theorem zM (w:Wo):zg Tryz.prog 62 [.agg (cWo w)] [] (.agg [.arr 0 2,.arr 1 2]) (hCW w w):=by
 refine zg.of_walk Tryz.func62 Tryz.ntmps62 zyw zyx (by simp) fun x hx=>?_
 simp only [go_sem,L62,R62,cWo,cWd]
 rw [zB rfl rfl (zlt _) (by simp [Wo.ss])]
 simp only [go_sem]
 rw [zB rfl rfl (zs6 _) (by simp [cYs,Wo.ys])]
 simp only [go_sem]
 repeat refine ⟨rfl,?_⟩
 refine zt (zqY 3 rfl) ?_
 refine zG [2,3] (by simp) (by simp [hx]) (by simp [hx]) ?_ ?_
 ·
  simp [go_sem,L62,R62,hx,pos]
 ·
  simp [zc,zd,ze,zf,hx,pos,go_sem,hCW,List.range_succ,cYs,Wo.ys]
theorem zbC (l:List Entry) (n:Nat) (hn:n < l.length) (hl:l.length≤1000000):zg Tryz.prog 65 [.list (l.map cE),.int .i64 n] [] (.list ((l.eraseIdx n).map cE)) []:=by
 have h1:List.take n (l.map cE)=(l.take n).map cE:=by rw [List.map_take]
 have h2:List.drop (n + 1) (l.map cE)=(l.drop (n + 1)).map cE:=by rw [List.map_drop]
 have hle:n≤l.length:=by omega
 have hle1:n + 1≤l.length:=by omega
 have wn:=zD (k:=n) (by omega)
 have hrow:(∀ row ∈ List.map cE l,row.length=5)=True:=eq_true (zba l)
 refine zg.of_walk Tryz.func65 Tryz.ntmps65 zyC zyD (by simp) fun x hx=>?_
 simp only [go_sem,L65,R65,h1,h2,hle,hle1,wn,hrow,zq,Int.reduceLT,Int.reduceLE,Int.reduceToNat,Int.reduceAdd,frz,Int.sub_zero,Int.natCast_nonneg]
 have hte:∀ row ∈ (l.take n).map cE,row.length=5:=zba _
 have hdr:∀ row ∈ (l.drop (n + 1)).map cE,row.length=5:=zba _
 rw [zB rfl rfl hte (by simp; omega)]
 simp only [go_sem,L65,R65,h1,h2,hle,hle1,wn,hrow,zq,Int.reduceLT,Int.reduceLE,Int.reduceToNat,Int.reduceAdd,frz,Int.sub_zero,Int.natCast_nonneg]
 have h3:List.take ((l.length:Int) - ((n + 1:Nat):Int)).toNat ((l.drop (n + 1)).map cE)=(l.drop (n + 1)).map cE:=List.take_of_length_le (by simp; omega)
 rw [h3,zB rfl rfl hdr (by simp; omega)]
 have h4:(l.take n).map cE ++ (l.drop (n + 1)).map cE=(l.eraseIdx n).map cE:=by rw [← List.map_append,← List.eraseIdx_eq_take_drop_succ]
 simp only [go_sem,h4]
 repeat refine ⟨rfl,?_⟩
 refine zt (zx 0 rfl) ?_
 refine zb hx ?_
 simp [go_sem,L65,R65,zu,pos,frz]
theorem zkQ (w : Wo) (i : Int) (hi : i = 0 ∨ i = 1) (hs : zL i (w.log i) (w.wts i) = 0) (hB : LogOk (w.log (1 - i))) :
    zg Tryz.prog 61 [.agg (cWo w),.int .i64 i] [] (.tup [.agg (cWo (w.setS i (zcU w i).2)),.int .i64 0]) []:=by
  have hchk:∀ k,∀ e ∈ (w.log (1 - i)).take k,zl e=0:=fun k e he=>hB.mem_chk (List.mem_of_mem_take he)
  have hlen:=hB.len
  rcases hi with rfl | rfl
  · have hB:LogOk w.q:=hB
    have hlen:w.q.length≤40:=hlen
    have hchk:∀ k,∀ e ∈ w.q.take k,zl e=0:=hchk
    have hs:zL 0 w.p w.u=0:=hs
    show zg _ _ _ _ (.tup [.agg (cWo (w.setS 0 (Zs 0 w.q w.p w.u).2)),.int .i64 0]) _
    have k10:IntKind.i64.wrap (1 - 0)=1:=by decide
    refine zg.of_walk Tryz.func61 Tryz.ntmps61 zt2 zt3 (by simp) fun x hx=>?_
    simp only [go_sem,L61,R61,cWo,cWd]
    refine za (.heapE [] (r' := .agg [.arr 2 2,.arr 3 2]) (H' := [.box (cWo w),.box [.nilsl,.nilsl]] ++ hCW w w) (zM w) (by simp) (by simp) (by simp [go_sem,cWo,cWd]) rfl rfl rfl) ?_
    simp only [go_sem,hCW,cWo,cWd,Wo.ss,Wo.ys,zp,cSi,zq,Int.reduceLT,Int.reduceLE,Int.reduceToNat,Int.reduceAdd,frz,List.map_cons,List.map_nil,List.cons_append,List.nil_append,k10]
    refine zr [1,4,6,7,8] 5 (fun m st=>∃ k:Nat,k + m=w.q.length ∧
      st=⟨mkE .top [(1,.int .i64 0),(4,.ptr 1 0),(6,.ptr 4 0),(7,.list (w.q.map cE)),(8,.int .i64 k)],[.box (cWo w),.box [.nilsl,.nilsl]] ++ hCW (w.setS 0 (Zs 0 (w.q.take k) w.p w.u).2) w ++ [.box [.arr 2 2,.arr 3 2]]⟩) w.q.length (by simp [hx]) (by simp [hCW]) ?_ ?_
    · refine ⟨0,by omega,?_⟩
      simp [zi,go_sem,zc,zd,ze,zf,pos,List.range_succ,hCW,cWo,cWd,Wo.ss,Wo.ys,cYs,zp,cSi,Zs,Wo.setS]
    · rintro m st ⟨k,hk,rfl⟩
      have hok:=hchk k
      obtain ⟨a1,a2,-,-⟩:=zbp (w.q.take k) w.p w.u hs hok
      by_cases hlt:k < w.q.length
      · have hg:w.q[k]? = some (nth w.q k):=zk _ _ hlt
        have wk:=zD (k:=k) (by omega)
        have hce:=hB.chk k hlt
        have hst:=zeF (r:=0) (p:=w.p) (u:=w.u) hlt a1
        by_cases hr:(nth w.q k).id.r=0
        · have hst2:w.setS 0 (Zs 0 (w.q.take (k + 1)) w.p w.u).2=w.setS 0 (Zs 0 (w.q.take k) w.p w.u).2:=by rw [hst,Zs,if_pos hr,Zs]
          simp only [go_sem,hlt,hg,cE,hr,hCW,List.cons_append,List.nil_append,wk]
          refine ⟨by simp [hCW],m - 1,by omega,k + 1,by omega,?_⟩
          rw [hst2]
          simp [zi,go_sem,zc,zd,ze,zf,pos,List.range_succ,hCW,cWo,cWd,Wo.ss,Wo.ys,cYs,zp,cSi]
        · obtain ⟨r1,-,-,-,-,-,-⟩:=zjH a2 hce hr
          obtain ⟨-,s2,s3,s4,s5,s6,-,-⟩:=zcf a2
          have hrc:=zbW 0 (Zs 0 (w.q.take k) w.p w.u).2.1 (Zs 0 (w.q.take k) w.p w.u).2.2 (nth w.q k) s2 s3 s4 s5 s6 (Zg hce)
          have hst2:Zs 0 (w.q.take (k + 1)) w.p w.u=(0,(zas 0 (Zs 0 (w.q.take k) w.p w.u).2.1 (Zs 0 (w.q.take k) w.p w.u).2.2 (nth w.q k)).2):=by
            rw [hst,Zs,if_neg hr,if_pos r1,Zs]
          rw [r1,zeE r1] at hrc
          obtain ⟨TT,hTT⟩:∃ TT,Zs 0 (w.q.take (k + 1)) w.p w.u=TT:=⟨_,rfl⟩
          rw [hTT] at hst2
          generalize (zas 0 (Zs 0 (w.q.take k) w.p w.u).2.1 (Zs 0 (w.q.take k) w.p w.u).2.2 (nth w.q k)).2=T at *
          generalize (Zs 0 (w.q.take k) w.p w.u).2=T0 at *
          obtain ⟨t1,t2⟩:=T0
          obtain ⟨u1,u2⟩:=T
          simp only at hrc
          simp only [go_sem,hlt,hg,cE,hr,hCW,Wo.ss,Wo.setS,zp,cSi,zq,Int.reduceLT,Int.reduceLE,Int.reduceToNat,Int.reduceAdd,frz,List.map_cons,List.map_nil,List.cons_append,List.nil_append]
          refine za (.pureE hrc (by simp [go_sem,cSi,cE])) ?_
          simp only [go_sem,zq,Int.reduceLT,Int.reduceLE,Int.reduceToNat,Int.reduceAdd,frz,zp,cSi,wk]
          repeat refine ⟨rfl,?_⟩
          try simp only [go_sem,zq,Int.reduceLT,Int.reduceLE,Int.reduceToNat,Int.reduceAdd,frz,wk]
          refine ⟨by simp [hCW],m - 1,by omega,k + 1,by omega,?_⟩
          rw [hTT,hst2]
          simp [zi,go_sem,zc,zd,ze,zf,pos,List.range_succ,hCW,cWo,cWd,Wo.ss,Wo.ys,Wo.setS,cYs,zp,cSi]
      · have htk:w.q.take k=w.q:=List.take_of_length_le (by omega)
        rw [htk]
        simp only [go_sem,hlt,hCW,List.cons_append,List.nil_append]
        refine zt (zx 2 rfl) ?_
        refine zt (Z6 3 rfl rfl (by simp [frz,PV.isPure,cYs,Wo.ys])) ?_
        refine zb hx ?_
        simp [go_sem,L61,R61,cWo,cWd,Wo.ys,Wo.setS,zu,pos,frz,cYs]
        rfl
  · have hB:LogOk w.p:=hB
    have hlen:w.p.length≤40:=hlen
    have hchk:∀ k,∀ e ∈ w.p.take k,zl e=0:=hchk
    have hs:zL 1 w.q w.v=0:=hs
    show zg _ _ _ _ (.tup [.agg (cWo (w.setS 1 (Zs 1 w.p w.q w.v).2)),.int .i64 0]) _
    have k10:IntKind.i64.wrap (1 - 1)=0:=by decide
    refine zg.of_walk Tryz.func61 Tryz.ntmps61 zt2 zt3 (by simp) fun x hx=>?_
    simp only [go_sem,L61,R61,cWo,cWd]
    refine za (.heapE [] (r' := .agg [.arr 2 2,.arr 3 2]) (H' := [.box (cWo w),.box [.nilsl,.nilsl]] ++ hCW w w) (zM w) (by simp) (by simp) (by simp [go_sem,cWo,cWd]) rfl rfl rfl) ?_
    simp only [go_sem,hCW,cWo,cWd,Wo.ss,Wo.ys,zp,cSi,zq,Int.reduceLT,Int.reduceLE,Int.reduceToNat,Int.reduceAdd,frz,List.map_cons,List.map_nil,List.cons_append,List.nil_append,k10]
    refine zr [1,4,6,7,8] 5 (fun m st=>∃ k:Nat,k + m=w.p.length ∧
      st=⟨mkE .top [(1,.int .i64 1),(4,.ptr 1 0),(6,.ptr 4 0),(7,.list (w.p.map cE)),(8,.int .i64 k)],[.box (cWo w),.box [.nilsl,.nilsl]] ++ hCW (w.setS 1 (Zs 1 (w.p.take k) w.q w.v).2) w ++ [.box [.arr 2 2,.arr 3 2]]⟩) w.p.length (by simp [hx]) (by simp [hCW]) ?_ ?_
    · refine ⟨0,by omega,?_⟩
      simp [zi,go_sem,zc,zd,ze,zf,pos,List.range_succ,hCW,cWo,cWd,Wo.ss,Wo.ys,cYs,zp,cSi,Zs,Wo.setS]
    · rintro m st ⟨k,hk,rfl⟩
      have hok:=hchk k
      obtain ⟨a1,a2,-,-⟩:=zbp (w.p.take k) w.q w.v hs hok
      by_cases hlt:k < w.p.length
      · have hg:w.p[k]? = some (nth w.p k):=zk _ _ hlt
        have wk:=zD (k:=k) (by omega)
        have hce:=hB.chk k hlt
        have hst:=zeF (r:=1) (p:=w.q) (u:=w.v) hlt a1
        by_cases hr:(nth w.p k).id.r=1
        · have hst2:w.setS 1 (Zs 1 (w.p.take (k + 1)) w.q w.v).2=w.setS 1 (Zs 1 (w.p.take k) w.q w.v).2:=by rw [hst,Zs,if_pos hr,Zs]
          simp only [go_sem,hlt,hg,cE,hr,hCW,List.cons_append,List.nil_append,wk]
          refine ⟨by simp [hCW],m - 1,by omega,k + 1,by omega,?_⟩
          rw [hst2]
          simp [zi,go_sem,zc,zd,ze,zf,pos,List.range_succ,hCW,cWo,cWd,Wo.ss,Wo.ys,cYs,zp,cSi]
        · obtain ⟨r1,-,-,-,-,-,-⟩:=zjH a2 hce hr
          obtain ⟨-,s2,s3,s4,s5,s6,-,-⟩:=zcf a2
          have hrc:=zbW 1 (Zs 1 (w.p.take k) w.q w.v).2.1 (Zs 1 (w.p.take k) w.q w.v).2.2 (nth w.p k) s2 s3 s4 s5 s6 (Zg hce)
          have hst2:Zs 1 (w.p.take (k + 1)) w.q w.v=(0,(zas 1 (Zs 1 (w.p.take k) w.q w.v).2.1 (Zs 1 (w.p.take k) w.q w.v).2.2 (nth w.p k)).2):=by
            rw [hst,Zs,if_neg hr,if_pos r1,Zs]
          rw [r1,zeE r1] at hrc
          obtain ⟨TT,hTT⟩:∃ TT,Zs 1 (w.p.take (k + 1)) w.q w.v=TT:=⟨_,rfl⟩
          rw [hTT] at hst2
          generalize (zas 1 (Zs 1 (w.p.take k) w.q w.v).2.1 (Zs 1 (w.p.take k) w.q w.v).2.2 (nth w.p k)).2=T at *
          generalize (Zs 1 (w.p.take k) w.q w.v).2=T0 at *
          obtain ⟨t1,t2⟩:=T0
          obtain ⟨u1,u2⟩:=T
          simp only at hrc
          simp only [go_sem,hlt,hg,cE,hr,hCW,Wo.ss,Wo.setS,zp,cSi,zq,Int.reduceLT,Int.reduceLE,Int.reduceToNat,Int.reduceAdd,frz,List.map_cons,List.map_nil,List.cons_append,List.nil_append]
          refine za (.pureE hrc (by simp [go_sem,cSi,cE])) ?_
          simp only [go_sem,zq,Int.reduceLT,Int.reduceLE,Int.reduceToNat,Int.reduceAdd,frz,zp,cSi,wk]
          repeat refine ⟨rfl,?_⟩
          try simp only [go_sem,zq,Int.reduceLT,Int.reduceLE,Int.reduceToNat,Int.reduceAdd,frz,wk]
          refine ⟨by simp [hCW],m - 1,by omega,k + 1,by omega,?_⟩
          rw [hTT,hst2]
          simp [zi,go_sem,zc,zd,ze,zf,pos,List.range_succ,hCW,cWo,cWd,Wo.ss,Wo.ys,Wo.setS,cYs,zp,cSi]
      · have htk:w.p.take k=w.p:=List.take_of_length_le (by omega)
        rw [htk]
        simp only [go_sem,hlt,hCW,List.cons_append,List.nil_append]
        refine zt (zx 2 rfl) ?_
        refine zt (Z6 3 rfl rfl (by simp [frz,PV.isPure,cYs,Wo.ys])) ?_
        refine zb hx ?_
        simp [go_sem,L61,R61,cWo,cWd,Wo.ys,Wo.setS,zu,pos,frz,cYs]
        rfl
end Go.Proofs.YtkcahmbcpkjpiaaGreatDoor
