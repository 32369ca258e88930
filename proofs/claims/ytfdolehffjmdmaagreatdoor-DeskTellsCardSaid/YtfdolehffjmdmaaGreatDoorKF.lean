/- Joined texts of this claim: V5 V6 V7 V8 V9 V10 V11 V12 J5 F1. -/
import Derived.Test.YtfdolehffjmdmaaGreatDoorKE
import Derived.Test.YtfdolehffjmdmaaGreatDoorKC
import Derived.Test.YtfdolehffjmdmaaGreatDoorKD
set_option linter.unusedSimpArgs false
set_option linter.unusedVariables false
set_option linter.unusedSectionVars false
/- Worlds: what is wrong with a world,in both texts' words: contracts. -/
namespace Go.Proofs.YtfdolehffjmdmaaGreatDoor
set_option linter.unusedSimpArgs false
set_option linter.unusedVariables false
open Go.RowKit
theorem listV2 {α:Type} {l:List α} (h:l.length=2):∃ a b,l = [a,b]:=by
 match l,h with
 | [a,b],_=>exact ⟨a,b,rfl⟩
def okYs (ys:List (List Entry)):Prop:=∀ l ∈ ys,l.length≤1000000000000000
theorem nthY {ys:List (List Entry)} {k:Nat} (h:k < ys.length) (ho:okYs ys):(nth ys k).length≤1000000000000000:=ho _ (by rw [nth_eq _ _ h]; exact List.getElem_mem h)
theorem ste_ok {ss:List Si} {k:Nat} (h:steE ss k=0):siErr (nth ss k).1 (nth ss k).2.1 (nth ss k).2.2=0∧(nth ss k).1=(k:Int):=by
 unfold steE at h
 split at h
 ·
  split at h
  ·
   exact ⟨‹_›,‹_›⟩
  ·
   cases h
 ·
  exact (‹¬ _› h).elim
theorem strange_meets (ss:List Si) (ys:List (List Entry)) (e:Entry) (h2:ss.length=2) (ho:okSs ss) (he:e.id.r=0∨e.id.r=1):Meets Tryz.prog 117 [.agg (cE e),.rptr (cWd ss ys)] [] (.bool (!bornB ss e)) []:=by
 refine Meets.of_walk Tryz.func117 Tryz.ntmps117 low117 res117 (by simp) fun x hx=>?_
 simp only [go_sem,L117,R117,cE,cWd]
 refine ops_call (.pureE (born_meets ss ys e h2 ho he) (by simp [go_sem,cE,cWd])) ?_
 simp only [go_sem]
 refine ret_pure hx ?_
 simp [go_sem,L117,R117]
theorem contS_meets (ss : List Si) (ys : List (List Entry)) (l : List Entry) (h2 : ss.length = 2) (ho : okSs ss) (hl : l.length ≤ 1000000000000000) (he : ∀ e ∈ l, e.id.r = 0 ∨ e.id.r = 1) :
    Meets Tryz.prog 119 [.list (l.map cE),.clo 117 [.rptr (cWd ss ys)]] [] (.bool (l.any fun e => !bornB ss e)) [] :=
  contFE_meets l 117 [.rptr (cWd ss ys)] [] (fun e => !bornB ss e) (by kernel_rfl) (by omega) ⟨by simp [renLeaf],by simp [ren,renCell,renLeaf],by simp [subHeap],by simp [merge],by simp [subHeap]⟩
    fun e hm=>strange_meets ss ys e h2 ho (he e hm)
def strTo (ss:List Si) (k:Nat):Bool:=(ss.take k).any (strB ss)
theorem strTo_succ {ss:List Si} {k:Nat} (h:k < ss.length):strTo ss (k + 1)=(strTo ss k || strB ss (nth ss k)):=by
 unfold strTo
 rw [List.take_succ_eq_append_getElem h,List.any_append,← nth_eq _ _ h]; simp
theorem strTo_two {ss:List Si} (h:ss.length=2):strTo ss 2=(strB ss (nth ss 0) || strB ss (nth ss 1)):=by
 obtain ⟨a,b,rfl⟩:=listV2 h
 simp [strTo]; rfl
theorem strTo_hit {ss:List Si} {k n:Nat} (hk:k < n) (hn:n≤ss.length) (h:strB ss (nth ss k)=true):strTo ss n=true:=by
 unfold strTo
 rw [List.any_eq_true]
 refine ⟨nth ss k,?_,h⟩
 rw [nth_eq _ _ (by omega),List.mem_take_iff_getElem]
 exact ⟨k,by omega,rfl⟩
set_option maxRecDepth 10000 in
set_option maxHeartbeats 4000000 in
theorem worldCheck_meets (ss:List Si) (ys:List (List Entry)) (hs:ss.length≤1000000000000000) (hy:ys.length≤1000000000000000) (ho:okSs ss) (hoy:okYs ys):Meets Tryz.prog 69 [.agg (cWd ss ys)] [] (.int .i64 (woErr ss ys)) []:=by
 refine Meets.of_walk Tryz.func69 Tryz.ntmps69 low69 res69 (by simp) fun x hx=>?_
 by_cases h1:(ss.length:Int)=2
 ·
  by_cases h2:(ys.length:Int)=2
  ·
   have s2:ss.length=2:=by omega
   have y2:ys.length=2:=by omega
   have e1:woErr ss ys=if firstNZ (steE ss) 2≠0 then firstNZ (steE ss) 2 else if firstNZ (fun i=>wayErr ss (nth ys i)) 2≠0 then firstNZ (fun i=>wayErr ss (nth ys i)) 2 else if strTo ss 2=true then 4 else 0:=by rw [woErr,if_neg (by simp [s2,y2]),strTo_two s2]
   have hyl:(cYs ys).length=ys.length:=by simp [cYs]
   simp only [go_sem,L69,R69,cWd,h1,h2,hyl]
   refine loop_inv [1,23,24,25] 1 (fun m st=>∃ k:Nat,k + m=2∧firstNZ (steE ss) k=0 ∧
    st=⟨mkE .top [(1,.ptr 0 0),(23,.list (ss.map cSi3)),(24,.int .i64 2),(25,.int .i64 k)],[.box (cWd ss ys)]⟩) 2 (by simp [hx]) (by simp) ?_ ?_
   ·
    refine ⟨0,by omega,rfl,?_⟩
    simp [trim_mk,go_sem,subHeap,renObj,pos,List.range_succ,cWd]
   ·
    rintro m st ⟨k,hk,hz,rfl⟩
    by_cases hk2:(k:Int) < 2
    ·
     have hlt:k < ss.length:=by omega
     have hg:ss[k]? = some (nth ss k):=nth_get? _ _ hlt
     have wk:=i64_up (k:=k) (by omega)
     obtain ⟨l1,l2⟩:=nthS hlt ho
     have fin:∀ q:Int,steE ss k=q→q≠0→woErr ss ys=q:=fun q h3 h4=>by rw [e1,firstNZ_hit hz (by rw [h3]; exact h4) (by omega:k < 2),h3,if_pos h4]
     simp only [go_sem,hk2,hlt,hg,cSi3,cSi,cWd]
     refine ops_call (.pureE (siCheck_meets (nth ss k).1 (nth ss k).2.1 (nth ss k).2.2 (by omega) (by omega)) (by simp [go_sem,cSi])) ?_
     by_cases h3:siErr (nth ss k).1 (nth ss k).2.1 (nth ss k).2.2=0
     ·
      by_cases h4:(nth ss k).1=(k:Int)
      ·
       have h5:steE ss k=0:=by rw [steE,if_pos h3,if_pos h4]
       simp only [go_sem,h3]
       simp only [go_sem,h4,wk]
       refine ⟨by simp,m - 1,by omega,k + 1,by omega,firstNZ_succ hz h5,?_⟩
       simp [trim_mk,go_sem,subHeap,renObj,pos,List.range_succ,cWd]
      ·
       have h5:steE ss k=4:=by rw [steE,if_pos h3,if_neg h4]
       simp only [go_sem,h3]
       simp only [go_sem,h4]
       refine ret_pure hx ?_
       simp [go_sem,L69,R69,fin 4 h5 (by decide)]
     ·
      have h5:steE ss k=siErr (nth ss k).1 (nth ss k).2.1 (nth ss k).2.2:=by rw [steE,if_neg h3]
      simp only [go_sem,h3]
      refine ret_pure hx ?_
      simp [go_sem,L69,R69,fin _ h5 h3]
    ·
     obtain rfl:k=2:=by omega
     have hst:∀ j,j < 2→steE ss j=0:=firstNZ_zero.1 hz
     have e2:woErr ss ys=if firstNZ (fun i=>wayErr ss (nth ys i)) 2≠0 then firstNZ (fun i=>wayErr ss (nth ys i)) 2 else if strTo ss 2=true then 4 else 0:=by rw [e1,if_neg (by simp [hz])]
     simp only [go_sem,hk2,cWd,hyl,h2]
     refine loop_inv [1,41,42,43] 1 (fun m st=>∃ k:Nat,k + m=2∧firstNZ (fun i=>wayErr ss (nth ys i)) k=0 ∧
      st=⟨mkE .top [(1,.ptr 0 0),(41,.list (cYs ys)),(42,.int .i64 2),(43,.int .i64 k)],[.box (cWd ss ys)]⟩) 2 (by simp [hx]) (by simp) ?_ ?_
     ·
      refine ⟨0,by omega,rfl,?_⟩
      simp [trim_mk,go_sem,subHeap,renObj,pos,List.range_succ,cWd]
     ·
      rintro m st ⟨k,hk,hz2,rfl⟩
      by_cases hk2:(k:Int) < 2
      ·
       have hlt:k < ys.length:=by omega
       have hg:(cYs ys)[k]? = some [.list ((nth ys k).map cE)]:=by unfold cYs; rw [List.getElem?_map,nth_get? _ _ hlt]; rfl
       have wk:=i64_up (k:=k) (by omega)
       have l1:=nthY hlt hoy
       have hkl:k < (cYs ys).length:=by omega
       have fin:∀ q:Int,wayErr ss (nth ys k)=q→q≠0→woErr ss ys=q:=fun q h3 h4=>by rw [e2,firstNZ_hit hz2 (by simp only [h3]; exact h4) (by omega:k < 2)]; simp only [h3]; rw [if_pos h4]
       simp only [go_sem,hk2,hkl,hg,cWd]
       refine ops_call (.pureE (way_meets ss ys (nth ys k) s2 ho l1) (by simp [go_sem,cWd])) ?_
       by_cases h3:wayErr ss (nth ys k)=0
       ·
        simp only [go_sem,h3,wk]
        refine ⟨by simp,m - 1,by omega,k + 1,by omega,firstNZ_succ hz2 h3,?_⟩
        simp [trim_mk,go_sem,subHeap,renObj,pos,List.range_succ,cWd]
       ·
        simp only [go_sem,h3]
        refine ret_pure hx ?_
        simp [go_sem,L69,R69,fin _ rfl h3]
      ·
       obtain rfl:k=2:=by omega
       have e3:woErr ss ys=if strTo ss 2=true then 4 else 0:=by rw [e2,if_neg (by simp [hz2])]
       simp only [go_sem,hk2,cWd,h1]
       refine loop_inv [9,56,57,58] 1 (fun m st=>∃ k:Nat,k + m=2∧strTo ss k=false ∧
        st=⟨mkE .top [(9,.clo 117 [.ptr 0 0]),(56,.list (ss.map cSi3)),(57,.int .i64 2),(58,.int .i64 k)],[.box (cWd ss ys)]⟩) 2 (by simp [hx]) (by simp) ?_ ?_
       ·
        refine ⟨0,by omega,rfl,?_⟩
        simp [trim_mk,go_sem,subHeap,renObj,pos,List.range_succ,cWd]
       ·
        rintro m st ⟨k,hk,hz3,rfl⟩
        by_cases hk2:(k:Int) < 2
        ·
         have hlt:k < ss.length:=by omega
         have hg:ss[k]? = some (nth ss k):=nth_get? _ _ hlt
         have wk:=i64_up (k:=k) (by omega)
         obtain ⟨l1,l2⟩:=nthS hlt ho
         have hreg:=si_reg (ste_ok (hst k (by omega))).1
         have hsB:strB ss (nth ss k)=(((nth ss k).2.1.any fun e => !bornB ss e) || ((nth ss k).2.2.any fun e => !bornB ss e)):=rfl
         have fin:strB ss (nth ss k)=true→woErr ss ys=4:=fun h=>by rw [e3,if_pos (strTo_hit (by omega:k < 2) (by omega) h)]
         simp only [go_sem,hk2,hlt,hg,cSi3,cSi,cWd]
         refine ops_call (.lookE (contS_meets ss ys (nth ss k).2.1 s2 ho (by omega) fun e he=>hreg e (.inl he)) rfl (by simp [lookF,lookN,go_sem,frzAt,pos,cWd])) ?_
         cases h3:(nth ss k).2.1.any fun e => !bornB ss e
         ·
          simp only [go_sem,cSi3,cSi,cWd]
          refine ops_call (.lookE (contS_meets ss ys (nth ss k).2.2 s2 ho (by omega) fun e he=>hreg e (.inr he)) rfl (by simp [lookF,lookN,go_sem,frzAt,pos,cWd])) ?_
          cases h4:(nth ss k).2.2.any fun e => !bornB ss e
          ·
           have h5:strB ss (nth ss k)=false:=by rw [hsB,h3,h4]; rfl
           simp only [go_sem,wk]
           refine ⟨by simp,m - 1,by omega,k + 1,by omega,by rw [strTo_succ hlt,hz3,h5]; rfl,?_⟩
           simp [trim_mk,go_sem,subHeap,renObj,renCell,renLeaf,pos,List.range_succ,cWd]
          ·
           have h5:strB ss (nth ss k)=true:=by rw [hsB,h4,Bool.or_true]
           simp only [go_sem]
           refine ret_pure hx ?_
           simp [go_sem,L69,R69,fin h5]
         ·
          have h5:strB ss (nth ss k)=true:=by rw [hsB,h3,Bool.true_or]
          simp only [go_sem]
          refine ret_pure hx ?_
          simp [go_sem,L69,R69,fin h5]
        ·
         obtain rfl:k=2:=by omega
         have e4:woErr ss ys=0:=by rw [e3,if_neg (by simp [hz3])]
         simp only [go_sem,hk2]
         refine ret_pure hx ?_
         simp [go_sem,L69,R69,e4]
  ·
   have e1:woErr ss ys=1:=by rw [woErr,if_pos (by omega)]
   have hyl:(cYs ys).length=ys.length:=by simp [cYs]
   simp only [go_sem,L69,R69,cWd,h1,h2,hyl]
   refine ret_pure hx ?_
   simp [go_sem,L69,R69,e1]
 ·
  have e1:woErr ss ys=1:=by rw [woErr,if_pos (by omega)]
  simp only [go_sem,L69,R69,cWd,h1]
  refine ret_pure hx ?_
  simp [go_sem,L69,R69,e1]
end Go.Proofs.YtfdolehffjmdmaaGreatDoor
/- Worlds: what comes to a site,what is sent,what is taken,all that comes: contracts of a doer's steps. -/
namespace Go.Proofs.YtfdolehffjmdmaaGreatDoor
set_option linter.unusedSimpArgs false
set_option linter.unusedVariables false
open Go.RowKit
def hWo (vs vy va vb:Nat) (w:Wo):List AObj := [.box [.arr 1 vs,.arr 2 vy],.arr vs true false 49 3 (w.ss.map cSi3),.arr vy true true 22 1 [[.arr 3 va],[.arr 4 vb]],.arr va true false 46 5 (w.a.map cE),.arr vb true false 46 5 (w.b.map cE)]
def recW (w:Wo) (i:Int) (e:Entry):Wo:=if rcErr i (w.log i) (w.wts i) e=0 then w.setS i (rcSi i (w.log i) (w.wts i) e).2 else w
theorem rcSi_one {r:Int} {p u:List Entry} {e:Entry} (h:rcErr r p u e=0):rcSi r p u e=(r,(rcSi r p u e).2):=by
 unfold rcSi
 by_cases h1:0≤findE p e.id∨0≤findE u e.id
 ·
  rw [if_pos h1]
 ·
  rw [if_neg h1,if_pos h]
theorem si_pre {r:Int} {p u:List Entry} (h:siErr r p u=0):(r=0∨r=1)∧p.length≤1000∧u.length≤1000∧fitE p∧fitE u∧upE u∧LogOk p∧u.length≤20:=by
 obtain ⟨a,b,c,d,-⟩:=siErr_iff.1 h
 have:=b.len
 exact ⟨a,by omega,by omega,log_fit b,fun e he=>check_fit (d.chk e he),d.up,b,c⟩
set_option maxHeartbeats 4000000 in
theorem receive_meets (vs vy va vb : Nat) (w : Wo) (i : Int) (e : Entry) (hs : siErr i (w.log i) (w.wts i) = 0) (hc : checkEntry e = 0) :
    Meets Tryz.prog 124 [.ptr 0 0,.int .i64 i,.agg (cE e)] (hWo vs vy va vb w) (.int .i64 (rcErr i (w.log i) (w.wts i) e)) (hWo vs vy va vb (recW w i e)):=by
  obtain ⟨s1,s2,s3,s4,s5,s6,-,-⟩:=si_pre hs
  rcases s1 with rfl | rfl
  · skip
    have hp:=siRaw_meets 0 w.p w.u e s2 s3 s4 s5 s6 (check_fit hc)
    refine Meets.of_walk Tryz.func124 Tryz.ntmps124 low124 res124 (by simp) fun x hx=>?_
    by_cases h0:rcErr 0 w.p w.u e=0
    · obtain ⟨A,U,hAU⟩:∃ A U,rcSi 0 w.p w.u e=(0,A,U):=⟨_,_,rcSi_one h0⟩
      have hw:recW w 0 e = { w with p:=A,u:=U }:=by rw [recW]; show (if rcErr 0 w.p w.u e=0 then _ else _)=_; rw [if_pos h0]; show Wo.setS w 0 (rcSi 0 w.p w.u e).2=_; rw [hAU]; rfl
      have he:rcErr 0 (w.log 0) (w.wts 0) e=0:=h0
      rw [hw,he]
      rw [hAU,h0] at hp
      simp only [go_sem,L124,R124,hWo,Wo.ss,cSi3,cSi,cE,intS,Int.reduceLT,Int.reduceLE,Int.reduceToNat,Int.reduceAdd,frz,List.map_cons,List.map_nil]
      refine ops_call (.pureE hp (by simp [go_sem,cSi,cE])) ?_
      simp only [go_sem,hWo,Wo.ss,cSi3,cSi,cE,intS,Int.reduceLT,Int.reduceLE,Int.reduceToNat,Int.reduceAdd,frz,List.map_cons,List.map_nil]
      repeat refine ⟨rfl,?_⟩
      try simp only [go_sem,hWo,Wo.ss,cSi3,cSi,cE,intS,Int.reduceLT,Int.reduceLE,Int.reduceToNat,Int.reduceAdd,frz,List.map_cons,List.map_nil]
      repeat refine ⟨rfl,?_⟩
      refine end_keep [] (by simp) (by simp) (by simp [hx,hWo]) ?_ ?_
      · simp [go_sem,L124,R124,hx,pos,hWo]
      · simp [subHeap,renObj,hx,pos,go_sem,hWo,List.range_succ,Wo.ss,cSi3,cSi]
    · obtain ⟨S,hS⟩:∃ S,rcSi 0 w.p w.u e=S:=⟨_,rfl⟩
      obtain ⟨s1',A,U⟩:=S
      have hw:recW w 0 e=w:=by rw [recW]; show (if rcErr 0 w.p w.u e=0 then _ else _)=_; rw [if_neg h0]
      have he:rcErr 0 (w.log 0) (w.wts 0) e=rcErr 0 w.p w.u e:=rfl
      rw [hw,he]
      rw [hS] at hp
      simp only [go_sem,L124,R124,hWo,Wo.ss,cSi3,cSi,cE,intS,Int.reduceLT,Int.reduceLE,Int.reduceToNat,Int.reduceAdd,frz,List.map_cons,List.map_nil]
      refine ops_call (.pureE hp (by simp [go_sem,cSi,cE])) ?_
      simp only [go_sem,hWo,Wo.ss,cSi3,cSi,cE,intS,Int.reduceLT,Int.reduceLE,Int.reduceToNat,Int.reduceAdd,frz,List.map_cons,List.map_nil,h0]
      repeat refine ⟨rfl,?_⟩
      try simp only [go_sem,h0]
      refine end_keep [] (by simp) (by simp) (by simp [hx,hWo]) ?_ ?_
      · simp [go_sem,L124,R124,hx,pos,hWo]
      · simp [subHeap,renObj,hx,pos,go_sem,hWo,List.range_succ,Wo.ss,cSi3,cSi]
  · skip
    have hp:=siRaw_meets 1 w.q w.v e s2 s3 s4 s5 s6 (check_fit hc)
    refine Meets.of_walk Tryz.func124 Tryz.ntmps124 low124 res124 (by simp) fun x hx=>?_
    by_cases h0:rcErr 1 w.q w.v e=0
    · obtain ⟨A,U,hAU⟩:∃ A U,rcSi 1 w.q w.v e=(1,A,U):=⟨_,_,rcSi_one h0⟩
      have hw:recW w 1 e = { w with q:=A,v:=U }:=by rw [recW]; show (if rcErr 1 w.q w.v e=0 then _ else _)=_; rw [if_pos h0]; show Wo.setS w 1 (rcSi 1 w.q w.v e).2=_; rw [hAU]; rfl
      have he:rcErr 1 (w.log 1) (w.wts 1) e=0:=h0
      rw [hw,he]
      rw [hAU,h0] at hp
      simp only [go_sem,L124,R124,hWo,Wo.ss,cSi3,cSi,cE,intS,Int.reduceLT,Int.reduceLE,Int.reduceToNat,Int.reduceAdd,frz,List.map_cons,List.map_nil]
      refine ops_call (.pureE hp (by simp [go_sem,cSi,cE])) ?_
      simp only [go_sem,hWo,Wo.ss,cSi3,cSi,cE,intS,Int.reduceLT,Int.reduceLE,Int.reduceToNat,Int.reduceAdd,frz,List.map_cons,List.map_nil]
      repeat refine ⟨rfl,?_⟩
      try simp only [go_sem,hWo,Wo.ss,cSi3,cSi,cE,intS,Int.reduceLT,Int.reduceLE,Int.reduceToNat,Int.reduceAdd,frz,List.map_cons,List.map_nil]
      repeat refine ⟨rfl,?_⟩
      refine end_keep [] (by simp) (by simp) (by simp [hx,hWo]) ?_ ?_
      · simp [go_sem,L124,R124,hx,pos,hWo]
      · simp [subHeap,renObj,hx,pos,go_sem,hWo,List.range_succ,Wo.ss,cSi3,cSi]
    · obtain ⟨S,hS⟩:∃ S,rcSi 1 w.q w.v e=S:=⟨_,rfl⟩
      obtain ⟨s1',A,U⟩:=S
      have hw:recW w 1 e=w:=by rw [recW]; show (if rcErr 1 w.q w.v e=0 then _ else _)=_; rw [if_neg h0]
      have he:rcErr 1 (w.log 1) (w.wts 1) e=rcErr 1 w.q w.v e:=rfl
      rw [hw,he]
      rw [hS] at hp
      simp only [go_sem,L124,R124,hWo,Wo.ss,cSi3,cSi,cE,intS,Int.reduceLT,Int.reduceLE,Int.reduceToNat,Int.reduceAdd,frz,List.map_cons,List.map_nil]
      refine ops_call (.pureE hp (by simp [go_sem,cSi,cE])) ?_
      simp only [go_sem,hWo,Wo.ss,cSi3,cSi,cE,intS,Int.reduceLT,Int.reduceLE,Int.reduceToNat,Int.reduceAdd,frz,List.map_cons,List.map_nil,h0]
      repeat refine ⟨rfl,?_⟩
      try simp only [go_sem,h0]
      refine end_keep [] (by simp) (by simp) (by simp [hx,hWo]) ?_ ?_
      · simp [go_sem,L124,R124,hx,pos,hWo]
      · simp [subHeap,renObj,hx,pos,go_sem,hWo,List.range_succ,Wo.ss,cSi3,cSi]
theorem allN_step {r:Int} {l p u:List Entry} {k:Nat} (hk:k < l.length) (h0:(allN r (l.take k) p u).1=0):allN r (l.take (k + 1)) p u=allN r [nth l k] (allN r (l.take k) p u).2.1 (allN r (l.take k) p u).2.2:=by
 rw [takeE_succ hk,allN_app r _ _ _ _ h0]
set_option maxHeartbeats 4000000 in
theorem woAll_meets (vs vy va vb : Nat) (w : Wo) (i : Int) (hi : i = 0 ∨ i = 1) (hs : siErr i (w.log i) (w.wts i) = 0) (hB : LogOk (w.log (1 - i))) :
    Meets Tryz.prog 79 [.ptr 0 0,.int .i64 i] (hWo vs vy va vb w) (.int .i64 0) (hWo vs vy va vb (w.setS i (allW w i).2)):=by
  have hchk:∀ k,∀ e ∈ (w.log (1 - i)).take k,checkEntry e=0:=fun k e he=>hB.mem_chk (List.mem_of_mem_take he)
  have hlen:=hB.len
  rcases hi with rfl | rfl
  · have hB:LogOk w.q:=hB
    have hlen:w.q.length≤40:=hlen
    have hchk:∀ k,∀ e ∈ w.q.take k,checkEntry e=0:=hchk
    have hs:siErr 0 w.p w.u=0:=hs
    have k10:IntKind.i64.wrap (1 - 0)=1:=by decide
    refine Meets.of_walk Tryz.func79 Tryz.ntmps79 low79 res79 (by simp) fun x hx=>?_
    simp only [go_sem,L79,R79,hWo,Wo.ss,cSi3,cSi,intS,Int.reduceLT,Int.reduceLE,Int.reduceToNat,Int.reduceAdd,frz,List.map_cons,List.map_nil,k10]
    refine loop_inv [0,1,17,18,19] 5 (fun m st=>∃ k:Nat,k + m=w.q.length ∧
      st=⟨mkE .top [(0,.ptr 0 0),(1,.int .i64 0),(17,.list (w.q.map cE)),(18,.int .i64 w.q.length),(19,.int .i64 k)],hWo vs vy va vb (w.setS 0 (allN 0 (w.q.take k) w.p w.u).2)⟩) w.q.length (by simp [hx,hWo]) (by simp) ?_ ?_
    · refine ⟨0,by omega,?_⟩
      simp [trim_mk,go_sem,subHeap,renObj,renCell,renLeaf,pos,List.range_succ,hWo,Wo.ss,cSi3,cSi,allN,Wo.setS]
    · rintro m st ⟨k,hk,rfl⟩
      have hok:=hchk k
      obtain ⟨a1,a2,-,-⟩:=allN_ok (w.q.take k) w.p w.u hs hok
      by_cases hlt:k < w.q.length
      · have hg:w.q[k]? = some (nth w.q k):=nth_get? _ _ hlt
        have wk:=i64_up (k:=k) (by omega)
        have hce:=hB.chk k hlt
        have hst:=allN_step (r:=0) (p:=w.p) (u:=w.u) hlt a1
        obtain ⟨w2,hw2⟩:∃ w2,w.setS 0 (allN 0 (w.q.take k) w.p w.u).2=w2:=⟨_,rfl⟩
        have hl2:w2.log 0=(allN 0 (w.q.take k) w.p w.u).2.1:=by rw [← hw2]; rfl
        have hu2:w2.wts 0=(allN 0 (w.q.take k) w.p w.u).2.2:=by rw [← hw2]; rfl
        rw [hw2]
        by_cases hr:(nth w.q k).id.r=0
        · have hst2:w.setS 0 (allN 0 (w.q.take (k + 1)) w.p w.u).2=w2:=by rw [hst,allN,if_pos hr,allN,← hw2]
          simp only [go_sem,hlt,hg,cE,hr,hWo,wk]
          refine ⟨by simp [hWo],m - 1,by omega,k + 1,by omega,?_⟩
          rw [hst2]
          simp [trim_mk,go_sem,subHeap,renObj,renCell,renLeaf,pos,List.range_succ,hWo,Wo.ss,cSi3,cSi]
        · obtain ⟨r1,-,-,-,-,-,-⟩:=rc_ok a2 hce hr
          rw [← hl2,← hu2] at r1
          have hrw:recW w2 0 (nth w.q k)=w.setS 0 (allN 0 (w.q.take (k + 1)) w.p w.u).2:=by
            rw [recW,if_pos r1,hst,allN,if_neg hr]
            rw [hl2,hu2] at r1
            rw [if_pos r1,allN,← hw2,hw2,hl2,hu2,← hw2]
            rfl
          have hrc:=receive_meets vs vy va vb w2 0 (nth w.q k) (by rw [hl2,hu2]; exact a2) hce
          rw [r1,hrw] at hrc
          simp only [go_sem,hlt,hg,cE,hr,hWo]
          refine ops_call (.heapE [0,1,2,3,4] (r' := .int .i64 0) (H':=hWo vs vy va vb (w.setS 0 (allN 0 (w.q.take (k + 1)) w.p w.u).2) ++ [.box (cE (nth w.q k))]) hrc (by simp) (by simp [hWo]) (by simp [go_sem,pos,cE]) ?_ ?_ ?_) ?_
          · simp [subHeap,renObj,renCell,renLeaf,pos,hWo,Wo.ss,cSi3,cSi]
          · simp [renT,ren,renCell,renLeaf]
          · simp [merge,mergeObj,callId,backF,backId,renObj,renCell,renLeaf,pos,List.range_succ,hWo,Wo.ss,cSi3,cSi,cE]
          simp only [go_sem,hWo,wk]
          refine ⟨by simp [hWo],m - 1,by omega,k + 1,by omega,?_⟩
          simp [trim_mk,go_sem,subHeap,renObj,renCell,renLeaf,pos,List.range_succ,hWo,Wo.ss,cSi3,cSi]
      · have htk:w.q.take k=w.q:=List.take_of_length_le (by omega)
        rw [htk]
        simp only [go_sem,hlt,hWo]
        refine end_keep [] (by simp) (by simp) (by simp [hx,hWo]) ?_ ?_
        · simp [go_sem,L79,R79,hx,pos,hWo]
        · simp [subHeap,renObj,hx,pos,go_sem,hWo,List.range_succ,Wo.ss,cSi3,cSi]
          exact ⟨⟨⟨rfl,rfl⟩,rfl,rfl⟩,rfl,rfl⟩
  · have hB:LogOk w.p:=hB
    have hlen:w.p.length≤40:=hlen
    have hchk:∀ k,∀ e ∈ w.p.take k,checkEntry e=0:=hchk
    have hs:siErr 1 w.q w.v=0:=hs
    have k10:IntKind.i64.wrap (1 - 1)=0:=by decide
    refine Meets.of_walk Tryz.func79 Tryz.ntmps79 low79 res79 (by simp) fun x hx=>?_
    simp only [go_sem,L79,R79,hWo,Wo.ss,cSi3,cSi,intS,Int.reduceLT,Int.reduceLE,Int.reduceToNat,Int.reduceAdd,frz,List.map_cons,List.map_nil,k10]
    refine loop_inv [0,1,17,18,19] 5 (fun m st=>∃ k:Nat,k + m=w.p.length ∧
      st=⟨mkE .top [(0,.ptr 0 0),(1,.int .i64 1),(17,.list (w.p.map cE)),(18,.int .i64 w.p.length),(19,.int .i64 k)],hWo vs vy va vb (w.setS 1 (allN 1 (w.p.take k) w.q w.v).2)⟩) w.p.length (by simp [hx,hWo]) (by simp) ?_ ?_
    · refine ⟨0,by omega,?_⟩
      simp [trim_mk,go_sem,subHeap,renObj,renCell,renLeaf,pos,List.range_succ,hWo,Wo.ss,cSi3,cSi,allN,Wo.setS]
    · rintro m st ⟨k,hk,rfl⟩
      have hok:=hchk k
      obtain ⟨a1,a2,-,-⟩:=allN_ok (w.p.take k) w.q w.v hs hok
      by_cases hlt:k < w.p.length
      · have hg:w.p[k]? = some (nth w.p k):=nth_get? _ _ hlt
        have wk:=i64_up (k:=k) (by omega)
        have hce:=hB.chk k hlt
        have hst:=allN_step (r:=1) (p:=w.q) (u:=w.v) hlt a1
        obtain ⟨w2,hw2⟩:∃ w2,w.setS 1 (allN 1 (w.p.take k) w.q w.v).2=w2:=⟨_,rfl⟩
        have hl2:w2.log 1=(allN 1 (w.p.take k) w.q w.v).2.1:=by rw [← hw2]; rfl
        have hu2:w2.wts 1=(allN 1 (w.p.take k) w.q w.v).2.2:=by rw [← hw2]; rfl
        rw [hw2]
        by_cases hr:(nth w.p k).id.r=1
        · have hst2:w.setS 1 (allN 1 (w.p.take (k + 1)) w.q w.v).2=w2:=by rw [hst,allN,if_pos hr,allN,← hw2]
          simp only [go_sem,hlt,hg,cE,hr,hWo,wk]
          refine ⟨by simp [hWo],m - 1,by omega,k + 1,by omega,?_⟩
          rw [hst2]
          simp [trim_mk,go_sem,subHeap,renObj,renCell,renLeaf,pos,List.range_succ,hWo,Wo.ss,cSi3,cSi]
        · obtain ⟨r1,-,-,-,-,-,-⟩:=rc_ok a2 hce hr
          rw [← hl2,← hu2] at r1
          have hrw:recW w2 1 (nth w.p k)=w.setS 1 (allN 1 (w.p.take (k + 1)) w.q w.v).2:=by
            rw [recW,if_pos r1,hst,allN,if_neg hr]
            rw [hl2,hu2] at r1
            rw [if_pos r1,allN,← hw2,hw2,hl2,hu2,← hw2]
            rfl
          have hrc:=receive_meets vs vy va vb w2 1 (nth w.p k) (by rw [hl2,hu2]; exact a2) hce
          rw [r1,hrw] at hrc
          simp only [go_sem,hlt,hg,cE,hr,hWo]
          refine ops_call (.heapE [0,1,2,3,4] (r' := .int .i64 0) (H':=hWo vs vy va vb (w.setS 1 (allN 1 (w.p.take (k + 1)) w.q w.v).2) ++ [.box (cE (nth w.p k))]) hrc (by simp) (by simp [hWo]) (by simp [go_sem,pos,cE]) ?_ ?_ ?_) ?_
          · simp [subHeap,renObj,renCell,renLeaf,pos,hWo,Wo.ss,cSi3,cSi]
          · simp [renT,ren,renCell,renLeaf]
          · simp [merge,mergeObj,callId,backF,backId,renObj,renCell,renLeaf,pos,List.range_succ,hWo,Wo.ss,cSi3,cSi,cE]
          simp only [go_sem,hWo,wk]
          refine ⟨by simp [hWo],m - 1,by omega,k + 1,by omega,?_⟩
          simp [trim_mk,go_sem,subHeap,renObj,renCell,renLeaf,pos,List.range_succ,hWo,Wo.ss,cSi3,cSi]
      · have htk:w.p.take k=w.p:=List.take_of_length_le (by omega)
        rw [htk]
        simp only [go_sem,hlt,hWo]
        refine end_keep [] (by simp) (by simp) (by simp [hx,hWo]) ?_ ?_
        · simp [go_sem,L79,R79,hx,pos,hWo]
        · simp [subHeap,renObj,hx,pos,go_sem,hWo,List.range_succ,Wo.ss,cSi3,cSi]
          exact ⟨⟨⟨rfl,rfl⟩,rfl,rfl⟩,rfl,rfl⟩
end Go.Proofs.YtfdolehffjmdmaaGreatDoor
/- Worlds: what is taken and sent,worlds of one's own: contracts. -/
namespace Go.Proofs.YtfdolehffjmdmaaGreatDoor
set_option linter.unusedSimpArgs false
set_option linter.unusedVariables false
open Go.RowKit
set_option maxHeartbeats 2000000 in
theorem take_meets (vs vy va vb : Nat) (w : Wo) (i : Int) (q : Nat) (hi : i = 0 ∨ i = 1) (hq : q < (w.way i).length) (hl : (w.way i).length ≤ 30) :
    ∃ va' vb',Meets Tryz.prog 155 [.ptr 0 0,.int .i64 i,.int .i64 q] (hWo vs vy va vb w) (.agg (cE (nth (w.way i) q))) (hWo vs vy va' vb' (w.setY i ((w.way i).eraseIdx q))):=by
  rcases hi with rfl | rfl
  · have hq:q < w.a.length:=hq
    have hl:w.a.length≤30:=hl
    refine ⟨va + 1,vb,?_⟩
    refine Meets.of_walk Tryz.func155 Tryz.ntmps155 low155 res155 (by simp) fun x hx=>?_
    have hgq:w.a[q]? = some (nth w.a q):=nth_get? _ _ hq
    have wq:=i64_up (k:=q) (by omega)
    simp only [go_sem,L155,R155,hWo,intS,Int.reduceLT,Int.reduceLE,Int.reduceToNat,Int.reduceAdd,frz,hq,hgq,cE]
    refine ops_call1 3 (delE_meets (w.a.map cE) va 46 q (by simpa using hq)) rfl rfl rfl rfl (by simp [go_sem]) (by simp [go_sem,pos,wq]) rfl ?_
    rw [eraseIdx_mapE]
    simp only [go_sem,intS,Int.reduceLT,Int.reduceLE,Int.reduceToNat,Int.reduceAdd,frz]
    repeat refine ⟨rfl,?_⟩
    try simp only [go_sem,intS,Int.reduceLT,Int.reduceLE,Int.reduceToNat,Int.reduceAdd,frz]
    refine end_keep [] (by simp) (by simp) (by simp [hx,hWo]) ?_ ?_
    · simp [go_sem,L155,R155,hx,pos,hWo,cE,Wo.way]
    · simp [subHeap,renObj,renCell,renLeaf,hx,pos,go_sem,hWo,List.range_succ,Wo.ss,cSi3,cSi,Wo.setY,Wo.way]
  · have hq:q < w.b.length:=hq
    have hl:w.b.length≤30:=hl
    refine ⟨va,vb + 1,?_⟩
    refine Meets.of_walk Tryz.func155 Tryz.ntmps155 low155 res155 (by simp) fun x hx=>?_
    have hgq:w.b[q]? = some (nth w.b q):=nth_get? _ _ hq
    have wq:=i64_up (k:=q) (by omega)
    simp only [go_sem,L155,R155,hWo,intS,Int.reduceLT,Int.reduceLE,Int.reduceToNat,Int.reduceAdd,frz,hq,hgq,cE]
    refine ops_call1 4 (delE_meets (w.b.map cE) vb 46 q (by simpa using hq)) rfl rfl rfl rfl (by simp [go_sem]) (by simp [go_sem,pos,wq]) rfl ?_
    rw [eraseIdx_mapE]
    simp only [go_sem,intS,Int.reduceLT,Int.reduceLE,Int.reduceToNat,Int.reduceAdd,frz]
    repeat refine ⟨rfl,?_⟩
    try simp only [go_sem,intS,Int.reduceLT,Int.reduceLE,Int.reduceToNat,Int.reduceAdd,frz]
    refine end_keep [] (by simp) (by simp) (by simp [hx,hWo]) ?_ ?_
    · simp [go_sem,L155,R155,hx,pos,hWo,cE,Wo.way]
    · simp [subHeap,renObj,renCell,renLeaf,hx,pos,go_sem,hWo,List.range_succ,Wo.ss,cSi3,cSi,Wo.setY,Wo.way]
set_option maxHeartbeats 2000000 in
theorem send_meets (vs vy va vb : Nat) (w : Wo) (i : Int) (e : Entry) (hi : i = 0 ∨ i = 1) (hl : (w.way i).length ≤ 30) (he : e.ls.length ≤ 1000000) :
    ∃ va' vb',Meets Tryz.prog 154 [.ptr 0 0,.int .i64 i,.agg (cE e)] (hWo vs vy va vb w) (.bool (!decide ((w.way i).length=30))) (hWo vs vy va' vb' (sendW w i e)):=by
  rcases hi with rfl | rfl
  · have hl:w.a.length≤30:=hl
    by_cases h30:(w.a.length:Int)=30
    · refine ⟨va,vb,?_⟩
      have hs:sendW w 0 e=w:=by rw [sendW,if_pos (show (w.way 0).length=30 by show w.a.length=30; omega)]
      have hd:decide ((w.way 0).length=30)=true:=by show decide (w.a.length=30)=true; simp; omega
      rw [hs,hd]
      refine Meets.of_walk Tryz.func154 Tryz.ntmps154 low154 res154 (by simp) fun x hx=>?_
      simp only [go_sem,L154,R154,hWo,intS,Int.reduceLT,Int.reduceLE,Int.reduceToNat,Int.reduceAdd,frz,cE,h30,List.length_map]
      refine ret_keep [] (by simp) (by simp) (by simp [hx,hWo]) ?_ ?_
      · simp [go_sem,L154,R154,hx,pos,hWo]
      · simp [subHeap,renObj,renCell,renLeaf,hx,pos,go_sem,hWo,List.range_succ,Wo.ss,cSi3,cSi]
    · have hs:sendW w 0 e = { w with a:=w.a ++ [e] }:=by rw [sendW,if_neg (show ¬ (w.way 0).length=30 by show ¬ w.a.length=30; omega)]; rfl
      have hd:decide ((w.way 0).length=30)=false:=by show decide (w.a.length=30)=false; simp; omega
      refine ⟨va + 1,vb,?_⟩
      rw [hs,hd]
      refine Meets.of_walk Tryz.func154 Tryz.ntmps154 low154 res154 (by simp) fun x hx=>?_
      simp only [go_sem,L154,R154,hWo,intS,Int.reduceLT,Int.reduceLE,Int.reduceToNat,Int.reduceAdd,frz,cE,h30,List.length_map]
      refine ops_call (.pureE (entOwn_meets e he) (by simp [go_sem,cE])) ?_
      simp only [go_sem,hWo,intS,Int.reduceLT,Int.reduceLE,Int.reduceToNat,Int.reduceAdd,frz,cE]
      rw [app_arr rfl rfl (by simp) (by simp; omega)]
      simp only [go_sem,intS,Int.reduceLT,Int.reduceLE,Int.reduceToNat,Int.reduceAdd,frz]
      repeat refine ⟨rfl,?_⟩
      try simp only [go_sem,intS,Int.reduceLT,Int.reduceLE,Int.reduceToNat,Int.reduceAdd,frz]
      refine end_keep [] (by simp) (by simp) (by simp [hx,hWo]) ?_ ?_
      · simp [go_sem,L154,R154,hx,pos,hWo]
      · simp [subHeap,renObj,renCell,renLeaf,hx,pos,go_sem,hWo,List.range_succ,Wo.ss,cSi3,cSi,cE]
  · have hl:w.b.length≤30:=hl
    by_cases h30:(w.b.length:Int)=30
    · refine ⟨va,vb,?_⟩
      have hs:sendW w 1 e=w:=by rw [sendW,if_pos (show (w.way 1).length=30 by show w.b.length=30; omega)]
      have hd:decide ((w.way 1).length=30)=true:=by show decide (w.b.length=30)=true; simp; omega
      rw [hs,hd]
      refine Meets.of_walk Tryz.func154 Tryz.ntmps154 low154 res154 (by simp) fun x hx=>?_
      simp only [go_sem,L154,R154,hWo,intS,Int.reduceLT,Int.reduceLE,Int.reduceToNat,Int.reduceAdd,frz,cE,h30,List.length_map]
      refine ret_keep [] (by simp) (by simp) (by simp [hx,hWo]) ?_ ?_
      · simp [go_sem,L154,R154,hx,pos,hWo]
      · simp [subHeap,renObj,renCell,renLeaf,hx,pos,go_sem,hWo,List.range_succ,Wo.ss,cSi3,cSi]
    · have hs:sendW w 1 e = { w with b:=w.b ++ [e] }:=by rw [sendW,if_neg (show ¬ (w.way 1).length=30 by show ¬ w.b.length=30; omega)]; rfl
      have hd:decide ((w.way 1).length=30)=false:=by show decide (w.b.length=30)=false; simp; omega
      refine ⟨va,vb + 1,?_⟩
      rw [hs,hd]
      refine Meets.of_walk Tryz.func154 Tryz.ntmps154 low154 res154 (by simp) fun x hx=>?_
      simp only [go_sem,L154,R154,hWo,intS,Int.reduceLT,Int.reduceLE,Int.reduceToNat,Int.reduceAdd,frz,cE,h30,List.length_map]
      refine ops_call (.pureE (entOwn_meets e he) (by simp [go_sem,cE])) ?_
      simp only [go_sem,hWo,intS,Int.reduceLT,Int.reduceLE,Int.reduceToNat,Int.reduceAdd,frz,cE]
      rw [app_arr rfl rfl (by simp) (by simp; omega)]
      simp only [go_sem,intS,Int.reduceLT,Int.reduceLE,Int.reduceToNat,Int.reduceAdd,frz]
      repeat refine ⟨rfl,?_⟩
      try simp only [go_sem,intS,Int.reduceLT,Int.reduceLE,Int.reduceToNat,Int.reduceAdd,frz]
      refine end_keep [] (by simp) (by simp) (by simp [hx,hWo]) ?_ ?_
      · simp [go_sem,L154,R154,hx,pos,hWo]
      · simp [subHeap,renObj,renCell,renLeaf,hx,pos,go_sem,hWo,List.range_succ,Wo.ss,cSi3,cSi,cE]
theorem siOwnP_meets (r:Int) (lg ws:List Entry) (h1:lg.length≤1000000) (h2:ws.length≤1000000) (hf1:fitE lg) (hf2:fitE ws):Meets Tryz.prog 111 [.agg (cSi r lg ws)] [] (.agg (cSi r lg ws)) []:=by
 refine Meets.of_walk Tryz.func111 Tryz.ntmps111 low111 res111 (by simp) fun x hx=>?_
 simp only [go_sem,L111,R111,cSi]
 refine ops_call2 (r := .arr 2 lg.length) (siEntries_meets lg h1 hf1) rfl rfl (by simp [go_sem]) rfl ?_
 simp only [go_sem,cSi]
 refine ops_call2 (r := .arr 3 ws.length) (siEntries_meets ws h2 hf2) rfl rfl (by simp [go_sem]) rfl ?_
 simp only [go_sem,cSi]
 repeat refine ⟨rfl,?_⟩
 refine ret_weak (weak_shut 2 rfl) ?_
 refine ret_weak (weak_shut 3 rfl) ?_
 refine ret_pure hx ?_
 simp [go_sem,L111,R111,cSi,frzAt,pos]
def ownH (w:Wo) (vy:Nat) (_:Nat) (rows:List (List PV)) (rest:List AObj):List AObj := [.box (cWd w.ss w.ys),.box [.arr 2 2,.arr 3 vy],.arr 2 true false 49 3 (w.ss.map cSi3),.arr vy true true 22 1 rows] ++ rest
set_option maxHeartbeats 4000000 in
theorem woOwn_meets (w:Wo) (h:WoOk w):Meets Tryz.prog 78 [.agg (cWd w.ss w.ys)] [] (.ptr 0 0) (hWo 2 2 w.a.length w.b.length w):=by
 obtain ⟨-,p2,p3,p4,p5,-,-,-⟩:=si_pre h.s0
 obtain ⟨-,q2,q3,q4,q5,-,-,-⟩:=si_pre h.s1
 have fa:fitE w.a:=fun e he=>check_fit (h.ca e he)
 have fb:fitE w.b:=fun e he=>check_fit (h.cb e he)
 have la:=h.la
 have lb:=h.lb
 have k1:IntKind.i64.wrap 1=1:=by decide
 have k2:IntKind.i64.wrap 2=2:=by decide
 refine Meets.of_walk Tryz.func78 Tryz.ntmps78 low78 res78 (by simp) fun x hx=>?_
 simp only [go_sem,L78,R78,cWd,Wo.ss,Wo.ys,cYs,cSi3,cSi,intS,Int.reduceLT,Int.reduceLE,Int.reduceToNat,Int.reduceAdd,frz,List.map_cons,List.map_nil]
 refine W_weak (weak_ownc 1 0 0 49 3 true false rfl rfl (by omega)) ?_
 refine W_weak (weak_ownc 1 1 0 22 1 true true rfl rfl (by omega)) ?_
 refine loop_inv [1,3,14,15,16] 4 (fun m st=>∃ k:Nat,k + m=2 ∧
  st=⟨mkE .top [(1,.ptr 0 0),(3,.ptr 1 0),(14,.list (w.ss.map cSi3)),(15,.int .i64 2),(16,.int .i64 k)],[.box (cWd w.ss w.ys),.box [.arr 2 k,.arr 3 0],.arr k true false 49 3 ((w.ss.take k).map cSi3),.arr 0 true true 22 1 []]⟩) 2 (by simp [hx]) (by simp) ?_ ?_
 ·
  refine ⟨0,by omega,?_⟩
  simp [trim_mk,go_sem,subHeap,renObj,renCell,renLeaf,pos,List.range_succ,Wo.ss,Wo.ys,cWd,cYs,cSi3,cSi]
 ·
  rintro m st ⟨k,hk,rfl⟩
  by_cases hk2:k < 2
  ·
   obtain rfl | rfl:k=0∨k=1:=by omega
   ·
    skip
    simp only [go_sem,cWd,Wo.ss,Wo.ys,cYs,cSi3,cSi,intS,Int.reduceLT,Int.reduceLE,Int.reduceToNat,Int.reduceAdd,frz,List.map_cons,List.map_nil,List.take_succ_cons,List.take_zero]
    refine ops_call (.pureE (siOwnP_meets 0 w.p w.u (by omega) (by omega) p4 p5) (by simp [go_sem,cSi])) ?_
    simp only [go_sem,cSi,intS,Int.reduceLT,Int.reduceLE,Int.reduceToNat,Int.reduceAdd,frz]
    rw [app_arr rfl rfl (by simp) (by simp)]
    simp only [go_sem,intS,Int.reduceLT,Int.reduceLE,Int.reduceToNat,Int.reduceAdd,frz]
    repeat refine ⟨rfl,?_⟩
    try simp only [go_sem,intS,Int.reduceLT,Int.reduceLE,Int.reduceToNat,Int.reduceAdd,frz]
    refine ⟨by simp,m - 1,by omega,0 + 1,by omega,?_⟩
    simp [trim_mk,go_sem,subHeap,renObj,renCell,renLeaf,pos,List.range_succ,Wo.ss,Wo.ys,cWd,cYs,cSi3,cSi,k1,k2]
   ·
    skip
    simp only [go_sem,cWd,Wo.ss,Wo.ys,cYs,cSi3,cSi,intS,Int.reduceLT,Int.reduceLE,Int.reduceToNat,Int.reduceAdd,frz,List.map_cons,List.map_nil,List.take_succ_cons,List.take_zero]
    refine ops_call (.pureE (siOwnP_meets 1 w.q w.v (by omega) (by omega) q4 q5) (by simp [go_sem,cSi])) ?_
    simp only [go_sem,cSi,intS,Int.reduceLT,Int.reduceLE,Int.reduceToNat,Int.reduceAdd,frz]
    rw [app_arr rfl rfl (by simp) (by simp)]
    simp only [go_sem,intS,Int.reduceLT,Int.reduceLE,Int.reduceToNat,Int.reduceAdd,frz]
    repeat refine ⟨rfl,?_⟩
    try simp only [go_sem,intS,Int.reduceLT,Int.reduceLE,Int.reduceToNat,Int.reduceAdd,frz]
    refine ⟨by simp,m - 1,by omega,1 + 1,by omega,?_⟩
    simp [trim_mk,go_sem,subHeap,renObj,renCell,renLeaf,pos,List.range_succ,Wo.ss,Wo.ys,cWd,cYs,cSi3,cSi,k1,k2]
  ·
   obtain rfl:k=2:=by omega
   simp only [go_sem,cWd,Wo.ss,Wo.ys,cYs,cSi3,cSi,intS,Int.reduceLT,Int.reduceLE,Int.reduceToNat,Int.reduceAdd,frz,List.map_cons,List.map_nil,List.take_succ_cons,List.take_zero]
   refine loop_keep [1,3,35,36,37] (fun m st=>(m=2∧st=⟨mkE .top [(1,.ptr 0 0),(3,.ptr 1 0),(35,.list [[.list (w.a.map cE)],[.list (w.b.map cE)]]),(36,.int .i64 2),(37,.int .i64 0)],ownH w 0 0 [] []⟩) ∨
    (m=1∧st=⟨mkE .top [(1,.ptr 0 0),(3,.ptr 1 0),(35,.list [[.list (w.a.map cE)],[.list (w.b.map cE)]]),(36,.int .i64 2),(37,.int .i64 1)],ownH w 1 0 [[.arr 4 w.a.length]] [.arr w.a.length true false 46 5 (w.a.map cE)]⟩) ∨
    (m=0∧st=⟨mkE .top [(1,.ptr 0 0),(3,.ptr 1 0),(35,.list [[.list (w.a.map cE)],[.list (w.b.map cE)]]),(36,.int .i64 2),(37,.int .i64 2)],ownH w 2 0 [[.arr 4 w.a.length],[.arr 5 w.b.length]] [.arr w.a.length true false 46 5 (w.a.map cE),.arr w.b.length true false 46 5 (w.b.map cE)]⟩)) 2 ?_ ?_
   ·
    refine .inl ⟨rfl,?_⟩
    simp [keep_mk,go_sem,ownH,cWd,Wo.ss,Wo.ys,cYs,cSi3,cSi]
   ·
    rintro m st (⟨rfl,rfl⟩ | ⟨rfl,rfl⟩ | ⟨rfl,rfl⟩)
    ·
     skip
     simp only [go_sem,ownH,intS,Int.reduceLT,Int.reduceLE,Int.reduceToNat,Int.reduceAdd,frz,List.nil_append,List.cons_append]
     refine W_weak (weak_own 8 0 46 5 true false rfl (by omega)) ?_
     rw [put_mk]
     refine loop_inv [1,3,8,35,36,37,41,42,43] (4 + 1) (fun m st=>∃ k:Nat,k + m=w.a.length ∧
      st=⟨mkE .top [(1,.ptr 0 0),(3,.ptr 1 0),(8,.arr 4 k),(35,.list [[.list (w.a.map cE)],[.list (w.b.map cE)]]),(36,.int .i64 2),(37,.int .i64 0),(41,.list (w.a.map cE)),(42,.int .i64 w.a.length),(43,.int .i64 k)],ownH w 0 0 [] ([] ++ [.arr k true false 46 5 ((w.a.take k).map cE)])⟩) w.a.length (by simp [hx]) (by simp) ?_ ?_
     ·
      refine ⟨0,by omega,?_⟩
      simp [trim_mk,go_sem,subHeap,renObj,renCell,renLeaf,pos,List.range_succ,ownH,cWd,Wo.ss,Wo.ys,cYs,cSi3,cSi]
     ·
      rintro m st ⟨k,hk,rfl⟩
      by_cases hlt:k < w.a.length
      ·
       have hg:w.a[k]? = some (nth w.a k):=nth_get? _ _ hlt
       have wk:=i64_up (k:=k) (by omega)
       have htk:w.a.take (k + 1)=w.a.take k ++ [nth w.a k]:=takeE_succ hlt
       simp only [go_sem,ownH,hlt,hg,cE,List.nil_append,List.cons_append]
       refine ops_call (.pureE (entOwn_meets (nth w.a k) (fa _ (nthM hlt)).2) (by simp [go_sem,cE])) ?_
       simp only [go_sem,cE]
       rw [app_arr rfl rfl (by simp) (by simp; omega)]
       simp only [go_sem,wk]
       refine ⟨by simp,m - 1,by omega,k + 1,by omega,?_⟩
       simp [trim_mk,go_sem,subHeap,renObj,renCell,renLeaf,pos,List.range_succ,ownH,cWd,Wo.ss,Wo.ys,cYs,cSi3,cSi,htk,cE]
      ·
       obtain rfl:k=w.a.length:=by omega
       rw [List.take_length]
       simp only [go_sem,hlt,ownH,intS,Int.reduceLT,Int.reduceLE,Int.reduceToNat,Int.reduceAdd,frz,List.nil_append,List.cons_append]
       rw [app_arrI rfl rfl (by simp) (by simp)]
       simp only [go_sem,intS,Int.reduceLT,Int.reduceLE,Int.reduceToNat,Int.reduceAdd,frz,k1,k2]
       refine ⟨1,by omega,.inr (.inl ⟨rfl,?_⟩)⟩
       simp [keep_mk,go_sem,ownH,cWd,Wo.ss,Wo.ys,cYs,cSi3,cSi,k1,k2]
    ·
     skip
     simp only [go_sem,ownH,intS,Int.reduceLT,Int.reduceLE,Int.reduceToNat,Int.reduceAdd,frz,List.nil_append,List.cons_append]
     refine W_weak (weak_own 8 0 46 5 true false rfl (by omega)) ?_
     rw [put_mk]
     refine loop_inv [1,3,8,35,36,37,41,42,43] (5 + 1) (fun m st=>∃ k:Nat,k + m=w.b.length ∧
      st=⟨mkE .top [(1,.ptr 0 0),(3,.ptr 1 0),(8,.arr 5 k),(35,.list [[.list (w.a.map cE)],[.list (w.b.map cE)]]),(36,.int .i64 2),(37,.int .i64 1),(41,.list (w.b.map cE)),(42,.int .i64 w.b.length),(43,.int .i64 k)],ownH w 1 0 [[.arr 4 w.a.length]] ([.arr w.a.length true false 46 5 (w.a.map cE)] ++ [.arr k true false 46 5 ((w.b.take k).map cE)])⟩) w.b.length (by simp [hx]) (by simp) ?_ ?_
     ·
      refine ⟨0,by omega,?_⟩
      simp [trim_mk,go_sem,subHeap,renObj,renCell,renLeaf,pos,List.range_succ,ownH,cWd,Wo.ss,Wo.ys,cYs,cSi3,cSi]
     ·
      rintro m st ⟨k,hk,rfl⟩
      by_cases hlt:k < w.b.length
      ·
       have hg:w.b[k]? = some (nth w.b k):=nth_get? _ _ hlt
       have wk:=i64_up (k:=k) (by omega)
       have htk:w.b.take (k + 1)=w.b.take k ++ [nth w.b k]:=takeE_succ hlt
       simp only [go_sem,ownH,hlt,hg,cE,List.nil_append,List.cons_append]
       refine ops_call (.pureE (entOwn_meets (nth w.b k) (fb _ (nthM hlt)).2) (by simp [go_sem,cE])) ?_
       simp only [go_sem,cE]
       rw [app_arr rfl rfl (by simp) (by simp; omega)]
       simp only [go_sem,wk]
       refine ⟨by simp,m - 1,by omega,k + 1,by omega,?_⟩
       simp [trim_mk,go_sem,subHeap,renObj,renCell,renLeaf,pos,List.range_succ,ownH,cWd,Wo.ss,Wo.ys,cYs,cSi3,cSi,htk,cE]
      ·
       obtain rfl:k=w.b.length:=by omega
       rw [List.take_length]
       simp only [go_sem,hlt,ownH,intS,Int.reduceLT,Int.reduceLE,Int.reduceToNat,Int.reduceAdd,frz,List.nil_append,List.cons_append]
       rw [app_arrI rfl rfl (by simp) (by simp)]
       simp only [go_sem,intS,Int.reduceLT,Int.reduceLE,Int.reduceToNat,Int.reduceAdd,frz,k1,k2]
       refine ⟨0,by omega,.inr (.inr ⟨rfl,?_⟩)⟩
       simp [keep_mk,go_sem,ownH,cWd,Wo.ss,Wo.ys,cYs,cSi3,cSi,k1,k2]
    ·
     simp only [go_sem,ownH,intS,Int.reduceLT,Int.reduceLE,Int.reduceToNat,Int.reduceAdd,frz,List.nil_append,List.cons_append]
     refine ret_keep [1,2,3,4,5] (by simp) (by simp [hx]) (by simp [hx]) ?_ ?_
     ·
      simp [go_sem,L78,R78,hx,pos]
     ·
      simp [subHeap,renObj,renCell,renLeaf,hx,pos,go_sem,hWo,List.range_succ,Wo.ss,cSi3,cSi]
end Go.Proofs.YtfdolehffjmdmaaGreatDoor
/- Worlds: an act is done: a contract. -/
namespace Go.Proofs.YtfdolehffjmdmaaGreatDoor
set_option linter.unusedSimpArgs false
set_option linter.unusedVariables false
open Go.RowKit
def cAct (k i n c:Int) (t:ByteArray):List PV := [.int .i64 k,.int .i64 i,.int .i64 n,.int .i64 c,.str t]
theorem weak_eqD {x:Cx} {nt:Nat} {st st1 st2:St} (h:st=st1) (hw:Weak x nt st1 st2):Weak x nt st st2:=h ▸ hw
set_option maxRecDepth 10000 in
set_option maxHeartbeats 4000000 in
theorem do1_meets (vs vy va vb : Nat) (w : Wo) (h : WoOk w) (i n c : Int) (t : ByteArray) (hi : i = 0 ∨ i = 1) :
    ∃ va' vb',Meets Tryz.prog 126 [.ptr 0 0,.agg (cAct 1 i n c t)] (hWo vs vy va vb w) (.int .i64 (doErr0 w 1 i n c t)) (hWo vs vy va' vb' (if doErr0 w 1 i n c t=0 then doW w 1 i n c t else w)):=by
  have hl0:=(h.log (i:=0) (.inl rfl)).len
  have hl1:=(h.log (i:=1) (.inr rfl)).len
  have hl0:w.p.length≤40:=hl0
  have hl1:w.q.length≤40:=hl1
  obtain ⟨-,-,u1,-,-,-,-,-⟩:=si_pre h.s0
  obtain ⟨-,-,u2,-,-,-,-,-⟩:=si_pre h.s1
  rcases hi with rfl | rfl
  · have hs:=h.s0
    have k10:IntKind.i64.wrap (1 - 0)=1:=by decide
    have hap:=siAppend_meets 0 w.p w.u c t (by omega) (by omega)
    have hX:apErrX 0 w.p w.u c t=apErr 0 w.p c t:=by rw [apErrX,if_neg (by simp [hs])]
    have hd:doErr0 w 1 0 n c t=apErr 0 w.p c t:=by rw [doErr0,if_pos rfl]; rfl
    rw [hd]
    by_cases h0:apErr 0 w.p c t=0
    · have hS:apSiX 0 w.p w.u c t=(0,settled (w.p ++ [apE 0 w.p c t]) w.u):=by rw [apSiX,if_neg (by simp [hs]),apSi,if_pos h0]
      have hE:apEnX 0 w.p w.u c t=apE 0 w.p c t:=by rw [apEnX,if_neg (by simp [hs]),apEn,if_pos h0]
      have hlse:(apE 0 w.p c t).ls.length≤1000000:=(ap_fit (t:=t) (c:=c) (by omega:(0:Int)=0∨(0:Int)=1) (by omega:w.p.length≤40)).2
      have hdW:doW w 1 0 n c t=sendW (w.setS 0 (settled (w.p ++ [apE 0 w.p c t]) w.u)) 1 (apE 0 w.p c t):=by rw [doW,if_pos rfl]; rfl
      rw [hX,hS,hE,h0] at hap
      rw [if_pos h0,hdW,h0]
      generalize apE 0 w.p c t=e at *
      generalize settled (w.p ++ [e]) w.u=AU at *
      obtain ⟨A,U⟩:=AU
      obtain ⟨va',vb',hsd⟩:=send_meets vs vy va vb (w.setS 0 (A,U)) 1 e (by omega) (by rw [(log_setS (by omega)).2.2.2.2]; exact h.lb) hlse
      refine ⟨va',vb',?_⟩
      refine Meets.of_walk Tryz.func126 Tryz.ntmps126 low126 res126 (by simp) fun x hx=>?_
      simp only [go_sem,L126,R126,hWo,Wo.ss,cSi3,cSi,cE,cAct,intS,Int.reduceLT,Int.reduceLE,Int.reduceToNat,Int.reduceAdd,frz,List.map_cons,List.map_nil]
      refine ops_call (.pureE hap (by simp [go_sem,cSi,cAct])) ?_
      simp only [go_sem,hWo,Wo.ss,cSi3,cSi,cE,intS,Int.reduceLT,Int.reduceLE,Int.reduceToNat,Int.reduceAdd,frz,List.map_cons,List.map_nil]
      repeat refine ⟨rfl,?_⟩
      try simp only [go_sem,hWo,Wo.ss,cSi3,cSi,cE,intS,Int.reduceLT,Int.reduceLE,Int.reduceToNat,Int.reduceAdd,frz,List.map_cons,List.map_nil]
      repeat refine ⟨rfl,?_⟩
      try simp only [go_sem,hWo,Wo.ss,cSi3,cSi,cE,intS,Int.reduceLT,Int.reduceLE,Int.reduceToNat,Int.reduceAdd,frz,List.map_cons,List.map_nil,k10]
      refine ops_call (.heapE [0,1,2,3,4] (r' := .bool (!decide (((w.setS 0 (A,U)).way 1).length=30))) (H':=hWo vs vy va' vb' (sendW (w.setS 0 (A,U)) 1 e) ++ [.box (cAct 1 0 n c t),.arr 1 true true 49 3 [cSi 0 A U],.arr 1 true true 46 5 [cE e]]) hsd (by simp) (by simp) (by simp [go_sem,pos,cE]) ?_ ?_ ?_) ?_
      · skip
        simp [subHeap,renObj,renCell,renLeaf,pos,hWo,Wo.ss,cSi3,cSi]
        exact ⟨⟨⟨rfl,rfl⟩,rfl,rfl⟩,rfl,rfl⟩
      · simp [renT,ren,renCell,renLeaf]
      · skip
        simp [merge,mergeObj,callId,backF,backId,renObj,renCell,renLeaf,pos,List.range_succ,hWo,Wo.ss,cSi3,cSi,cE,cAct]
      simp only [go_sem,hWo]
      refine ret_keep [] (by simp) (by simp) (by simp [hx,hWo]) ?_ ?_
      · simp [go_sem,L126,R126,hx,pos,hWo]
      · simp [subHeap,renObj,renCell,renLeaf,hx,pos,go_sem,hWo,List.range_succ,Wo.ss,cSi3,cSi]
    · refine ⟨va,vb,?_⟩
      rw [hX] at hap
      rw [if_neg h0]
      generalize apSiX 0 w.p w.u c t=SS at *
      obtain ⟨s0,A,U⟩:=SS
      generalize apEnX 0 w.p w.u c t=e at *
      refine Meets.of_walk Tryz.func126 Tryz.ntmps126 low126 res126 (by simp) fun x hx=>?_
      simp only [go_sem,L126,R126,hWo,Wo.ss,cSi3,cSi,cE,cAct,intS,Int.reduceLT,Int.reduceLE,Int.reduceToNat,Int.reduceAdd,frz,List.map_cons,List.map_nil]
      refine ops_call (.pureE hap (by simp [go_sem,cSi,cAct])) ?_
      try simp only [go_sem,hWo,Wo.ss,cSi3,cSi,cE,intS,Int.reduceLT,Int.reduceLE,Int.reduceToNat,Int.reduceAdd,frz,List.map_cons,List.map_nil,h0]
      repeat refine ⟨rfl,?_⟩
      try simp only [go_sem,hWo,Wo.ss,cSi3,cSi,cE,intS,Int.reduceLT,Int.reduceLE,Int.reduceToNat,Int.reduceAdd,frz,List.map_cons,List.map_nil,h0]
      refine ret_keep [] (by simp) (by simp) (by simp [hx,hWo]) ?_ ?_
      · simp [go_sem,L126,R126,hx,pos,hWo]
      · simp [subHeap,renObj,renCell,renLeaf,hx,pos,go_sem,hWo,List.range_succ,Wo.ss,cSi3,cSi]
  · have hs:=h.s1
    have k10:IntKind.i64.wrap (1 - 1)=0:=by decide
    have hap:=siAppend_meets 1 w.q w.v c t (by omega) (by omega)
    have hX:apErrX 1 w.q w.v c t=apErr 1 w.q c t:=by rw [apErrX,if_neg (by simp [hs])]
    have hd:doErr0 w 1 1 n c t=apErr 1 w.q c t:=by rw [doErr0,if_pos rfl]; rfl
    rw [hd]
    by_cases h0:apErr 1 w.q c t=0
    · have hS:apSiX 1 w.q w.v c t=(1,settled (w.q ++ [apE 1 w.q c t]) w.v):=by rw [apSiX,if_neg (by simp [hs]),apSi,if_pos h0]
      have hE:apEnX 1 w.q w.v c t=apE 1 w.q c t:=by rw [apEnX,if_neg (by simp [hs]),apEn,if_pos h0]
      have hlse:(apE 1 w.q c t).ls.length≤1000000:=(ap_fit (t:=t) (c:=c) (by omega:(1:Int)=0∨(1:Int)=1) (by omega:w.q.length≤40)).2
      have hdW:doW w 1 1 n c t=sendW (w.setS 1 (settled (w.q ++ [apE 1 w.q c t]) w.v)) 0 (apE 1 w.q c t):=by rw [doW,if_pos rfl]; rfl
      rw [hX,hS,hE,h0] at hap
      rw [if_pos h0,hdW,h0]
      generalize apE 1 w.q c t=e at *
      generalize settled (w.q ++ [e]) w.v=AU at *
      obtain ⟨A,U⟩:=AU
      obtain ⟨va',vb',hsd⟩:=send_meets vs vy va vb (w.setS 1 (A,U)) 0 e (by omega) (by rw [(log_setS (by omega)).2.2.2.2]; exact h.la) hlse
      refine ⟨va',vb',?_⟩
      refine Meets.of_walk Tryz.func126 Tryz.ntmps126 low126 res126 (by simp) fun x hx=>?_
      simp only [go_sem,L126,R126,hWo,Wo.ss,cSi3,cSi,cE,cAct,intS,Int.reduceLT,Int.reduceLE,Int.reduceToNat,Int.reduceAdd,frz,List.map_cons,List.map_nil]
      refine ops_call (.pureE hap (by simp [go_sem,cSi,cAct])) ?_
      simp only [go_sem,hWo,Wo.ss,cSi3,cSi,cE,intS,Int.reduceLT,Int.reduceLE,Int.reduceToNat,Int.reduceAdd,frz,List.map_cons,List.map_nil]
      repeat refine ⟨rfl,?_⟩
      try simp only [go_sem,hWo,Wo.ss,cSi3,cSi,cE,intS,Int.reduceLT,Int.reduceLE,Int.reduceToNat,Int.reduceAdd,frz,List.map_cons,List.map_nil]
      repeat refine ⟨rfl,?_⟩
      try simp only [go_sem,hWo,Wo.ss,cSi3,cSi,cE,intS,Int.reduceLT,Int.reduceLE,Int.reduceToNat,Int.reduceAdd,frz,List.map_cons,List.map_nil,k10]
      refine ops_call (.heapE [0,1,2,3,4] (r' := .bool (!decide (((w.setS 1 (A,U)).way 0).length=30))) (H':=hWo vs vy va' vb' (sendW (w.setS 1 (A,U)) 0 e) ++ [.box (cAct 1 1 n c t),.arr 1 true true 49 3 [cSi 1 A U],.arr 1 true true 46 5 [cE e]]) hsd (by simp) (by simp) (by simp [go_sem,pos,cE]) ?_ ?_ ?_) ?_
      · skip
        simp [subHeap,renObj,renCell,renLeaf,pos,hWo,Wo.ss,cSi3,cSi]
        exact ⟨⟨⟨rfl,rfl⟩,rfl,rfl⟩,rfl,rfl⟩
      · simp [renT,ren,renCell,renLeaf]
      · skip
        simp [merge,mergeObj,callId,backF,backId,renObj,renCell,renLeaf,pos,List.range_succ,hWo,Wo.ss,cSi3,cSi,cE,cAct]
      simp only [go_sem,hWo]
      refine ret_keep [] (by simp) (by simp) (by simp [hx,hWo]) ?_ ?_
      · simp [go_sem,L126,R126,hx,pos,hWo]
      · simp [subHeap,renObj,renCell,renLeaf,hx,pos,go_sem,hWo,List.range_succ,Wo.ss,cSi3,cSi]
    · refine ⟨va,vb,?_⟩
      rw [hX] at hap
      rw [if_neg h0]
      generalize apSiX 1 w.q w.v c t=SS at *
      obtain ⟨s0,A,U⟩:=SS
      generalize apEnX 1 w.q w.v c t=e at *
      refine Meets.of_walk Tryz.func126 Tryz.ntmps126 low126 res126 (by simp) fun x hx=>?_
      simp only [go_sem,L126,R126,hWo,Wo.ss,cSi3,cSi,cE,cAct,intS,Int.reduceLT,Int.reduceLE,Int.reduceToNat,Int.reduceAdd,frz,List.map_cons,List.map_nil]
      refine ops_call (.pureE hap (by simp [go_sem,cSi,cAct])) ?_
      try simp only [go_sem,hWo,Wo.ss,cSi3,cSi,cE,intS,Int.reduceLT,Int.reduceLE,Int.reduceToNat,Int.reduceAdd,frz,List.map_cons,List.map_nil,h0]
      repeat refine ⟨rfl,?_⟩
      try simp only [go_sem,hWo,Wo.ss,cSi3,cSi,cE,intS,Int.reduceLT,Int.reduceLE,Int.reduceToNat,Int.reduceAdd,frz,List.map_cons,List.map_nil,h0]
      refine ret_keep [] (by simp) (by simp) (by simp [hx,hWo]) ?_ ?_
      · simp [go_sem,L126,R126,hx,pos,hWo]
      · simp [subHeap,renObj,renCell,renLeaf,hx,pos,go_sem,hWo,List.range_succ,Wo.ss,cSi3,cSi]
set_option maxRecDepth 10000 in
set_option maxHeartbeats 4000000 in
theorem do5_meets (vs vy va vb : Nat) (w : Wo) (h : WoOk w) (i n c : Int) (t : ByteArray) (hi : i = 0 ∨ i = 1) :
    Meets Tryz.prog 126 [.ptr 0 0,.agg (cAct 5 i n c t)] (hWo vs vy va vb w) (.int .i64 0) (hWo vs vy va vb (doW w 5 i n c t)):=by
  have hal:=woAll_meets vs vy va vb w i hi (h.si hi) (h.log (other_of hi))
  have hdW:doW w 5 i n c t=w.setS i (allW w i).2:=by rw [doW,if_neg (by decide),if_pos rfl]
  rw [hdW]
  refine Meets.of_walk Tryz.func126 Tryz.ntmps126 low126 res126 (by simp) fun x hx=>?_
  simp only [go_sem,L126,R126,hWo,Wo.ss,cSi3,cSi,cE,cAct,intS,Int.reduceLT,Int.reduceLE,Int.reduceToNat,Int.reduceAdd,frz,List.map_cons,List.map_nil]
  refine ops_call (.heapE [0,1,2,3,4] (r' := .int .i64 0) (H':=hWo vs vy va vb (w.setS i (allW w i).2) ++ [.box (cAct 5 i n c t)]) hal (by simp) (by simp) (by simp [go_sem,pos]) ?_ ?_ ?_) ?_
  · skip
    simp [subHeap,renObj,renCell,renLeaf,pos,hWo,Wo.ss,cSi3,cSi]
  · simp [renT,ren,renCell,renLeaf]
  · skip
    simp [merge,mergeObj,callId,backF,backId,renObj,renCell,renLeaf,pos,List.range_succ,hWo,Wo.ss,cSi3,cSi,cE,cAct]
  simp only [go_sem,hWo]
  refine ret_keep [] (by simp) (by simp) (by simp [hx,hWo]) ?_ ?_
  · simp [go_sem,L126,R126,hx,pos,hWo]
  · simp [subHeap,renObj,renCell,renLeaf,hx,pos,go_sem,hWo,List.range_succ,Wo.ss,cSi3,cSi]
theorem doErr0_n {w:Wo} {k i n c:Int} {t:ByteArray} (h1:k≠1) (h5:k≠5) (hn:n < 0∨(w.way i).length≤n):doErr0 w k i n c t=5:=by rw [doErr0,if_neg h1,if_neg h5,if_pos hn]
set_option maxRecDepth 10000 in
set_option maxHeartbeats 4000000 in
theorem do3_meets (vs vy va vb : Nat) (w : Wo) (h : WoOk w) (i n c : Int) (t : ByteArray) (hi : i = 0 ∨ i = 1) :
    ∃ va' vb',Meets Tryz.prog 126 [.ptr 0 0,.agg (cAct 3 i n c t)] (hWo vs vy va vb w) (.int .i64 (doErr0 w 3 i n c t)) (hWo vs vy va' vb' (if doErr0 w 3 i n c t=0 then doW w 3 i n c t else w)):=by
  have la:=h.la
  have lb:=h.lb
  rcases hi with rfl | rfl
  · skip
    by_cases hn0:n < 0
    · refine ⟨va,vb,?_⟩
      rw [doErr0_n (by decide) (by decide) (.inl hn0),if_neg (by decide)]
      refine Meets.of_parts Tryz.func126 Tryz.ntmps126 low126 res126 (by simp) fun x hx=>?_
      simp only [LC.flat,L126,R126,List.cons_append,List.nil_append]
      refine WL_join 1 [0,3] 6 (fun st=>st=⟨mkE .top [(3,.rptr (cAct 3 0 n c t)),(0,.ptr 0 0),(3,.ptr 5 0)],hWo vs vy va vb w ++ [.gone]⟩) (by simp [hx,hWo]) (by simp) ?_ ?_
      · simp only [go_sem,L126,R126,List.take_succ_cons,List.take_zero,cAct]
        rw [join_normal]
        refine ⟨by simp [hWo],_,?_,rfl⟩
        have e:=weak_rptr (x:=x) (nt:=114) (st:=⟨mkE .top [(0,.ptr 0 0),(3,.ptr 5 0)],hWo vs vy va vb w ++ [.box (cAct 3 0 n c t)]⟩) (cells':=cAct 3 0 n c t) (H':=hWo vs vy va vb w ++ [.gone]) 3 5 rfl rfl (by simp [cAct,frz]) (by simp [cAct,PV.isPure]) rfl
        rw [put_mk] at e
        refine weak_eqD ?_ e
        simp [trim_mk,go_sem,subHeap,renObj,renCell,renLeaf,pos,List.range_succ,hWo,Wo.ss,cSi3,cSi,cAct]
      rintro st rfl
      refine WL_walk ?_
      simp only [go_sem,L126,R126,List.drop_succ_cons,List.drop_zero,hWo,Wo.ss,cSi3,cSi,cE,cAct,intS,Int.reduceLT,Int.reduceLE,Int.reduceToNat,Int.reduceAdd,frz,List.map_cons,List.map_nil,List.cons_append,List.nil_append,hn0]
      repeat refine ⟨rfl,?_⟩
      refine ret_keep [] (by simp) (by simp) (by simp [hx,hWo]) ?_ ?_
      · simp [go_sem,L126,R126,hx,pos,hWo]
      · simp [subHeap,renObj,renCell,renLeaf,hx,pos,go_sem,hWo,List.range_succ,Wo.ss,cSi3,cSi]
    by_cases hn1:(w.a.length:Int)≤n
    · refine ⟨va,vb,?_⟩
      rw [doErr0_n (by decide) (by decide) (.inr (by show (w.a.length:Int)≤n; exact hn1)),if_neg (by decide)]
      refine Meets.of_parts Tryz.func126 Tryz.ntmps126 low126 res126 (by simp) fun x hx=>?_
      simp only [LC.flat,L126,R126,List.cons_append,List.nil_append]
      refine WL_join 1 [0,3] 6 (fun st=>st=⟨mkE .top [(3,.rptr (cAct 3 0 n c t)),(0,.ptr 0 0),(3,.ptr 5 0)],hWo vs vy va vb w ++ [.gone]⟩) (by simp [hx,hWo]) (by simp) ?_ ?_
      · simp only [go_sem,L126,R126,List.take_succ_cons,List.take_zero,cAct]
        rw [join_normal]
        refine ⟨by simp [hWo],_,?_,rfl⟩
        have e:=weak_rptr (x:=x) (nt:=114) (st:=⟨mkE .top [(0,.ptr 0 0),(3,.ptr 5 0)],hWo vs vy va vb w ++ [.box (cAct 3 0 n c t)]⟩) (cells':=cAct 3 0 n c t) (H':=hWo vs vy va vb w ++ [.gone]) 3 5 rfl rfl (by simp [cAct,frz]) (by simp [cAct,PV.isPure]) rfl
        rw [put_mk] at e
        refine weak_eqD ?_ e
        simp [trim_mk,go_sem,subHeap,renObj,renCell,renLeaf,pos,List.range_succ,hWo,Wo.ss,cSi3,cSi,cAct]
      rintro st rfl
      refine WL_walk ?_
      simp only [go_sem,L126,R126,List.drop_succ_cons,List.drop_zero,hWo,Wo.ss,cSi3,cSi,cE,cAct,intS,Int.reduceLT,Int.reduceLE,Int.reduceToNat,Int.reduceAdd,frz,List.map_cons,List.map_nil,List.cons_append,List.nil_append,hn0]
      simp only [go_sem,hn1,List.length_map]
      repeat refine ⟨rfl,?_⟩
      refine ret_keep [] (by simp) (by simp) (by simp [hx,hWo]) ?_ ?_
      · simp [go_sem,L126,R126,hx,pos,hWo]
      · simp [subHeap,renObj,renCell,renLeaf,hx,pos,go_sem,hWo,List.range_succ,Wo.ss,cSi3,cSi]
    obtain ⟨q,rfl⟩:∃ q:Nat,n=q:=⟨n.toNat,by omega⟩
    have hq:q < w.a.length:=by omega
    have hnn:¬ ((q:Int) < 0∨((w.way 0).length:Int)≤(q:Int)):=by show ¬ ((q:Int) < 0∨(w.a.length:Int)≤(q:Int)); omega
    obtain ⟨va',vb',htk⟩:=take_meets vs vy va vb w 0 q (by omega) hq (by show w.a.length≤30; omega)
    have hce:=h.ca _ (nthM hq)
    have hnN:¬ w.a.length≤q:=by omega
    have hd:doErr0 w 3 0 q c t=0:=by rw [doErr0,if_neg (by decide),if_neg (by decide),if_neg hnn,if_neg (by decide),if_pos rfl]
    have hdW:doW w 3 0 q c t=w.setY 0 ((w.way 0).eraseIdx q):=by rw [doW,if_neg (by decide),if_neg (by decide),if_neg (by decide),if_pos rfl,Int.toNat_natCast]
    refine ⟨va',vb',?_⟩
    rw [hd,if_pos rfl,hdW]
    refine Meets.of_parts Tryz.func126 Tryz.ntmps126 low126 res126 (by simp) fun x hx=>?_
    simp only [LC.flat,L126,R126,List.cons_append,List.nil_append]
    refine WL_join 1 [0,3] 6 (fun st=>st=⟨mkE .top [(3,.rptr (cAct 3 0 (q:Int) c t)),(0,.ptr 0 0),(3,.ptr 5 0)],hWo vs vy va vb w ++ [.gone]⟩) (by simp [hx,hWo]) (by simp) ?_ ?_
    · simp only [go_sem,L126,R126,List.take_succ_cons,List.take_zero,cAct]
      rw [join_normal]
      refine ⟨by simp [hWo],_,?_,rfl⟩
      have e:=weak_rptr (x:=x) (nt:=114) (st:=⟨mkE .top [(0,.ptr 0 0),(3,.ptr 5 0)],hWo vs vy va vb w ++ [.box (cAct 3 0 (q:Int) c t)]⟩) (cells':=cAct 3 0 (q:Int) c t) (H':=hWo vs vy va vb w ++ [.gone]) 3 5 rfl rfl (by simp [cAct,frz]) (by simp [cAct,PV.isPure]) rfl
      rw [put_mk] at e
      refine weak_eqD ?_ e
      simp [trim_mk,go_sem,subHeap,renObj,renCell,renLeaf,pos,List.range_succ,hWo,Wo.ss,cSi3,cSi,cAct]
    rintro st rfl
    refine WL_walk ?_
    simp only [go_sem,L126,R126,List.drop_succ_cons,List.drop_zero,hWo,Wo.ss,cSi3,cSi,cE,cAct,intS,Int.reduceLT,Int.reduceLE,Int.reduceToNat,Int.reduceAdd,frz,List.map_cons,List.map_nil,List.cons_append,List.nil_append,hn0]
    simp only [go_sem,hn0,hnN,List.length_map,intS,Int.reduceLT,Int.reduceLE,Int.reduceToNat,Int.reduceAdd,frz]
    repeat refine ⟨rfl,?_⟩
    try simp only [go_sem,intS,Int.reduceLT,Int.reduceLE,Int.reduceToNat,Int.reduceAdd,frz]
    refine ops_call (.heapE [0,1,2,3,4] (r' := .agg (cE (nth (w.way 0) q))) (H':=hWo vs vy va' vb' (w.setY 0 ((w.way 0).eraseIdx q)) ++ [.gone]) htk (by simp) (by simp) (by simp [go_sem,pos]) ?_ ?_ ?_) ?_
    · skip
      simp [subHeap,renObj,renCell,renLeaf,pos,hWo,Wo.ss,cSi3,cSi]
    · simp [renT,ren,renCell,renLeaf,cE]
    · skip
      simp [merge,mergeObj,callId,backF,backId,renObj,renCell,renLeaf,pos,List.range_succ,hWo,Wo.ss,cSi3,cSi,cE,cAct]
    simp only [go_sem,hWo]
    refine end_keep [] (by simp) (by simp) (by simp [hx,hWo]) ?_ ?_
    · simp [go_sem,L126,R126,hx,pos,hWo]
    · simp [subHeap,renObj,renCell,renLeaf,hx,pos,go_sem,hWo,List.range_succ,Wo.ss,cSi3,cSi]
  · skip
    by_cases hn0:n < 0
    · refine ⟨va,vb,?_⟩
      rw [doErr0_n (by decide) (by decide) (.inl hn0),if_neg (by decide)]
      refine Meets.of_parts Tryz.func126 Tryz.ntmps126 low126 res126 (by simp) fun x hx=>?_
      simp only [LC.flat,L126,R126,List.cons_append,List.nil_append]
      refine WL_join 1 [0,3] 6 (fun st=>st=⟨mkE .top [(3,.rptr (cAct 3 1 n c t)),(0,.ptr 0 0),(3,.ptr 5 0)],hWo vs vy va vb w ++ [.gone]⟩) (by simp [hx,hWo]) (by simp) ?_ ?_
      · simp only [go_sem,L126,R126,List.take_succ_cons,List.take_zero,cAct]
        rw [join_normal]
        refine ⟨by simp [hWo],_,?_,rfl⟩
        have e:=weak_rptr (x:=x) (nt:=114) (st:=⟨mkE .top [(0,.ptr 0 0),(3,.ptr 5 0)],hWo vs vy va vb w ++ [.box (cAct 3 1 n c t)]⟩) (cells':=cAct 3 1 n c t) (H':=hWo vs vy va vb w ++ [.gone]) 3 5 rfl rfl (by simp [cAct,frz]) (by simp [cAct,PV.isPure]) rfl
        rw [put_mk] at e
        refine weak_eqD ?_ e
        simp [trim_mk,go_sem,subHeap,renObj,renCell,renLeaf,pos,List.range_succ,hWo,Wo.ss,cSi3,cSi,cAct]
      rintro st rfl
      refine WL_walk ?_
      simp only [go_sem,L126,R126,List.drop_succ_cons,List.drop_zero,hWo,Wo.ss,cSi3,cSi,cE,cAct,intS,Int.reduceLT,Int.reduceLE,Int.reduceToNat,Int.reduceAdd,frz,List.map_cons,List.map_nil,List.cons_append,List.nil_append,hn0]
      repeat refine ⟨rfl,?_⟩
      refine ret_keep [] (by simp) (by simp) (by simp [hx,hWo]) ?_ ?_
      · simp [go_sem,L126,R126,hx,pos,hWo]
      · simp [subHeap,renObj,renCell,renLeaf,hx,pos,go_sem,hWo,List.range_succ,Wo.ss,cSi3,cSi]
    by_cases hn1:(w.b.length:Int)≤n
    · refine ⟨va,vb,?_⟩
      rw [doErr0_n (by decide) (by decide) (.inr (by show (w.b.length:Int)≤n; exact hn1)),if_neg (by decide)]
      refine Meets.of_parts Tryz.func126 Tryz.ntmps126 low126 res126 (by simp) fun x hx=>?_
      simp only [LC.flat,L126,R126,List.cons_append,List.nil_append]
      refine WL_join 1 [0,3] 6 (fun st=>st=⟨mkE .top [(3,.rptr (cAct 3 1 n c t)),(0,.ptr 0 0),(3,.ptr 5 0)],hWo vs vy va vb w ++ [.gone]⟩) (by simp [hx,hWo]) (by simp) ?_ ?_
      · simp only [go_sem,L126,R126,List.take_succ_cons,List.take_zero,cAct]
        rw [join_normal]
        refine ⟨by simp [hWo],_,?_,rfl⟩
        have e:=weak_rptr (x:=x) (nt:=114) (st:=⟨mkE .top [(0,.ptr 0 0),(3,.ptr 5 0)],hWo vs vy va vb w ++ [.box (cAct 3 1 n c t)]⟩) (cells':=cAct 3 1 n c t) (H':=hWo vs vy va vb w ++ [.gone]) 3 5 rfl rfl (by simp [cAct,frz]) (by simp [cAct,PV.isPure]) rfl
        rw [put_mk] at e
        refine weak_eqD ?_ e
        simp [trim_mk,go_sem,subHeap,renObj,renCell,renLeaf,pos,List.range_succ,hWo,Wo.ss,cSi3,cSi,cAct]
      rintro st rfl
      refine WL_walk ?_
      simp only [go_sem,L126,R126,List.drop_succ_cons,List.drop_zero,hWo,Wo.ss,cSi3,cSi,cE,cAct,intS,Int.reduceLT,Int.reduceLE,Int.reduceToNat,Int.reduceAdd,frz,List.map_cons,List.map_nil,List.cons_append,List.nil_append,hn0]
      simp only [go_sem,hn1,List.length_map]
      repeat refine ⟨rfl,?_⟩
      refine ret_keep [] (by simp) (by simp) (by simp [hx,hWo]) ?_ ?_
      · simp [go_sem,L126,R126,hx,pos,hWo]
      · simp [subHeap,renObj,renCell,renLeaf,hx,pos,go_sem,hWo,List.range_succ,Wo.ss,cSi3,cSi]
    obtain ⟨q,rfl⟩:∃ q:Nat,n=q:=⟨n.toNat,by omega⟩
    have hq:q < w.b.length:=by omega
    have hnn:¬ ((q:Int) < 0∨((w.way 1).length:Int)≤(q:Int)):=by show ¬ ((q:Int) < 0∨(w.b.length:Int)≤(q:Int)); omega
    obtain ⟨va',vb',htk⟩:=take_meets vs vy va vb w 1 q (by omega) hq (by show w.b.length≤30; omega)
    have hce:=h.cb _ (nthM hq)
    have hnN:¬ w.b.length≤q:=by omega
    have hd:doErr0 w 3 1 q c t=0:=by rw [doErr0,if_neg (by decide),if_neg (by decide),if_neg hnn,if_neg (by decide),if_pos rfl]
    have hdW:doW w 3 1 q c t=w.setY 1 ((w.way 1).eraseIdx q):=by rw [doW,if_neg (by decide),if_neg (by decide),if_neg (by decide),if_pos rfl,Int.toNat_natCast]
    refine ⟨va',vb',?_⟩
    rw [hd,if_pos rfl,hdW]
    refine Meets.of_parts Tryz.func126 Tryz.ntmps126 low126 res126 (by simp) fun x hx=>?_
    simp only [LC.flat,L126,R126,List.cons_append,List.nil_append]
    refine WL_join 1 [0,3] 6 (fun st=>st=⟨mkE .top [(3,.rptr (cAct 3 1 (q:Int) c t)),(0,.ptr 0 0),(3,.ptr 5 0)],hWo vs vy va vb w ++ [.gone]⟩) (by simp [hx,hWo]) (by simp) ?_ ?_
    · simp only [go_sem,L126,R126,List.take_succ_cons,List.take_zero,cAct]
      rw [join_normal]
      refine ⟨by simp [hWo],_,?_,rfl⟩
      have e:=weak_rptr (x:=x) (nt:=114) (st:=⟨mkE .top [(0,.ptr 0 0),(3,.ptr 5 0)],hWo vs vy va vb w ++ [.box (cAct 3 1 (q:Int) c t)]⟩) (cells':=cAct 3 1 (q:Int) c t) (H':=hWo vs vy va vb w ++ [.gone]) 3 5 rfl rfl (by simp [cAct,frz]) (by simp [cAct,PV.isPure]) rfl
      rw [put_mk] at e
      refine weak_eqD ?_ e
      simp [trim_mk,go_sem,subHeap,renObj,renCell,renLeaf,pos,List.range_succ,hWo,Wo.ss,cSi3,cSi,cAct]
    rintro st rfl
    refine WL_walk ?_
    simp only [go_sem,L126,R126,List.drop_succ_cons,List.drop_zero,hWo,Wo.ss,cSi3,cSi,cE,cAct,intS,Int.reduceLT,Int.reduceLE,Int.reduceToNat,Int.reduceAdd,frz,List.map_cons,List.map_nil,List.cons_append,List.nil_append,hn0]
    simp only [go_sem,hn0,hnN,List.length_map,intS,Int.reduceLT,Int.reduceLE,Int.reduceToNat,Int.reduceAdd,frz]
    repeat refine ⟨rfl,?_⟩
    try simp only [go_sem,intS,Int.reduceLT,Int.reduceLE,Int.reduceToNat,Int.reduceAdd,frz]
    refine ops_call (.heapE [0,1,2,3,4] (r' := .agg (cE (nth (w.way 1) q))) (H':=hWo vs vy va' vb' (w.setY 1 ((w.way 1).eraseIdx q)) ++ [.gone]) htk (by simp) (by simp) (by simp [go_sem,pos]) ?_ ?_ ?_) ?_
    · skip
      simp [subHeap,renObj,renCell,renLeaf,pos,hWo,Wo.ss,cSi3,cSi]
    · simp [renT,ren,renCell,renLeaf,cE]
    · skip
      simp [merge,mergeObj,callId,backF,backId,renObj,renCell,renLeaf,pos,List.range_succ,hWo,Wo.ss,cSi3,cSi,cE,cAct]
    simp only [go_sem,hWo]
    refine end_keep [] (by simp) (by simp) (by simp [hx,hWo]) ?_ ?_
    · simp [go_sem,L126,R126,hx,pos,hWo]
    · simp [subHeap,renObj,renCell,renLeaf,hx,pos,go_sem,hWo,List.range_succ,Wo.ss,cSi3,cSi]
end Go.Proofs.YtfdolehffjmdmaaGreatDoor
/- Worlds: what is brought,what comes again; an act in a right world: contracts. -/
namespace Go.Proofs.YtfdolehffjmdmaaGreatDoor
set_option linter.unusedSimpArgs false
set_option linter.unusedVariables false
open Go.RowKit
theorem rc_born {w:Wo} (h:WoOk w) {i:Int} (hi:i=0∨i=1) {e:Entry} (hc:checkEntry e=0) (hb:Born w e):rcErr i (w.log i) (w.wts i) e=0:=by
 by_cases hr:e.id.r=i
 ·
  exact if_pos (.inl (findE_pos.2 ⟨e,born_own hb hr,rfl⟩))
 ·
  exact (rc_ok (h.si hi) hc hr).1
set_option maxRecDepth 10000 in
set_option maxHeartbeats 4000000 in
theorem do2_meets (vs vy va vb : Nat) (w : Wo) (h : WoOk w) (i n c : Int) (t : ByteArray) (hi : i = 0 ∨ i = 1) :
    ∃ va' vb',Meets Tryz.prog 126 [.ptr 0 0,.agg (cAct 2 i n c t)] (hWo vs vy va vb w) (.int .i64 (doErr0 w 2 i n c t)) (hWo vs vy va' vb' (if doErr0 w 2 i n c t=0 then doW w 2 i n c t else w)):=by
  have la:=h.la
  have lb:=h.lb
  rcases hi with rfl | rfl
  · skip
    by_cases hn0:n < 0
    · refine ⟨va,vb,?_⟩
      rw [doErr0_n (by decide) (by decide) (.inl hn0),if_neg (by decide)]
      refine Meets.of_parts Tryz.func126 Tryz.ntmps126 low126 res126 (by simp) fun x hx=>?_
      simp only [LC.flat,L126,R126,List.cons_append,List.nil_append]
      refine WL_join 1 [0,3] 6 (fun st=>st=⟨mkE .top [(3,.rptr (cAct 2 0 n c t)),(0,.ptr 0 0),(3,.ptr 5 0)],hWo vs vy va vb w ++ [.gone]⟩) (by simp [hx,hWo]) (by simp) ?_ ?_
      · simp only [go_sem,L126,R126,List.take_succ_cons,List.take_zero,cAct]
        rw [join_normal]
        refine ⟨by simp [hWo],_,?_,rfl⟩
        have e:=weak_rptr (x:=x) (nt:=114) (st:=⟨mkE .top [(0,.ptr 0 0),(3,.ptr 5 0)],hWo vs vy va vb w ++ [.box (cAct 2 0 n c t)]⟩) (cells':=cAct 2 0 n c t) (H':=hWo vs vy va vb w ++ [.gone]) 3 5 rfl rfl (by simp [cAct,frz]) (by simp [cAct,PV.isPure]) rfl
        rw [put_mk] at e
        refine weak_eqD ?_ e
        simp [trim_mk,go_sem,subHeap,renObj,renCell,renLeaf,pos,List.range_succ,hWo,Wo.ss,cSi3,cSi,cAct]
      rintro st rfl
      refine WL_walk ?_
      simp only [go_sem,L126,R126,List.drop_succ_cons,List.drop_zero,hWo,Wo.ss,cSi3,cSi,cE,cAct,intS,Int.reduceLT,Int.reduceLE,Int.reduceToNat,Int.reduceAdd,frz,List.map_cons,List.map_nil,List.cons_append,List.nil_append,hn0]
      repeat refine ⟨rfl,?_⟩
      refine ret_keep [] (by simp) (by simp) (by simp [hx,hWo]) ?_ ?_
      · simp [go_sem,L126,R126,hx,pos,hWo]
      · simp [subHeap,renObj,renCell,renLeaf,hx,pos,go_sem,hWo,List.range_succ,Wo.ss,cSi3,cSi]
    by_cases hn1:(w.a.length:Int)≤n
    · refine ⟨va,vb,?_⟩
      rw [doErr0_n (by decide) (by decide) (.inr (by show (w.a.length:Int)≤n; exact hn1)),if_neg (by decide)]
      refine Meets.of_parts Tryz.func126 Tryz.ntmps126 low126 res126 (by simp) fun x hx=>?_
      simp only [LC.flat,L126,R126,List.cons_append,List.nil_append]
      refine WL_join 1 [0,3] 6 (fun st=>st=⟨mkE .top [(3,.rptr (cAct 2 0 n c t)),(0,.ptr 0 0),(3,.ptr 5 0)],hWo vs vy va vb w ++ [.gone]⟩) (by simp [hx,hWo]) (by simp) ?_ ?_
      · simp only [go_sem,L126,R126,List.take_succ_cons,List.take_zero,cAct]
        rw [join_normal]
        refine ⟨by simp [hWo],_,?_,rfl⟩
        have e:=weak_rptr (x:=x) (nt:=114) (st:=⟨mkE .top [(0,.ptr 0 0),(3,.ptr 5 0)],hWo vs vy va vb w ++ [.box (cAct 2 0 n c t)]⟩) (cells':=cAct 2 0 n c t) (H':=hWo vs vy va vb w ++ [.gone]) 3 5 rfl rfl (by simp [cAct,frz]) (by simp [cAct,PV.isPure]) rfl
        rw [put_mk] at e
        refine weak_eqD ?_ e
        simp [trim_mk,go_sem,subHeap,renObj,renCell,renLeaf,pos,List.range_succ,hWo,Wo.ss,cSi3,cSi,cAct]
      rintro st rfl
      refine WL_walk ?_
      simp only [go_sem,L126,R126,List.drop_succ_cons,List.drop_zero,hWo,Wo.ss,cSi3,cSi,cE,cAct,intS,Int.reduceLT,Int.reduceLE,Int.reduceToNat,Int.reduceAdd,frz,List.map_cons,List.map_nil,List.cons_append,List.nil_append,hn0]
      simp only [go_sem,hn1,List.length_map]
      repeat refine ⟨rfl,?_⟩
      refine ret_keep [] (by simp) (by simp) (by simp [hx,hWo]) ?_ ?_
      · simp [go_sem,L126,R126,hx,pos,hWo]
      · simp [subHeap,renObj,renCell,renLeaf,hx,pos,go_sem,hWo,List.range_succ,Wo.ss,cSi3,cSi]
    obtain ⟨q,rfl⟩:∃ q:Nat,n=q:=⟨n.toNat,by omega⟩
    have hq:q < w.a.length:=by omega
    have hnn:¬ ((q:Int) < 0∨((w.way 0).length:Int)≤(q:Int)):=by show ¬ ((q:Int) < 0∨(w.a.length:Int)≤(q:Int)); omega
    have hce:=h.ca _ (nthM hq)
    have hnN:¬ w.a.length≤q:=by omega
    have hgq:w.a[q]? = some (nth w.a q):=nth_get? _ _ hq
    have hbo:=h.ba _ (nthM hq)
    obtain ⟨va',vb',htk⟩:=take_meets vs vy va vb w 0 q (by omega) hq (by show w.a.length≤30; omega)
    have hr0:rcErr 0 (w.log 0) (w.wts 0) (nth w.a q)=0:=rc_born h (by omega) hce hbo
    have hrc:=receive_meets vs vy va' vb' (w.setY 0 ((w.way 0).eraseIdx q)) 0 (nth w.a q) (h.si (by omega)) hce
    have hr1:rcErr 0 ((w.setY 0 ((w.way 0).eraseIdx q)).log 0) ((w.setY 0 ((w.way 0).eraseIdx q)).wts 0) (nth w.a q)=0:=hr0
    have hd:doErr0 w 2 0 q c t=0:=by rw [doErr0,if_neg (by decide),if_neg (by decide),if_neg hnn,if_pos rfl,Int.toNat_natCast]; exact hr0
    have hdW:doW w 2 0 q c t=recW (w.setY 0 ((w.way 0).eraseIdx q)) 0 (nth w.a q):=by
      rw [doW,if_neg (by decide),if_neg (by decide),if_pos rfl,Int.toNat_natCast,recW,if_pos hr1]; rfl
    rw [hr1] at hrc
    refine ⟨va',vb',?_⟩
    rw [hd,if_pos rfl,hdW]
    have htk:Meets Tryz.prog 155 [.ptr 0 0,.int .i64 0,.int .i64 q] (hWo vs vy va vb w) (.agg (cE (nth w.a q))) (hWo vs vy va' vb' (w.setY 0 ((w.way 0).eraseIdx q))):=htk
    generalize recW (w.setY 0 ((w.way 0).eraseIdx q)) 0 (nth w.a q)=w3 at *
    generalize w.setY 0 ((w.way 0).eraseIdx q)=w2 at *
    refine Meets.of_parts Tryz.func126 Tryz.ntmps126 low126 res126 (by simp) fun x hx=>?_
    simp only [LC.flat,L126,R126,List.cons_append,List.nil_append]
    refine WL_join 1 [0,3] 6 (fun st=>st=⟨mkE .top [(3,.rptr (cAct 2 0 (q:Int) c t)),(0,.ptr 0 0),(3,.ptr 5 0)],hWo vs vy va vb w ++ [.gone]⟩) (by simp [hx,hWo]) (by simp) ?_ ?_
    · simp only [go_sem,L126,R126,List.take_succ_cons,List.take_zero,cAct]
      rw [join_normal]
      refine ⟨by simp [hWo],_,?_,rfl⟩
      have e:=weak_rptr (x:=x) (nt:=114) (st:=⟨mkE .top [(0,.ptr 0 0),(3,.ptr 5 0)],hWo vs vy va vb w ++ [.box (cAct 2 0 (q:Int) c t)]⟩) (cells':=cAct 2 0 (q:Int) c t) (H':=hWo vs vy va vb w ++ [.gone]) 3 5 rfl rfl (by simp [cAct,frz]) (by simp [cAct,PV.isPure]) rfl
      rw [put_mk] at e
      refine weak_eqD ?_ e
      simp [trim_mk,go_sem,subHeap,renObj,renCell,renLeaf,pos,List.range_succ,hWo,Wo.ss,cSi3,cSi,cAct]
    rintro st rfl
    refine WL_walk ?_
    simp only [go_sem,L126,R126,List.drop_succ_cons,List.drop_zero,hWo,Wo.ss,cSi3,cSi,cE,cAct,intS,Int.reduceLT,Int.reduceLE,Int.reduceToNat,Int.reduceAdd,frz,List.map_cons,List.map_nil,List.cons_append,List.nil_append,hn0]
    simp only [go_sem,hn0,hnN,List.length_map,intS,Int.reduceLT,Int.reduceLE,Int.reduceToNat,Int.reduceAdd,frz]
    repeat refine ⟨rfl,?_⟩
    try simp only [go_sem,intS,Int.reduceLT,Int.reduceLE,Int.reduceToNat,Int.reduceAdd,frz]
    refine ops_call3 (.heapE [0,1,2,3,4] (r' := .agg (cE (nth w.a q))) (H':=hWo vs vy va' vb' w2 ++ [.gone]) htk (by simp) (by simp) (by simp [go_sem,pos]) ?_ ?_ ?_) ?_
    · skip
      simp [subHeap,renObj,renCell,renLeaf,pos,hWo,Wo.ss,cSi3,cSi]
    · simp [renT,ren,renCell,renLeaf,cE]
    · skip
      simp [merge,mergeObj,callId,backF,backId,renObj,renCell,renLeaf,pos,List.range_succ,hWo,Wo.ss,cSi3,cSi,cE,cAct]
    simp only [go_sem,hWo,intS,Int.reduceLT,Int.reduceLE,Int.reduceToNat,Int.reduceAdd,frz,List.cons_append,List.nil_append]
    refine ops_call (.heapE [0,1,2,3,4] (r' := .int .i64 0) (H':=hWo vs vy va' vb' w3 ++ [.gone]) hrc (by simp) (by simp) (by simp [go_sem,pos,cE]) ?_ ?_ ?_) ?_
    · skip
      simp [subHeap,renObj,renCell,renLeaf,pos,hWo,Wo.ss,cSi3,cSi]
    · simp [renT,ren,renCell,renLeaf]
    · skip
      simp [merge,mergeObj,callId,backF,backId,renObj,renCell,renLeaf,pos,List.range_succ,hWo,Wo.ss,cSi3,cSi,cE,cAct]
    simp only [go_sem,hWo,intS,Int.reduceLT,Int.reduceLE,Int.reduceToNat,Int.reduceAdd,frz]
    repeat refine ⟨rfl,?_⟩
    try simp only [go_sem,intS,Int.reduceLT,Int.reduceLE,Int.reduceToNat,Int.reduceAdd,frz]
    refine ret_keep [] (by simp) (by simp) (by simp [hx,hWo]) ?_ ?_
    · simp [go_sem,L126,R126,hx,pos,hWo]
    · simp [subHeap,renObj,renCell,renLeaf,hx,pos,go_sem,hWo,List.range_succ,Wo.ss,cSi3,cSi]
  · skip
    by_cases hn0:n < 0
    · refine ⟨va,vb,?_⟩
      rw [doErr0_n (by decide) (by decide) (.inl hn0),if_neg (by decide)]
      refine Meets.of_parts Tryz.func126 Tryz.ntmps126 low126 res126 (by simp) fun x hx=>?_
      simp only [LC.flat,L126,R126,List.cons_append,List.nil_append]
      refine WL_join 1 [0,3] 6 (fun st=>st=⟨mkE .top [(3,.rptr (cAct 2 1 n c t)),(0,.ptr 0 0),(3,.ptr 5 0)],hWo vs vy va vb w ++ [.gone]⟩) (by simp [hx,hWo]) (by simp) ?_ ?_
      · simp only [go_sem,L126,R126,List.take_succ_cons,List.take_zero,cAct]
        rw [join_normal]
        refine ⟨by simp [hWo],_,?_,rfl⟩
        have e:=weak_rptr (x:=x) (nt:=114) (st:=⟨mkE .top [(0,.ptr 0 0),(3,.ptr 5 0)],hWo vs vy va vb w ++ [.box (cAct 2 1 n c t)]⟩) (cells':=cAct 2 1 n c t) (H':=hWo vs vy va vb w ++ [.gone]) 3 5 rfl rfl (by simp [cAct,frz]) (by simp [cAct,PV.isPure]) rfl
        rw [put_mk] at e
        refine weak_eqD ?_ e
        simp [trim_mk,go_sem,subHeap,renObj,renCell,renLeaf,pos,List.range_succ,hWo,Wo.ss,cSi3,cSi,cAct]
      rintro st rfl
      refine WL_walk ?_
      simp only [go_sem,L126,R126,List.drop_succ_cons,List.drop_zero,hWo,Wo.ss,cSi3,cSi,cE,cAct,intS,Int.reduceLT,Int.reduceLE,Int.reduceToNat,Int.reduceAdd,frz,List.map_cons,List.map_nil,List.cons_append,List.nil_append,hn0]
      repeat refine ⟨rfl,?_⟩
      refine ret_keep [] (by simp) (by simp) (by simp [hx,hWo]) ?_ ?_
      · simp [go_sem,L126,R126,hx,pos,hWo]
      · simp [subHeap,renObj,renCell,renLeaf,hx,pos,go_sem,hWo,List.range_succ,Wo.ss,cSi3,cSi]
    by_cases hn1:(w.b.length:Int)≤n
    · refine ⟨va,vb,?_⟩
      rw [doErr0_n (by decide) (by decide) (.inr (by show (w.b.length:Int)≤n; exact hn1)),if_neg (by decide)]
      refine Meets.of_parts Tryz.func126 Tryz.ntmps126 low126 res126 (by simp) fun x hx=>?_
      simp only [LC.flat,L126,R126,List.cons_append,List.nil_append]
      refine WL_join 1 [0,3] 6 (fun st=>st=⟨mkE .top [(3,.rptr (cAct 2 1 n c t)),(0,.ptr 0 0),(3,.ptr 5 0)],hWo vs vy va vb w ++ [.gone]⟩) (by simp [hx,hWo]) (by simp) ?_ ?_
      · simp only [go_sem,L126,R126,List.take_succ_cons,List.take_zero,cAct]
        rw [join_normal]
        refine ⟨by simp [hWo],_,?_,rfl⟩
        have e:=weak_rptr (x:=x) (nt:=114) (st:=⟨mkE .top [(0,.ptr 0 0),(3,.ptr 5 0)],hWo vs vy va vb w ++ [.box (cAct 2 1 n c t)]⟩) (cells':=cAct 2 1 n c t) (H':=hWo vs vy va vb w ++ [.gone]) 3 5 rfl rfl (by simp [cAct,frz]) (by simp [cAct,PV.isPure]) rfl
        rw [put_mk] at e
        refine weak_eqD ?_ e
        simp [trim_mk,go_sem,subHeap,renObj,renCell,renLeaf,pos,List.range_succ,hWo,Wo.ss,cSi3,cSi,cAct]
      rintro st rfl
      refine WL_walk ?_
      simp only [go_sem,L126,R126,List.drop_succ_cons,List.drop_zero,hWo,Wo.ss,cSi3,cSi,cE,cAct,intS,Int.reduceLT,Int.reduceLE,Int.reduceToNat,Int.reduceAdd,frz,List.map_cons,List.map_nil,List.cons_append,List.nil_append,hn0]
      simp only [go_sem,hn1,List.length_map]
      repeat refine ⟨rfl,?_⟩
      refine ret_keep [] (by simp) (by simp) (by simp [hx,hWo]) ?_ ?_
      · simp [go_sem,L126,R126,hx,pos,hWo]
      · simp [subHeap,renObj,renCell,renLeaf,hx,pos,go_sem,hWo,List.range_succ,Wo.ss,cSi3,cSi]
    obtain ⟨q,rfl⟩:∃ q:Nat,n=q:=⟨n.toNat,by omega⟩
    have hq:q < w.b.length:=by omega
    have hnn:¬ ((q:Int) < 0∨((w.way 1).length:Int)≤(q:Int)):=by show ¬ ((q:Int) < 0∨(w.b.length:Int)≤(q:Int)); omega
    have hce:=h.cb _ (nthM hq)
    have hnN:¬ w.b.length≤q:=by omega
    have hgq:w.b[q]? = some (nth w.b q):=nth_get? _ _ hq
    have hbo:=h.bb _ (nthM hq)
    obtain ⟨va',vb',htk⟩:=take_meets vs vy va vb w 1 q (by omega) hq (by show w.b.length≤30; omega)
    have hr0:rcErr 1 (w.log 1) (w.wts 1) (nth w.b q)=0:=rc_born h (by omega) hce hbo
    have hrc:=receive_meets vs vy va' vb' (w.setY 1 ((w.way 1).eraseIdx q)) 1 (nth w.b q) (h.si (by omega)) hce
    have hr1:rcErr 1 ((w.setY 1 ((w.way 1).eraseIdx q)).log 1) ((w.setY 1 ((w.way 1).eraseIdx q)).wts 1) (nth w.b q)=0:=hr0
    have hd:doErr0 w 2 1 q c t=0:=by rw [doErr0,if_neg (by decide),if_neg (by decide),if_neg hnn,if_pos rfl,Int.toNat_natCast]; exact hr0
    have hdW:doW w 2 1 q c t=recW (w.setY 1 ((w.way 1).eraseIdx q)) 1 (nth w.b q):=by
      rw [doW,if_neg (by decide),if_neg (by decide),if_pos rfl,Int.toNat_natCast,recW,if_pos hr1]; rfl
    rw [hr1] at hrc
    refine ⟨va',vb',?_⟩
    rw [hd,if_pos rfl,hdW]
    have htk:Meets Tryz.prog 155 [.ptr 0 0,.int .i64 1,.int .i64 q] (hWo vs vy va vb w) (.agg (cE (nth w.b q))) (hWo vs vy va' vb' (w.setY 1 ((w.way 1).eraseIdx q))):=htk
    generalize recW (w.setY 1 ((w.way 1).eraseIdx q)) 1 (nth w.b q)=w3 at *
    generalize w.setY 1 ((w.way 1).eraseIdx q)=w2 at *
    refine Meets.of_parts Tryz.func126 Tryz.ntmps126 low126 res126 (by simp) fun x hx=>?_
    simp only [LC.flat,L126,R126,List.cons_append,List.nil_append]
    refine WL_join 1 [0,3] 6 (fun st=>st=⟨mkE .top [(3,.rptr (cAct 2 1 (q:Int) c t)),(0,.ptr 0 0),(3,.ptr 5 0)],hWo vs vy va vb w ++ [.gone]⟩) (by simp [hx,hWo]) (by simp) ?_ ?_
    · simp only [go_sem,L126,R126,List.take_succ_cons,List.take_zero,cAct]
      rw [join_normal]
      refine ⟨by simp [hWo],_,?_,rfl⟩
      have e:=weak_rptr (x:=x) (nt:=114) (st:=⟨mkE .top [(0,.ptr 0 0),(3,.ptr 5 0)],hWo vs vy va vb w ++ [.box (cAct 2 1 (q:Int) c t)]⟩) (cells':=cAct 2 1 (q:Int) c t) (H':=hWo vs vy va vb w ++ [.gone]) 3 5 rfl rfl (by simp [cAct,frz]) (by simp [cAct,PV.isPure]) rfl
      rw [put_mk] at e
      refine weak_eqD ?_ e
      simp [trim_mk,go_sem,subHeap,renObj,renCell,renLeaf,pos,List.range_succ,hWo,Wo.ss,cSi3,cSi,cAct]
    rintro st rfl
    refine WL_walk ?_
    simp only [go_sem,L126,R126,List.drop_succ_cons,List.drop_zero,hWo,Wo.ss,cSi3,cSi,cE,cAct,intS,Int.reduceLT,Int.reduceLE,Int.reduceToNat,Int.reduceAdd,frz,List.map_cons,List.map_nil,List.cons_append,List.nil_append,hn0]
    simp only [go_sem,hn0,hnN,List.length_map,intS,Int.reduceLT,Int.reduceLE,Int.reduceToNat,Int.reduceAdd,frz]
    repeat refine ⟨rfl,?_⟩
    try simp only [go_sem,intS,Int.reduceLT,Int.reduceLE,Int.reduceToNat,Int.reduceAdd,frz]
    refine ops_call3 (.heapE [0,1,2,3,4] (r' := .agg (cE (nth w.b q))) (H':=hWo vs vy va' vb' w2 ++ [.gone]) htk (by simp) (by simp) (by simp [go_sem,pos]) ?_ ?_ ?_) ?_
    · skip
      simp [subHeap,renObj,renCell,renLeaf,pos,hWo,Wo.ss,cSi3,cSi]
    · simp [renT,ren,renCell,renLeaf,cE]
    · skip
      simp [merge,mergeObj,callId,backF,backId,renObj,renCell,renLeaf,pos,List.range_succ,hWo,Wo.ss,cSi3,cSi,cE,cAct]
    simp only [go_sem,hWo,intS,Int.reduceLT,Int.reduceLE,Int.reduceToNat,Int.reduceAdd,frz,List.cons_append,List.nil_append]
    refine ops_call (.heapE [0,1,2,3,4] (r' := .int .i64 0) (H':=hWo vs vy va' vb' w3 ++ [.gone]) hrc (by simp) (by simp) (by simp [go_sem,pos,cE]) ?_ ?_ ?_) ?_
    · skip
      simp [subHeap,renObj,renCell,renLeaf,pos,hWo,Wo.ss,cSi3,cSi]
    · simp [renT,ren,renCell,renLeaf]
    · skip
      simp [merge,mergeObj,callId,backF,backId,renObj,renCell,renLeaf,pos,List.range_succ,hWo,Wo.ss,cSi3,cSi,cE,cAct]
    simp only [go_sem,hWo,intS,Int.reduceLT,Int.reduceLE,Int.reduceToNat,Int.reduceAdd,frz]
    repeat refine ⟨rfl,?_⟩
    try simp only [go_sem,intS,Int.reduceLT,Int.reduceLE,Int.reduceToNat,Int.reduceAdd,frz]
    refine ret_keep [] (by simp) (by simp) (by simp [hx,hWo]) ?_ ?_
    · simp [go_sem,L126,R126,hx,pos,hWo]
    · simp [subHeap,renObj,renCell,renLeaf,hx,pos,go_sem,hWo,List.range_succ,Wo.ss,cSi3,cSi]
set_option maxRecDepth 10000 in
set_option maxHeartbeats 4000000 in
theorem do4_meets (vs vy va vb : Nat) (w : Wo) (h : WoOk w) (i n c : Int) (t : ByteArray) (hi : i = 0 ∨ i = 1) :
    ∃ va' vb',Meets Tryz.prog 126 [.ptr 0 0,.agg (cAct 4 i n c t)] (hWo vs vy va vb w) (.int .i64 (doErr0 w 4 i n c t)) (hWo vs vy va' vb' (if doErr0 w 4 i n c t=0 then doW w 4 i n c t else w)):=by
  have la:=h.la
  have lb:=h.lb
  rcases hi with rfl | rfl
  · skip
    by_cases hn0:n < 0
    · refine ⟨va,vb,?_⟩
      rw [doErr0_n (by decide) (by decide) (.inl hn0),if_neg (by decide)]
      refine Meets.of_parts Tryz.func126 Tryz.ntmps126 low126 res126 (by simp) fun x hx=>?_
      simp only [LC.flat,L126,R126,List.cons_append,List.nil_append]
      refine WL_join 1 [0,3] 6 (fun st=>st=⟨mkE .top [(3,.rptr (cAct 4 0 n c t)),(0,.ptr 0 0),(3,.ptr 5 0)],hWo vs vy va vb w ++ [.gone]⟩) (by simp [hx,hWo]) (by simp) ?_ ?_
      · simp only [go_sem,L126,R126,List.take_succ_cons,List.take_zero,cAct]
        rw [join_normal]
        refine ⟨by simp [hWo],_,?_,rfl⟩
        have e:=weak_rptr (x:=x) (nt:=114) (st:=⟨mkE .top [(0,.ptr 0 0),(3,.ptr 5 0)],hWo vs vy va vb w ++ [.box (cAct 4 0 n c t)]⟩) (cells':=cAct 4 0 n c t) (H':=hWo vs vy va vb w ++ [.gone]) 3 5 rfl rfl (by simp [cAct,frz]) (by simp [cAct,PV.isPure]) rfl
        rw [put_mk] at e
        refine weak_eqD ?_ e
        simp [trim_mk,go_sem,subHeap,renObj,renCell,renLeaf,pos,List.range_succ,hWo,Wo.ss,cSi3,cSi,cAct]
      rintro st rfl
      refine WL_walk ?_
      simp only [go_sem,L126,R126,List.drop_succ_cons,List.drop_zero,hWo,Wo.ss,cSi3,cSi,cE,cAct,intS,Int.reduceLT,Int.reduceLE,Int.reduceToNat,Int.reduceAdd,frz,List.map_cons,List.map_nil,List.cons_append,List.nil_append,hn0]
      repeat refine ⟨rfl,?_⟩
      refine ret_keep [] (by simp) (by simp) (by simp [hx,hWo]) ?_ ?_
      · simp [go_sem,L126,R126,hx,pos,hWo]
      · simp [subHeap,renObj,renCell,renLeaf,hx,pos,go_sem,hWo,List.range_succ,Wo.ss,cSi3,cSi]
    by_cases hn1:(w.a.length:Int)≤n
    · refine ⟨va,vb,?_⟩
      rw [doErr0_n (by decide) (by decide) (.inr (by show (w.a.length:Int)≤n; exact hn1)),if_neg (by decide)]
      refine Meets.of_parts Tryz.func126 Tryz.ntmps126 low126 res126 (by simp) fun x hx=>?_
      simp only [LC.flat,L126,R126,List.cons_append,List.nil_append]
      refine WL_join 1 [0,3] 6 (fun st=>st=⟨mkE .top [(3,.rptr (cAct 4 0 n c t)),(0,.ptr 0 0),(3,.ptr 5 0)],hWo vs vy va vb w ++ [.gone]⟩) (by simp [hx,hWo]) (by simp) ?_ ?_
      · simp only [go_sem,L126,R126,List.take_succ_cons,List.take_zero,cAct]
        rw [join_normal]
        refine ⟨by simp [hWo],_,?_,rfl⟩
        have e:=weak_rptr (x:=x) (nt:=114) (st:=⟨mkE .top [(0,.ptr 0 0),(3,.ptr 5 0)],hWo vs vy va vb w ++ [.box (cAct 4 0 n c t)]⟩) (cells':=cAct 4 0 n c t) (H':=hWo vs vy va vb w ++ [.gone]) 3 5 rfl rfl (by simp [cAct,frz]) (by simp [cAct,PV.isPure]) rfl
        rw [put_mk] at e
        refine weak_eqD ?_ e
        simp [trim_mk,go_sem,subHeap,renObj,renCell,renLeaf,pos,List.range_succ,hWo,Wo.ss,cSi3,cSi,cAct]
      rintro st rfl
      refine WL_walk ?_
      simp only [go_sem,L126,R126,List.drop_succ_cons,List.drop_zero,hWo,Wo.ss,cSi3,cSi,cE,cAct,intS,Int.reduceLT,Int.reduceLE,Int.reduceToNat,Int.reduceAdd,frz,List.map_cons,List.map_nil,List.cons_append,List.nil_append,hn0]
      simp only [go_sem,hn1,List.length_map]
      repeat refine ⟨rfl,?_⟩
      refine ret_keep [] (by simp) (by simp) (by simp [hx,hWo]) ?_ ?_
      · simp [go_sem,L126,R126,hx,pos,hWo]
      · simp [subHeap,renObj,renCell,renLeaf,hx,pos,go_sem,hWo,List.range_succ,Wo.ss,cSi3,cSi]
    obtain ⟨q,rfl⟩:∃ q:Nat,n=q:=⟨n.toNat,by omega⟩
    have hq:q < w.a.length:=by omega
    have hnn:¬ ((q:Int) < 0∨((w.way 0).length:Int)≤(q:Int)):=by show ¬ ((q:Int) < 0∨(w.a.length:Int)≤(q:Int)); omega
    have hce:=h.ca _ (nthM hq)
    have hnN:¬ w.a.length≤q:=by omega
    have hgq:w.a[q]? = some (nth w.a q):=nth_get? _ _ hq
    have hls:=(check_fit hce).2
    obtain ⟨va',vb',hsd⟩:=send_meets vs vy va vb w 0 (nth w.a q) (by omega) (by show w.a.length≤30; omega) hls
    have hd:doErr0 w 4 0 q c t=if w.a.length=30 then 2 else 0:=by rw [doErr0,if_neg (by decide),if_neg (by decide),if_neg hnn,if_neg (by decide),if_neg (by decide)]; rfl
    have hdW:doW w 4 0 q c t=w.setY 0 ((w.way 0) ++ [nth w.a q]):=by rw [doW,if_neg (by decide),if_neg (by decide),if_neg (by decide),if_neg (by decide),Int.toNat_natCast]; rfl
    refine ⟨va',vb',?_⟩
    by_cases h30:w.a.length=30
    · have hs:sendW w 0 (nth w.a q)=w:=by rw [sendW,if_pos (show (w.way 0).length=30 from h30)]
      have hb:(!decide ((w.way 0).length=30))=false:=by show (!decide (w.a.length=30))=false; simp [h30]
      rw [hs,hb] at hsd
      rw [hd,if_pos h30,if_neg (by decide)]
      refine Meets.of_parts Tryz.func126 Tryz.ntmps126 low126 res126 (by simp) fun x hx=>?_
      simp only [LC.flat,L126,R126,List.cons_append,List.nil_append]
      refine WL_join 1 [0,3] 6 (fun st=>st=⟨mkE .top [(3,.rptr (cAct 4 0 (q:Int) c t)),(0,.ptr 0 0),(3,.ptr 5 0)],hWo vs vy va vb w ++ [.gone]⟩) (by simp [hx,hWo]) (by simp) ?_ ?_
      · simp only [go_sem,L126,R126,List.take_succ_cons,List.take_zero,cAct]
        rw [join_normal]
        refine ⟨by simp [hWo],_,?_,rfl⟩
        have e:=weak_rptr (x:=x) (nt:=114) (st:=⟨mkE .top [(0,.ptr 0 0),(3,.ptr 5 0)],hWo vs vy va vb w ++ [.box (cAct 4 0 (q:Int) c t)]⟩) (cells':=cAct 4 0 (q:Int) c t) (H':=hWo vs vy va vb w ++ [.gone]) 3 5 rfl rfl (by simp [cAct,frz]) (by simp [cAct,PV.isPure]) rfl
        rw [put_mk] at e
        refine weak_eqD ?_ e
        simp [trim_mk,go_sem,subHeap,renObj,renCell,renLeaf,pos,List.range_succ,hWo,Wo.ss,cSi3,cSi,cAct]
      rintro st rfl
      refine WL_walk ?_
      simp only [go_sem,L126,R126,List.drop_succ_cons,List.drop_zero,hWo,Wo.ss,cSi3,cSi,cE,cAct,intS,Int.reduceLT,Int.reduceLE,Int.reduceToNat,Int.reduceAdd,frz,List.map_cons,List.map_nil,List.cons_append,List.nil_append,hn0]
      simp only [go_sem,hn0,hnN,List.length_map,intS,Int.reduceLT,Int.reduceLE,Int.reduceToNat,Int.reduceAdd,frz]
      repeat refine ⟨rfl,?_⟩
      try simp only [go_sem,intS,Int.reduceLT,Int.reduceLE,Int.reduceToNat,Int.reduceAdd,frz,hq,hgq,cE]
      refine ops_call (.heapE [0,1,2,3,4] (r' := .bool false) (H':=hWo vs vy va' vb' w ++ [.gone]) hsd (by simp) (by simp) (by simp [go_sem,pos,cE]) ?_ ?_ ?_) ?_
      · skip
        simp [subHeap,renObj,renCell,renLeaf,pos,hWo,Wo.ss,cSi3,cSi]
      · simp [renT,ren,renCell,renLeaf]
      · skip
        simp [merge,mergeObj,callId,backF,backId,renObj,renCell,renLeaf,pos,List.range_succ,hWo,Wo.ss,cSi3,cSi,cE,cAct]
      simp only [go_sem,hWo,intS,Int.reduceLT,Int.reduceLE,Int.reduceToNat,Int.reduceAdd,frz]
      repeat refine ⟨rfl,?_⟩
      try simp only [go_sem,intS,Int.reduceLT,Int.reduceLE,Int.reduceToNat,Int.reduceAdd,frz]
      refine ret_keep [] (by simp) (by simp) (by simp [hx,hWo]) ?_ ?_
      · simp [go_sem,L126,R126,hx,pos,hWo]
      · simp [subHeap,renObj,renCell,renLeaf,hx,pos,go_sem,hWo,List.range_succ,Wo.ss,cSi3,cSi]
    · have hs:sendW w 0 (nth w.a q)=w.setY 0 ((w.way 0) ++ [nth w.a q]):=by rw [sendW,if_neg (show ¬ (w.way 0).length=30 from h30)]
      have hb:(!decide ((w.way 0).length=30))=true:=by show (!decide (w.a.length=30))=true; simp [h30]
      rw [hs,hb] at hsd
      rw [hd,if_neg h30,if_pos rfl,hdW]
      generalize w.setY 0 ((w.way 0) ++ [nth w.a q])=w2 at *
      refine Meets.of_parts Tryz.func126 Tryz.ntmps126 low126 res126 (by simp) fun x hx=>?_
      simp only [LC.flat,L126,R126,List.cons_append,List.nil_append]
      refine WL_join 1 [0,3] 6 (fun st=>st=⟨mkE .top [(3,.rptr (cAct 4 0 (q:Int) c t)),(0,.ptr 0 0),(3,.ptr 5 0)],hWo vs vy va vb w ++ [.gone]⟩) (by simp [hx,hWo]) (by simp) ?_ ?_
      · simp only [go_sem,L126,R126,List.take_succ_cons,List.take_zero,cAct]
        rw [join_normal]
        refine ⟨by simp [hWo],_,?_,rfl⟩
        have e:=weak_rptr (x:=x) (nt:=114) (st:=⟨mkE .top [(0,.ptr 0 0),(3,.ptr 5 0)],hWo vs vy va vb w ++ [.box (cAct 4 0 (q:Int) c t)]⟩) (cells':=cAct 4 0 (q:Int) c t) (H':=hWo vs vy va vb w ++ [.gone]) 3 5 rfl rfl (by simp [cAct,frz]) (by simp [cAct,PV.isPure]) rfl
        rw [put_mk] at e
        refine weak_eqD ?_ e
        simp [trim_mk,go_sem,subHeap,renObj,renCell,renLeaf,pos,List.range_succ,hWo,Wo.ss,cSi3,cSi,cAct]
      rintro st rfl
      refine WL_walk ?_
      simp only [go_sem,L126,R126,List.drop_succ_cons,List.drop_zero,hWo,Wo.ss,cSi3,cSi,cE,cAct,intS,Int.reduceLT,Int.reduceLE,Int.reduceToNat,Int.reduceAdd,frz,List.map_cons,List.map_nil,List.cons_append,List.nil_append,hn0]
      simp only [go_sem,hn0,hnN,List.length_map,intS,Int.reduceLT,Int.reduceLE,Int.reduceToNat,Int.reduceAdd,frz]
      repeat refine ⟨rfl,?_⟩
      try simp only [go_sem,intS,Int.reduceLT,Int.reduceLE,Int.reduceToNat,Int.reduceAdd,frz,hq,hgq,cE]
      refine ops_call (.heapE [0,1,2,3,4] (r' := .bool true) (H':=hWo vs vy va' vb' w2 ++ [.gone]) hsd (by simp) (by simp) (by simp [go_sem,pos,cE]) ?_ ?_ ?_) ?_
      · skip
        simp [subHeap,renObj,renCell,renLeaf,pos,hWo,Wo.ss,cSi3,cSi]
      · simp [renT,ren,renCell,renLeaf]
      · skip
        simp [merge,mergeObj,callId,backF,backId,renObj,renCell,renLeaf,pos,List.range_succ,hWo,Wo.ss,cSi3,cSi,cE,cAct]
      simp only [go_sem,hWo,intS,Int.reduceLT,Int.reduceLE,Int.reduceToNat,Int.reduceAdd,frz]
      repeat refine ⟨rfl,?_⟩
      try simp only [go_sem,intS,Int.reduceLT,Int.reduceLE,Int.reduceToNat,Int.reduceAdd,frz]
      refine end_keep [] (by simp) (by simp) (by simp [hx,hWo]) ?_ ?_
      · simp [go_sem,L126,R126,hx,pos,hWo]
      · simp [subHeap,renObj,renCell,renLeaf,hx,pos,go_sem,hWo,List.range_succ,Wo.ss,cSi3,cSi]
  · skip
    by_cases hn0:n < 0
    · refine ⟨va,vb,?_⟩
      rw [doErr0_n (by decide) (by decide) (.inl hn0),if_neg (by decide)]
      refine Meets.of_parts Tryz.func126 Tryz.ntmps126 low126 res126 (by simp) fun x hx=>?_
      simp only [LC.flat,L126,R126,List.cons_append,List.nil_append]
      refine WL_join 1 [0,3] 6 (fun st=>st=⟨mkE .top [(3,.rptr (cAct 4 1 n c t)),(0,.ptr 0 0),(3,.ptr 5 0)],hWo vs vy va vb w ++ [.gone]⟩) (by simp [hx,hWo]) (by simp) ?_ ?_
      · simp only [go_sem,L126,R126,List.take_succ_cons,List.take_zero,cAct]
        rw [join_normal]
        refine ⟨by simp [hWo],_,?_,rfl⟩
        have e:=weak_rptr (x:=x) (nt:=114) (st:=⟨mkE .top [(0,.ptr 0 0),(3,.ptr 5 0)],hWo vs vy va vb w ++ [.box (cAct 4 1 n c t)]⟩) (cells':=cAct 4 1 n c t) (H':=hWo vs vy va vb w ++ [.gone]) 3 5 rfl rfl (by simp [cAct,frz]) (by simp [cAct,PV.isPure]) rfl
        rw [put_mk] at e
        refine weak_eqD ?_ e
        simp [trim_mk,go_sem,subHeap,renObj,renCell,renLeaf,pos,List.range_succ,hWo,Wo.ss,cSi3,cSi,cAct]
      rintro st rfl
      refine WL_walk ?_
      simp only [go_sem,L126,R126,List.drop_succ_cons,List.drop_zero,hWo,Wo.ss,cSi3,cSi,cE,cAct,intS,Int.reduceLT,Int.reduceLE,Int.reduceToNat,Int.reduceAdd,frz,List.map_cons,List.map_nil,List.cons_append,List.nil_append,hn0]
      repeat refine ⟨rfl,?_⟩
      refine ret_keep [] (by simp) (by simp) (by simp [hx,hWo]) ?_ ?_
      · simp [go_sem,L126,R126,hx,pos,hWo]
      · simp [subHeap,renObj,renCell,renLeaf,hx,pos,go_sem,hWo,List.range_succ,Wo.ss,cSi3,cSi]
    by_cases hn1:(w.b.length:Int)≤n
    · refine ⟨va,vb,?_⟩
      rw [doErr0_n (by decide) (by decide) (.inr (by show (w.b.length:Int)≤n; exact hn1)),if_neg (by decide)]
      refine Meets.of_parts Tryz.func126 Tryz.ntmps126 low126 res126 (by simp) fun x hx=>?_
      simp only [LC.flat,L126,R126,List.cons_append,List.nil_append]
      refine WL_join 1 [0,3] 6 (fun st=>st=⟨mkE .top [(3,.rptr (cAct 4 1 n c t)),(0,.ptr 0 0),(3,.ptr 5 0)],hWo vs vy va vb w ++ [.gone]⟩) (by simp [hx,hWo]) (by simp) ?_ ?_
      · simp only [go_sem,L126,R126,List.take_succ_cons,List.take_zero,cAct]
        rw [join_normal]
        refine ⟨by simp [hWo],_,?_,rfl⟩
        have e:=weak_rptr (x:=x) (nt:=114) (st:=⟨mkE .top [(0,.ptr 0 0),(3,.ptr 5 0)],hWo vs vy va vb w ++ [.box (cAct 4 1 n c t)]⟩) (cells':=cAct 4 1 n c t) (H':=hWo vs vy va vb w ++ [.gone]) 3 5 rfl rfl (by simp [cAct,frz]) (by simp [cAct,PV.isPure]) rfl
        rw [put_mk] at e
        refine weak_eqD ?_ e
        simp [trim_mk,go_sem,subHeap,renObj,renCell,renLeaf,pos,List.range_succ,hWo,Wo.ss,cSi3,cSi,cAct]
      rintro st rfl
      refine WL_walk ?_
      simp only [go_sem,L126,R126,List.drop_succ_cons,List.drop_zero,hWo,Wo.ss,cSi3,cSi,cE,cAct,intS,Int.reduceLT,Int.reduceLE,Int.reduceToNat,Int.reduceAdd,frz,List.map_cons,List.map_nil,List.cons_append,List.nil_append,hn0]
      simp only [go_sem,hn1,List.length_map]
      repeat refine ⟨rfl,?_⟩
      refine ret_keep [] (by simp) (by simp) (by simp [hx,hWo]) ?_ ?_
      · simp [go_sem,L126,R126,hx,pos,hWo]
      · simp [subHeap,renObj,renCell,renLeaf,hx,pos,go_sem,hWo,List.range_succ,Wo.ss,cSi3,cSi]
    obtain ⟨q,rfl⟩:∃ q:Nat,n=q:=⟨n.toNat,by omega⟩
    have hq:q < w.b.length:=by omega
    have hnn:¬ ((q:Int) < 0∨((w.way 1).length:Int)≤(q:Int)):=by show ¬ ((q:Int) < 0∨(w.b.length:Int)≤(q:Int)); omega
    have hce:=h.cb _ (nthM hq)
    have hnN:¬ w.b.length≤q:=by omega
    have hgq:w.b[q]? = some (nth w.b q):=nth_get? _ _ hq
    have hls:=(check_fit hce).2
    obtain ⟨va',vb',hsd⟩:=send_meets vs vy va vb w 1 (nth w.b q) (by omega) (by show w.b.length≤30; omega) hls
    have hd:doErr0 w 4 1 q c t=if w.b.length=30 then 2 else 0:=by rw [doErr0,if_neg (by decide),if_neg (by decide),if_neg hnn,if_neg (by decide),if_neg (by decide)]; rfl
    have hdW:doW w 4 1 q c t=w.setY 1 ((w.way 1) ++ [nth w.b q]):=by rw [doW,if_neg (by decide),if_neg (by decide),if_neg (by decide),if_neg (by decide),Int.toNat_natCast]; rfl
    refine ⟨va',vb',?_⟩
    by_cases h30:w.b.length=30
    · have hs:sendW w 1 (nth w.b q)=w:=by rw [sendW,if_pos (show (w.way 1).length=30 from h30)]
      have hb:(!decide ((w.way 1).length=30))=false:=by show (!decide (w.b.length=30))=false; simp [h30]
      rw [hs,hb] at hsd
      rw [hd,if_pos h30,if_neg (by decide)]
      refine Meets.of_parts Tryz.func126 Tryz.ntmps126 low126 res126 (by simp) fun x hx=>?_
      simp only [LC.flat,L126,R126,List.cons_append,List.nil_append]
      refine WL_join 1 [0,3] 6 (fun st=>st=⟨mkE .top [(3,.rptr (cAct 4 1 (q:Int) c t)),(0,.ptr 0 0),(3,.ptr 5 0)],hWo vs vy va vb w ++ [.gone]⟩) (by simp [hx,hWo]) (by simp) ?_ ?_
      · simp only [go_sem,L126,R126,List.take_succ_cons,List.take_zero,cAct]
        rw [join_normal]
        refine ⟨by simp [hWo],_,?_,rfl⟩
        have e:=weak_rptr (x:=x) (nt:=114) (st:=⟨mkE .top [(0,.ptr 0 0),(3,.ptr 5 0)],hWo vs vy va vb w ++ [.box (cAct 4 1 (q:Int) c t)]⟩) (cells':=cAct 4 1 (q:Int) c t) (H':=hWo vs vy va vb w ++ [.gone]) 3 5 rfl rfl (by simp [cAct,frz]) (by simp [cAct,PV.isPure]) rfl
        rw [put_mk] at e
        refine weak_eqD ?_ e
        simp [trim_mk,go_sem,subHeap,renObj,renCell,renLeaf,pos,List.range_succ,hWo,Wo.ss,cSi3,cSi,cAct]
      rintro st rfl
      refine WL_walk ?_
      simp only [go_sem,L126,R126,List.drop_succ_cons,List.drop_zero,hWo,Wo.ss,cSi3,cSi,cE,cAct,intS,Int.reduceLT,Int.reduceLE,Int.reduceToNat,Int.reduceAdd,frz,List.map_cons,List.map_nil,List.cons_append,List.nil_append,hn0]
      simp only [go_sem,hn0,hnN,List.length_map,intS,Int.reduceLT,Int.reduceLE,Int.reduceToNat,Int.reduceAdd,frz]
      repeat refine ⟨rfl,?_⟩
      try simp only [go_sem,intS,Int.reduceLT,Int.reduceLE,Int.reduceToNat,Int.reduceAdd,frz,hq,hgq,cE]
      refine ops_call (.heapE [0,1,2,3,4] (r' := .bool false) (H':=hWo vs vy va' vb' w ++ [.gone]) hsd (by simp) (by simp) (by simp [go_sem,pos,cE]) ?_ ?_ ?_) ?_
      · skip
        simp [subHeap,renObj,renCell,renLeaf,pos,hWo,Wo.ss,cSi3,cSi]
      · simp [renT,ren,renCell,renLeaf]
      · skip
        simp [merge,mergeObj,callId,backF,backId,renObj,renCell,renLeaf,pos,List.range_succ,hWo,Wo.ss,cSi3,cSi,cE,cAct]
      simp only [go_sem,hWo,intS,Int.reduceLT,Int.reduceLE,Int.reduceToNat,Int.reduceAdd,frz]
      repeat refine ⟨rfl,?_⟩
      try simp only [go_sem,intS,Int.reduceLT,Int.reduceLE,Int.reduceToNat,Int.reduceAdd,frz]
      refine ret_keep [] (by simp) (by simp) (by simp [hx,hWo]) ?_ ?_
      · simp [go_sem,L126,R126,hx,pos,hWo]
      · simp [subHeap,renObj,renCell,renLeaf,hx,pos,go_sem,hWo,List.range_succ,Wo.ss,cSi3,cSi]
    · have hs:sendW w 1 (nth w.b q)=w.setY 1 ((w.way 1) ++ [nth w.b q]):=by rw [sendW,if_neg (show ¬ (w.way 1).length=30 from h30)]
      have hb:(!decide ((w.way 1).length=30))=true:=by show (!decide (w.b.length=30))=true; simp [h30]
      rw [hs,hb] at hsd
      rw [hd,if_neg h30,if_pos rfl,hdW]
      generalize w.setY 1 ((w.way 1) ++ [nth w.b q])=w2 at *
      refine Meets.of_parts Tryz.func126 Tryz.ntmps126 low126 res126 (by simp) fun x hx=>?_
      simp only [LC.flat,L126,R126,List.cons_append,List.nil_append]
      refine WL_join 1 [0,3] 6 (fun st=>st=⟨mkE .top [(3,.rptr (cAct 4 1 (q:Int) c t)),(0,.ptr 0 0),(3,.ptr 5 0)],hWo vs vy va vb w ++ [.gone]⟩) (by simp [hx,hWo]) (by simp) ?_ ?_
      · simp only [go_sem,L126,R126,List.take_succ_cons,List.take_zero,cAct]
        rw [join_normal]
        refine ⟨by simp [hWo],_,?_,rfl⟩
        have e:=weak_rptr (x:=x) (nt:=114) (st:=⟨mkE .top [(0,.ptr 0 0),(3,.ptr 5 0)],hWo vs vy va vb w ++ [.box (cAct 4 1 (q:Int) c t)]⟩) (cells':=cAct 4 1 (q:Int) c t) (H':=hWo vs vy va vb w ++ [.gone]) 3 5 rfl rfl (by simp [cAct,frz]) (by simp [cAct,PV.isPure]) rfl
        rw [put_mk] at e
        refine weak_eqD ?_ e
        simp [trim_mk,go_sem,subHeap,renObj,renCell,renLeaf,pos,List.range_succ,hWo,Wo.ss,cSi3,cSi,cAct]
      rintro st rfl
      refine WL_walk ?_
      simp only [go_sem,L126,R126,List.drop_succ_cons,List.drop_zero,hWo,Wo.ss,cSi3,cSi,cE,cAct,intS,Int.reduceLT,Int.reduceLE,Int.reduceToNat,Int.reduceAdd,frz,List.map_cons,List.map_nil,List.cons_append,List.nil_append,hn0]
      simp only [go_sem,hn0,hnN,List.length_map,intS,Int.reduceLT,Int.reduceLE,Int.reduceToNat,Int.reduceAdd,frz]
      repeat refine ⟨rfl,?_⟩
      try simp only [go_sem,intS,Int.reduceLT,Int.reduceLE,Int.reduceToNat,Int.reduceAdd,frz,hq,hgq,cE]
      refine ops_call (.heapE [0,1,2,3,4] (r' := .bool true) (H':=hWo vs vy va' vb' w2 ++ [.gone]) hsd (by simp) (by simp) (by simp [go_sem,pos,cE]) ?_ ?_ ?_) ?_
      · skip
        simp [subHeap,renObj,renCell,renLeaf,pos,hWo,Wo.ss,cSi3,cSi]
      · simp [renT,ren,renCell,renLeaf]
      · skip
        simp [merge,mergeObj,callId,backF,backId,renObj,renCell,renLeaf,pos,List.range_succ,hWo,Wo.ss,cSi3,cSi,cE,cAct]
      simp only [go_sem,hWo,intS,Int.reduceLT,Int.reduceLE,Int.reduceToNat,Int.reduceAdd,frz]
      repeat refine ⟨rfl,?_⟩
      try simp only [go_sem,intS,Int.reduceLT,Int.reduceLE,Int.reduceToNat,Int.reduceAdd,frz]
      refine end_keep [] (by simp) (by simp) (by simp [hx,hWo]) ?_ ?_
      · simp [go_sem,L126,R126,hx,pos,hWo]
      · simp [subHeap,renObj,renCell,renLeaf,hx,pos,go_sem,hWo,List.range_succ,Wo.ss,cSi3,cSi]
theorem do_meets (vs vy va vb : Nat) (w : Wo) (h : WoOk w) (k i n c : Int) (t : ByteArray) (hi : i = 0 ∨ i = 1) (hk : ¬ (k < 1 ∨ 5 < k)) :
    ∃ va' vb',Meets Tryz.prog 126 [.ptr 0 0,.agg (cAct k i n c t)] (hWo vs vy va vb w) (.int .i64 (doErr0 w k i n c t)) (hWo vs vy va' vb' (if doErr0 w k i n c t=0 then doW w k i n c t else w)):=by
  have:k=1∨k=2∨k=3∨k=4∨k=5:=by omega
  rcases this with rfl | rfl | rfl | rfl | rfl
  · exact do1_meets vs vy va vb w h i n c t hi
  · exact do2_meets vs vy va vb w h i n c t hi
  · exact do3_meets vs vy va vb w h i n c t hi
  · exact do4_meets vs vy va vb w h i n c t hi
  · have h0:doErr0 w 5 i n c t=0:=by rw [doErr0,if_neg (by decide),if_pos rfl]; exact (allW_ok h hi).1
    refine ⟨va,vb,?_⟩
    rw [h0,if_pos rfl]
    exact do5_meets vs vy va vb w h i n c t hi
theorem extra_meets (k i n c:Int) (t:ByteArray):Meets Tryz.prog 125 [.agg (cAct k i n c t)] [] (.bool (extraB k n c t)) []:=by
 have ht:decide (t=⟨#[]⟩)=decide (t.size=0):=by
  rw [Bool.eq_iff_iff,decide_eq_true_eq,decide_eq_true_eq]
  constructor
  ·
   intro h; rw [h]; rfl
  ·
   intro h; exact ByteArray.ext (Array.eq_empty_of_size_eq_zero h)
 refine Meets.of_walk Tryz.func125 Tryz.ntmps125 low125 res125 (by simp) fun x hx=>?_
 by_cases k1:k=1
 ·
  subst k1
  by_cases n0:n=0
  ·
   simp only [go_sem,L125,R125,cAct,intS,Int.reduceLT,Int.reduceLE,Int.reduceToNat,Int.reduceAdd,frz,n0]
   repeat refine ⟨rfl,?_⟩
   refine ret_pure hx ?_
   simp [go_sem,L125,R125,extraB,n0]
  ·
   simp only [go_sem,L125,R125,cAct,intS,Int.reduceLT,Int.reduceLE,Int.reduceToNat,Int.reduceAdd,frz,n0]
   repeat refine ⟨rfl,?_⟩
   refine ret_pure hx ?_
   simp [go_sem,L125,R125,extraB,n0]
 ·
  by_cases c0:c=0
  ·
   by_cases t0:t.size=0
   ·
    by_cases k5:k=5
    ·
     subst k5
     by_cases n0:n=0
     ·
      simp only [go_sem,L125,R125,cAct,intS,Int.reduceLT,Int.reduceLE,Int.reduceToNat,Int.reduceAdd,frz,n0,c0,ht,t0]
      repeat refine ⟨rfl,?_⟩
      refine ret_pure hx ?_
      simp [go_sem,L125,R125,extraB,n0,t0]
     ·
      simp only [go_sem,L125,R125,cAct,intS,Int.reduceLT,Int.reduceLE,Int.reduceToNat,Int.reduceAdd,frz,n0,c0,ht,t0]
      repeat refine ⟨rfl,?_⟩
      refine ret_pure hx ?_
      simp [go_sem,L125,R125,extraB,n0,t0]
    ·
     simp only [go_sem,L125,R125,cAct,intS,Int.reduceLT,Int.reduceLE,Int.reduceToNat,Int.reduceAdd,frz,k1,k5,c0,ht,t0]
     repeat refine ⟨rfl,?_⟩
     refine ret_pure hx ?_
     simp [go_sem,L125,R125,extraB,k1,k5,t0]
   ·
    simp only [go_sem,L125,R125,cAct,intS,Int.reduceLT,Int.reduceLE,Int.reduceToNat,Int.reduceAdd,frz,k1,c0,ht,t0]
    repeat refine ⟨rfl,?_⟩
    refine ret_pure hx ?_
    simp [go_sem,L125,R125,extraB,k1,t0]
  ·
   simp only [go_sem,L125,R125,cAct,intS,Int.reduceLT,Int.reduceLE,Int.reduceToNat,Int.reduceAdd,frz,k1,c0]
   repeat refine ⟨rfl,?_⟩
   refine ret_pure hx ?_
   simp [go_sem,L125,R125,extraB,k1,c0]
end Go.Proofs.YtfdolehffjmdmaaGreatDoor
/- Worlds: an act in a right world: a contract. -/
namespace Go.Proofs.YtfdolehffjmdmaaGreatDoor
set_option linter.unusedSimpArgs false
set_option linter.unusedVariables false
open Go.RowKit
def cWo (w:Wo):List PV:=cWd w.ss w.ys
def cWoN:List PV := [.list [],.list []]
def doC (w:Wo) (k i n c:Int) (t:ByteArray):List PV:=if doErr w k i n c t=0 then cWo (doW w k i n c t) else cWoN
set_option maxRecDepth 10000 in
set_option maxHeartbeats 4000000 in
theorem raw_meets (w:Wo) (h:WoOk w) (k i n c:Int) (t:ByteArray):Meets Tryz.prog 80 [.agg (cWo w),.agg (cAct k i n c t)] [] (.tup [.agg (doC w k i n c t),.int .i64 (doErr w k i n c t)]) []:=by
  refine Meets.of_walk Tryz.func80 Tryz.ntmps80 low80 res80 (by simp) fun x hx=>?_
  have hown:=woOwn_meets w h
  simp only [go_sem,L80,R80,cWo,cWd,cAct,intS,Int.reduceLT,Int.reduceLE,Int.reduceToNat,Int.reduceAdd,frz]
  refine ops_call (.heapE [] (r' := .ptr 3 0) (H' := [.box (cWo w),.box (cAct k i n c t),.box [.nilsl,.nilsl],.box [.arr 4 2,.arr 5 2],.arr 2 true false 49 3 (w.ss.map cSi3),.arr 2 true true 22 1 [[.arr 6 w.a.length],[.arr 7 w.b.length]],.arr w.a.length true false 46 5 (w.a.map cE),.arr w.b.length true false 46 5 (w.b.map cE)]) hown (by simp) (by simp) (by simp [go_sem,cWo,cWd]) rfl rfl rfl) ?_
  by_cases hk:k < 1∨5 < k
  · have e:doErr w k i n c t=7:=by rw [doErr,if_pos hk]
    rcases hk with hk | hk
    · simp only [go_sem,hk,intS,Int.reduceLT,Int.reduceLE,Int.reduceToNat,Int.reduceAdd,frz,cAct]
      refine ret_pure hx ?_
      simp [go_sem,L80,R80,doC,e,cWoN]
    · have hk1:¬ k < 1:=by omega
      simp only [go_sem,hk,hk1,intS,Int.reduceLT,Int.reduceLE,Int.reduceToNat,Int.reduceAdd,frz,cAct]
      refine ret_pure hx ?_
      simp [go_sem,L80,R80,doC,e,cWoN]
  · have hk1:¬ k < 1:=by omega
    have hk2:¬ 5 < k:=by omega
    simp only [go_sem,hk1,hk2,intS,Int.reduceLT,Int.reduceLE,Int.reduceToNat,Int.reduceAdd,frz,cAct]
    refine ops_call (.pureE (extra_meets k i n c t) (by simp [go_sem,cAct])) ?_
    cases hx2:extraB k n c t
    · by_cases hi:i=0∨i=1
      · have e:doErr w k i n c t=doErr0 w k i n c t:=by rw [doErr,if_neg hk,if_neg (by simp [hx2]),if_neg (by simp [hi])]
        obtain ⟨va',vb',hdo⟩:=do_meets 2 2 w.a.length w.b.length w h k i n c t hi hk
        have hi0:(¬ i=0∧¬ i=1)=False:=by simp; omega
        have hcall : CallTo Tryz.prog 126 [.ptr 3 0, .agg (cAct k i n c t)] ([.box (cWo w), .box (cAct k i n c t), .box [.nilsl, .nilsl], .box [.arr 4 2, .arr 5 2], .arr 2 true false 49 3 (w.ss.map cSi3), .arr 2 true true 22 1 [[.arr 6 w.a.length], [.arr 7 w.b.length]], .arr w.a.length true false 46 5 (w.a.map cE), .arr w.b.length true false 46 5 (w.b.map cE)]) true (.int .i64 (doErr0 w k i n c t))
            ([.box (cWo w),.box (cAct k i n c t),.box [.nilsl,.nilsl],.box [.arr 4 2,.arr 5 2],.arr 2 true false 49 3 ((if doErr0 w k i n c t=0 then doW w k i n c t else w).ss.map cSi3),.arr 2 true true 22 1 [[.arr 6 va'],[.arr 7 vb']],.arr va' true false 46 5 ((if doErr0 w k i n c t=0 then doW w k i n c t else w).a.map cE),.arr vb' true false 46 5 ((if doErr0 w k i n c t=0 then doW w k i n c t else w).b.map cE)]):=by
          refine .heapE [3,4,5,6,7] hdo (by simp) (by simp) (by simp [go_sem,pos,cAct]) ?_ ?_ ?_
          · simp [subHeap,renObj,renCell,renLeaf,pos,hWo]
          · simp [renT,ren,renCell,renLeaf]
          · simp [merge,mergeObj,callId,backF,backId,renObj,renCell,renLeaf,pos,List.range_succ,hWo,cAct]
        by_cases h0:doErr0 w k i n c t=0
        · rw [if_pos h0,h0] at hcall
          have eW:doC w k i n c t=cWo (doW w k i n c t):=by rw [doC,e,if_pos h0]
          rw [eW,e,h0]
          generalize doW w k i n c t=w2 at *
          rcases hi with rfl | rfl
          · skip
            simp only [go_sem,intS,Int.reduceLT,Int.reduceLE,Int.reduceToNat,Int.reduceAdd,frz,cAct]
            refine ops_call hcall ?_
            simp only [go_sem,intS,Int.reduceLT,Int.reduceLE,Int.reduceToNat,Int.reduceAdd,frz]
            refine ret_weak (weak_shut 6 rfl) ?_
            refine ret_weak (weak_shut 7 rfl) ?_
            refine ret_weak (weak_pu 5 rfl rfl (by simp [frz,PV.isPure])) ?_
            refine ret_weak (weak_shut 4 rfl) ?_
            refine ret_pure hx ?_
            simp [go_sem,L80,R80,cWo,cWd,cYs,Wo.ys,frzAt,pos,frz]
          · skip
            simp only [go_sem,intS,Int.reduceLT,Int.reduceLE,Int.reduceToNat,Int.reduceAdd,frz,cAct]
            refine ops_call hcall ?_
            simp only [go_sem,intS,Int.reduceLT,Int.reduceLE,Int.reduceToNat,Int.reduceAdd,frz]
            refine ret_weak (weak_shut 6 rfl) ?_
            refine ret_weak (weak_shut 7 rfl) ?_
            refine ret_weak (weak_pu 5 rfl rfl (by simp [frz,PV.isPure])) ?_
            refine ret_weak (weak_shut 4 rfl) ?_
            refine ret_pure hx ?_
            simp [go_sem,L80,R80,cWo,cWd,cYs,Wo.ys,frzAt,pos,frz]
        · rw [if_neg h0] at hcall
          have eW:doC w k i n c t=cWoN:=by rw [doC,e,if_neg h0]
          rw [eW,e]
          rcases hi with rfl | rfl
          · skip
            simp only [go_sem,intS,Int.reduceLT,Int.reduceLE,Int.reduceToNat,Int.reduceAdd,frz,cAct]
            refine ops_call hcall ?_
            simp only [go_sem,intS,Int.reduceLT,Int.reduceLE,Int.reduceToNat,Int.reduceAdd,frz,h0]
            refine ret_pure hx ?_
            simp [go_sem,L80,R80,cWoN]
          · skip
            simp only [go_sem,intS,Int.reduceLT,Int.reduceLE,Int.reduceToNat,Int.reduceAdd,frz,cAct]
            refine ops_call hcall ?_
            simp only [go_sem,intS,Int.reduceLT,Int.reduceLE,Int.reduceToNat,Int.reduceAdd,frz,h0]
            refine ret_pure hx ?_
            simp [go_sem,L80,R80,cWoN]
      · have e:doErr w k i n c t=3:=by rw [doErr,if_neg hk,if_neg (by simp [hx2]),if_pos hi]
        have hi0:¬ i=0:=by omega
        have hi1:¬ i=1:=by omega
        simp only [go_sem,hi0,hi1,intS,Int.reduceLT,Int.reduceLE,Int.reduceToNat,Int.reduceAdd,frz]
        refine ret_pure hx ?_
        simp [go_sem,L80,R80,doC,e,cWoN]
    · have e:doErr w k i n c t=1:=by rw [doErr,if_neg hk,if_pos hx2]
      simp only [go_sem,intS,Int.reduceLT,Int.reduceLE,Int.reduceToNat,Int.reduceAdd,frz]
      refine ret_pure hx ?_
      simp [go_sem,L80,R80,doC,e,cWoN]
end Go.Proofs.YtfdolehffjmdmaaGreatDoor
/- Worlds: Do,Settle,New: contracts. -/
namespace Go.Proofs.YtfdolehffjmdmaaGreatDoor
set_option linter.unusedSimpArgs false
set_option linter.unusedVariables false
open Go.RowKit
theorem okSs_of {w:Wo} (h:WoOk w):okSs w.ss∧okYs w.ys:=by
 have a:=(h.log (i:=0) (.inl rfl)).len
 have b:=(h.log (i:=1) (.inr rfl)).len
 have a:w.p.length≤40:=a
 have b:w.q.length≤40:=b
 obtain ⟨-,-,-,-,-,-,-,c⟩:=si_pre h.s0
 obtain ⟨-,-,-,-,-,-,-,d⟩:=si_pre h.s1
 have la:=h.la
 have lb:=h.lb
 refine ⟨fun s hs=>?_,fun l hl=>?_⟩
 ·
  simp only [Wo.ss,List.mem_cons,List.not_mem_nil,or_false] at hs
  rcases hs with rfl | rfl
  ·
   simp only; omega
  ·
   simp only; omega
 ·
  simp only [Wo.ys,List.mem_cons,List.not_mem_nil,or_false] at hl
  rcases hl with rfl | rfl
  ·
   omega
  ·
   omega
def hS2 (w0 w:Wo):List AObj := [.box (cWo w0),.box [.nilsl,.nilsl],.box [.arr 3 2,.arr 4 2],.arr 2 true false 49 3 (w.ss.map cSi3),.arr 2 true true 22 1 [[.arr 5 w0.a.length],[.arr 6 w0.b.length]],.arr w0.a.length true false 46 5 (w.a.map cE),.arr w0.b.length true false 46 5 (w.b.map cE)]
set_option maxHeartbeats 4000000 in
theorem settle_ok (w:Wo) (h:WoOk w):Meets Tryz.prog 34 [.agg (cWo w)] [] (.tup [.agg (cWo (stW w)),.int .i64 0]) []:=by
  obtain ⟨o1,o2⟩:=okSs_of h
  have hown:=woOwn_meets w h
  have k1:IntKind.i64.wrap 1=1:=by decide
  have k2:IntKind.i64.wrap 2=2:=by decide
  obtain ⟨-,a2,-,-,-⟩:=allW_ok h (.inl rfl)
  have hal0:=woAll_meets 2 2 w.a.length w.b.length w 0 (.inl rfl) h.s0 (h.log (.inr rfl))
  have hal1:Meets Tryz.prog 79 [.ptr 0 0,.int .i64 1] (hWo 2 2 w.a.length w.b.length (w.setS 0 (allW w 0).2)) (.int .i64 0) (hWo 2 2 w.a.length w.b.length (stW w)):=woAll_meets 2 2 w.a.length w.b.length (w.setS 0 (allW w 0).2) 1 (.inr rfl) (a2.si (.inr rfl)) (a2.log (.inl rfl))
  refine Meets.of_walk Tryz.func34 Tryz.ntmps34 low34 res34 (by simp) fun x hx=>?_
  simp only [go_sem,L34,R34,cWo,cWd]
  refine ops_call (.pureE (worldCheck_meets w.ss w.ys (by simp [Wo.ss]) (by simp [Wo.ys]) o1 o2) (by simp [go_sem,cWd])) ?_
  rw [woErr_ok.2 h]
  simp only [go_sem,intS,Int.reduceLT,Int.reduceLE,Int.reduceToNat,Int.reduceAdd,frz,cWo,cWd]
  refine ops_call (.heapE [] (r' := .ptr 2 0) (H':=hS2 w w) hown (by simp) (by simp) (by simp [go_sem,cWd]) rfl rfl rfl) ?_
  simp only [go_sem,intS,Int.reduceLT,Int.reduceLE,Int.reduceToNat,Int.reduceAdd,frz]
  refine loop_keep [2, 5, 16] (fun m st => (m = 2 ∧ st = ⟨mkE .top [(2, .ptr 1 0), (5, .ptr 2 0), (16, .int .i64 0)], hS2 w w⟩) ∨
      (m=1∧st=⟨mkE .top [(2,.ptr 1 0),(5,.ptr 2 0),(16,.int .i64 1)],hS2 w (w.setS 0 (allW w 0).2)⟩) ∨
      (m=0∧st=⟨mkE .top [(2,.ptr 1 0),(5,.ptr 2 0),(16,.int .i64 2)],hS2 w (stW w)⟩)) 2 ?_ ?_
  · refine .inl ⟨rfl,?_⟩
    simp [keep_mk,go_sem]
  · rintro m st (⟨rfl,rfl⟩ | ⟨rfl,rfl⟩ | ⟨rfl,rfl⟩)
    · skip
      have hcall:CallTo Tryz.prog 79 [.ptr 2 0,.int .i64 0] (hS2 w w) true (.int .i64 0) (hS2 w (w.setS 0 (allW w 0).2)):=by
        refine .heapE [2,3,4,5,6] (hal0) (by simp) (by simp [hS2]) (by simp [go_sem,pos]) ?_ ?_ ?_
        · simp [subHeap,renObj,renCell,renLeaf,pos,hWo,hS2]
        · simp [renT,ren,renCell,renLeaf]
        · simp [merge,mergeObj,callId,backF,backId,renObj,renCell,renLeaf,pos,List.range_succ,hWo,hS2]
      simp only [go_sem,hS2,intS,Int.reduceLT,Int.reduceLE,Int.reduceToNat,Int.reduceAdd,frz]
      refine ops_call hcall ?_
      simp only [go_sem,hS2,intS,Int.reduceLT,Int.reduceLE,Int.reduceToNat,Int.reduceAdd,frz,k1,k2]
      refine ⟨1,by omega,.inr (.inl ⟨rfl,?_⟩)⟩
      simp [keep_mk,go_sem,hS2]
    · skip
      have hcall:CallTo Tryz.prog 79 [.ptr 2 0,.int .i64 1] (hS2 w (w.setS 0 (allW w 0).2)) true (.int .i64 0) (hS2 w (stW w)):=by
        refine .heapE [2,3,4,5,6] (hal1) (by simp) (by simp [hS2]) (by simp [go_sem,pos]) ?_ ?_ ?_
        · simp [subHeap,renObj,renCell,renLeaf,pos,hWo,hS2]
        · simp [renT,ren,renCell,renLeaf]
        · simp [merge,mergeObj,callId,backF,backId,renObj,renCell,renLeaf,pos,List.range_succ,hWo,hS2]
      simp only [go_sem,hS2,intS,Int.reduceLT,Int.reduceLE,Int.reduceToNat,Int.reduceAdd,frz]
      refine ops_call hcall ?_
      simp only [go_sem,hS2,intS,Int.reduceLT,Int.reduceLE,Int.reduceToNat,Int.reduceAdd,frz,k1,k2]
      refine ⟨0,by omega,.inr (.inr ⟨rfl,?_⟩)⟩
      simp [keep_mk,go_sem,hS2]
    · generalize stW w=w2 at *
      simp only [go_sem,hS2,intS,Int.reduceLT,Int.reduceLE,Int.reduceToNat,Int.reduceAdd,frz]
      refine ret_weak (weak_shut 5 rfl) ?_
      refine ret_weak (weak_shut 6 rfl) ?_
      refine ret_weak (weak_pu 4 rfl rfl (by simp [frz,PV.isPure])) ?_
      refine ret_weak (weak_shut 3 rfl) ?_
      refine ret_pure hx ?_
      simp [go_sem,L34,R34,cWo,cWd,cYs,Wo.ys,frzAt,pos,frz]
def wNew:Wo:=⟨[],[],[],[],[],[]⟩
theorem woNew_meets:Meets Tryz.prog 35 [] [] (.agg (cWo wNew)) []:=by
 have h0:Meets Tryz.prog 35 [] [] (.agg [.list [[.int .i64 0,.nilsl,.nilsl],[.int .i64 1,.nilsl,.nilsl]],.list [[.nilsl],[.nilsl]]]) []:=by
  refine Meets.of_walk Tryz.func35 Tryz.ntmps35 low35 res35 (by simp) fun x hx=>?_
  simp only [go_sem,L35,R35,intS,Int.reduceLT,Int.reduceLE,Int.reduceToNat,Int.reduceAdd,frz,Int.reduceMul,Int.le_refl]
  change retQ _ _ _ _ _ .ret _
  refine ret_weak (weak_shut 1 rfl) ?_
  refine ret_pure hx ?_
  simp [go_sem,L35,R35,frzAt,pos]
 exact Meets.nl 4 h0 rfl
end Go.Proofs.YtfdolehffjmdmaaGreatDoor
/- Worlds,in the law text's words: SameWorld at one world twice,worldIs,CheckWorld: contracts. -/
namespace Go.Proofs.YtfdolehffjmdmaaGreatDoor
set_option linter.unusedSimpArgs false
set_option linter.unusedVariables false
open Go.RowKit
theorem cYs_get {ys:List (List Entry)} {k:Nat} (h:k < ys.length):(cYs ys)[k]? = some [.list ((nth ys k).map cE)]:=by
 unfold cYs; rw [List.getElem?_map,nth_get? _ _ h]; rfl
theorem cYs_len (ys:List (List Entry)):(cYs ys).length=ys.length:=by simp [cYs]
theorem sameWorld_meets (ss:List Si) (ys:List (List Entry)) (hs:ss.length≤1000000000000000) (hy:ys.length≤1000000000000000) (ho:okSs ss) (hoy:okYs ys):Meets Tryz.prog 37 [.agg (cWd ss ys),.agg (cWd ss ys)] [] (.bool true) []:=by
 refine Meets.of_walk Tryz.func37 Tryz.ntmps37 low37 res37 (by simp) fun x hx=>?_
 simp only [go_sem,L37,R37,cWd,cYs_len]
 refine loop_inv [2,3,5] 2 (fun m st=>∃ k:Nat,k + m=ss.length ∧
  st=⟨mkE .top [(2,.ptr 0 0),(3,.ptr 1 0),(5,.int .i64 k)],[.box (cWd ss ys),.box (cWd ss ys)]⟩) ss.length (by simp [hx]) (by simp) ?_ ?_
 ·
  refine ⟨0,by omega,?_⟩
  simp [trim_mk,go_sem,subHeap,renObj,pos,List.range_succ,cWd]
 ·
  rintro m st ⟨k,hk,rfl⟩
  by_cases hlt:k < ss.length
  ·
   have hg:ss[k]? = some (nth ss k):=nth_get? _ _ hlt
   have wk:=i64_up (k:=k) (by omega)
   obtain ⟨l1,l2⟩:=nthS hlt ho
   simp only [go_sem,hlt,hg,cSi3,cSi,cWd]
   refine ops_call (.pureE (sameSite_meets (nth ss k) (by omega) (by omega)) (by simp [go_sem,cSi3,cSi])) ?_
   simp only [go_sem,wk]
   repeat refine ⟨rfl,?_⟩
   refine ⟨by simp,m - 1,by omega,k + 1,by omega,?_⟩
   simp [trim_mk,go_sem,subHeap,renObj,pos,List.range_succ,cWd]
  ·
   simp only [go_sem,hlt,cWd]
   refine loop_inv [2,3,6] 2 (fun m st=>∃ k:Nat,k + m=ys.length ∧
    st=⟨mkE .top [(2,.ptr 0 0),(3,.ptr 1 0),(6,.int .i64 k)],[.box (cWd ss ys),.box (cWd ss ys)]⟩) ys.length (by simp [hx]) (by simp) ?_ ?_
   ·
    refine ⟨0,by omega,?_⟩
    simp [trim_mk,go_sem,subHeap,renObj,pos,List.range_succ,cWd]
   ·
    rintro m st ⟨k,hk,rfl⟩
    by_cases hlt:k < ys.length
    ·
     have wk:=i64_up (k:=k) (by omega)
     have l1:=nthY hlt hoy
     have hlt':k < (cYs ys).length:=by rw [cYs_len]; exact hlt
     simp only [go_sem,hlt,hlt',cYs_get hlt,cYs_len,cWd]
     refine ops_call (.pureE (sameLog_meets (nth ys k) (by omega)) (by simp [go_sem])) ?_
     simp only [go_sem,wk]
     repeat refine ⟨rfl,?_⟩
     refine ⟨by simp,m - 1,by omega,k + 1,by omega,?_⟩
     simp [trim_mk,go_sem,subHeap,renObj,pos,List.range_succ,cWd]
    ·
     simp only [go_sem,hlt,cYs_len,cWd]
     refine ret_pure hx ?_
     simp [go_sem,L37,R37]
theorem worldIs_meets (e : Int) (ss : List Si) (ys : List (List Entry)) (hs : ss.length ≤ 1000000000000000) (hy : ys.length ≤ 1000000000000000) (ho : okSs ss) (hoy : okYs ys) :
    Meets Tryz.prog 32 [.agg (if e=0 then cWd ss ys else cWoN),.int .i64 e,.int .i64 e,.agg (cWd ss ys)] [] (.bool true) []:=by
  refine Meets.of_walk Tryz.func32 Tryz.ntmps32 low32 res32 (by simp) fun x hx=>?_
  by_cases h:e=0
  · simp only [go_sem,L32,R32,h,cWd]
    refine ops_call (.pureE (sameWorld_meets ss ys hs hy ho hoy) (by simp [go_sem,cWd])) ?_
    simp only [go_sem]
    refine ret_pure hx ?_
    simp [go_sem,L32,R32]
  · simp only [go_sem,L32,R32,h,cWd,cWoN]
    refine ops_call (.pureE (sameWorld_meets [] [] (by simp) (by simp) (by intro s h; cases h) (by intro s h; cases h)) (by simp [go_sem,cWd,cYs])) ?_
    simp only [go_sem]
    refine ret_pure hx ?_
    simp [go_sem,L32,R32]
set_option maxRecDepth 10000 in
set_option maxHeartbeats 4000000 in
theorem checkWorld_meets (ss:List Si) (ys:List (List Entry)) (hs:ss.length≤1000000000000000) (hy:ys.length≤1000000000000000) (ho:okSs ss) (hoy:okYs ys):Meets Tryz.prog 27 [.agg (cWd ss ys)] [] (.int .i64 (woErr ss ys)) []:=by
 refine Meets.of_walk Tryz.func27 Tryz.ntmps27 low27 res27 (by simp) fun x hx=>?_
 by_cases h1:(ss.length:Int)=2
 ·
  by_cases h2:(ys.length:Int)=2
  ·
   have s2:ss.length=2:=by omega
   have y2:ys.length=2:=by omega
   have e1:woErr ss ys=if firstNZ (steE ss) 2≠0 then firstNZ (steE ss) 2 else if firstNZ (fun i=>wayErr ss (nth ys i)) 2≠0 then firstNZ (fun i=>wayErr ss (nth ys i)) 2 else if strTo ss 2=true then 4 else 0:=by rw [woErr,if_neg (by simp [s2,y2]),strTo_two s2]
   have hyl:(cYs ys).length=ys.length:=by simp [cYs]
   simp only [go_sem,L27,R27,cWd,h1,h2,hyl]
   refine loop_inv [1,3] 1 (fun m st=>∃ k:Nat,k + m=2∧firstNZ (steE ss) k=0 ∧
    st=⟨mkE .top [(1,.ptr 0 0),(3,.int .i64 k)],[.box (cWd ss ys)]⟩) 2 (by simp [hx]) (by simp) ?_ ?_
   ·
    refine ⟨0,by omega,rfl,?_⟩
    simp [trim_mk,go_sem,subHeap,renObj,pos,List.range_succ,cWd]
   ·
    rintro m st ⟨k,hk,hz,rfl⟩
    by_cases hk2:(k:Int) < 2
    ·
     have hlt:k < ss.length:=by omega
     have hg:ss[k]? = some (nth ss k):=nth_get? _ _ hlt
     have wk:=i64_up (k:=k) (by omega)
     obtain ⟨l1,l2⟩:=nthS hlt ho
     have fin:∀ q:Int,steE ss k=q→q≠0→woErr ss ys=q:=fun q h3 h4=>by rw [e1,firstNZ_hit hz (by rw [h3]; exact h4) (by omega:k < 2),h3,if_pos h4]
     simp only [go_sem,hk2,hlt,hg,cSi3,cSi,cWd]
     refine ops_call (.pureE (checkSite_meets (nth ss k).1 (nth ss k).2.1 (nth ss k).2.2 (by omega) (by omega)) (by simp [go_sem,cSi])) ?_
     by_cases h3:siErr (nth ss k).1 (nth ss k).2.1 (nth ss k).2.2=0
     ·
      by_cases h4:(nth ss k).1=(k:Int)
      ·
       have h5:steE ss k=0:=by rw [steE,if_pos h3,if_pos h4]
       simp only [go_sem,h3,hlt,hg,cSi3,cSi,cWd]
       simp only [go_sem,h4,wk]
       refine ⟨by simp,m - 1,by omega,k + 1,by omega,firstNZ_succ hz h5,?_⟩
       simp [trim_mk,go_sem,subHeap,renObj,pos,List.range_succ,cWd]
      ·
       have h5:steE ss k=4:=by rw [steE,if_pos h3,if_neg h4]
       simp only [go_sem,h3,hlt,hg,cSi3,cSi,cWd]
       simp only [go_sem,h4]
       refine ret_pure hx ?_
       simp [go_sem,L27,R27,fin 4 h5 (by decide)]
     ·
      have h5:steE ss k=siErr (nth ss k).1 (nth ss k).2.1 (nth ss k).2.2:=by rw [steE,if_neg h3]
      simp only [go_sem,h3]
      refine ret_pure hx ?_
      simp [go_sem,L27,R27,fin _ h5 h3]
    ·
     obtain rfl:k=2:=by omega
     have hst:∀ j,j < 2→steE ss j=0:=firstNZ_zero.1 hz
     have e2:woErr ss ys=if firstNZ (fun i=>wayErr ss (nth ys i)) 2≠0 then firstNZ (fun i=>wayErr ss (nth ys i)) 2 else if strTo ss 2=true then 4 else 0:=by rw [e1,if_neg (by simp [hz])]
     simp only [go_sem,hk2,cWd]
     refine loop_inv [1,5] 1 (fun m st=>∃ k:Nat,k + m=2∧firstNZ (fun i=>wayErr ss (nth ys i)) k=0 ∧
      st=⟨mkE .top [(1,.ptr 0 0),(5,.int .i64 k)],[.box (cWd ss ys)]⟩) 2 (by simp [hx]) (by simp) ?_ ?_
     ·
      refine ⟨0,by omega,rfl,?_⟩
      simp [trim_mk,go_sem,subHeap,renObj,pos,List.range_succ,cWd]
     ·
      rintro m st ⟨k,hk,hz2,rfl⟩
      by_cases hk2:(k:Int) < 2
      ·
       have hlt:k < ys.length:=by omega
       have hg:=cYs_get hlt
       have wk:=i64_up (k:=k) (by omega)
       have l1:=nthY hlt hoy
       have hkl:k < (cYs ys).length:=by omega
       have fin:∀ q:Int,wayErr ss (nth ys k)=q→q≠0→woErr ss ys=q:=fun q h3 h4=>by rw [e2,firstNZ_hit hz2 (by simp only [h3]; exact h4) (by omega:k < 2)]; simp only [h3]; rw [if_pos h4]
       by_cases h30:(30:Int) < ((nth ys k).length:Int)
       ·
        have h3:wayErr ss (nth ys k)=2:=by rw [wayErr,if_pos (by omega)]
        simp only [go_sem,hk2,hkl,hg,cWd,h30]
        refine ret_pure hx ?_
        simp [go_sem,L27,R27,fin 2 h3 (by decide)]
       ·
        have hwe:wayErr ss (nth ys k)=firstNZ (wayE ss (nth ys k)) (nth ys k).length:=by rw [wayErr,if_neg (by omega)]
        simp only [go_sem,hk2,hkl,hg,cWd,h30]
        generalize hl:nth ys k=l at *
        refine loop_inv [1,5,6] 1 (fun m st=>∃ q:Nat,q + m=l.length∧firstNZ (wayE ss l) q=0 ∧
         st=⟨mkE .top [(1,.ptr 0 0),(5,.int .i64 k),(6,.int .i64 q)],[.box (cWd ss ys)]⟩) l.length (by simp [hx]) (by simp) ?_ ?_
        ·
         refine ⟨0,by omega,rfl,?_⟩
         simp [trim_mk,go_sem,subHeap,renObj,pos,List.range_succ,cWd]
        ·
         rintro m2 st ⟨q,hq,hz4,rfl⟩
         by_cases hql:q < l.length
         ·
          have hgq:l[q]? = some (nth l q):=nth_get? _ _ hql
          have wq:=i64_up (k:=q) (by omega)
          have fin2:∀ a:Int,wayE ss l q=a→a≠0→woErr ss ys=a:=fun a h3 h4=>fin a (by rw [hwe,firstNZ_hit hz4 (by rw [h3]; exact h4) hql,h3]) h4
          simp only [go_sem,hkl,hg,hql,hgq,cE,cWd]
          refine ops_call (.pureE (checkEntry_meets (nth l q)) (by simp [go_sem,cE])) ?_
          by_cases h5:checkEntry (nth l q)=0
          ·
           simp only [go_sem,h5,hkl,hg,hql,hgq,cE,cWd]
           refine ops_call (.pureE (isBorn_meets ss ys (nth l q) s2 ho (check_reg h5)) (by simp [go_sem,cE,cWd])) ?_
           cases hb:bornB ss (nth l q)
           ·
            have h6:wayE ss l q=4:=by rw [wayE,if_pos h5,if_neg (by simp [hb])]
            simp only [go_sem]
            repeat refine ⟨rfl,?_⟩
            refine ret_pure hx ?_
            simp [go_sem,L27,R27,fin2 4 h6 (by decide)]
           ·
            have h6:wayE ss l q=0:=by rw [wayE,if_pos h5,if_pos hb]
            simp only [go_sem,wq]
            repeat refine ⟨rfl,?_⟩
            refine ⟨by simp,m2 - 1,by omega,q + 1,by omega,firstNZ_succ hz4 h6,?_⟩
            simp [trim_mk,go_sem,subHeap,renObj,pos,List.range_succ,cWd]
          ·
           have h6:wayE ss l q=checkEntry (nth l q):=by rw [wayE,if_neg h5]
           simp only [go_sem,h5]
           refine ret_pure hx ?_
           simp [go_sem,L27,R27,fin2 _ h6 h5]
         ·
          obtain rfl:q=l.length:=by omega
          simp only [go_sem,hkl,hg,hql,cWd,wk]
          refine ⟨by simp,m - 1,by omega,k + 1,by omega,firstNZ_succ hz2 (by simp only [hl]; rw [hwe]; exact hz4),?_⟩
          simp [trim_mk,go_sem,subHeap,renObj,pos,List.range_succ,cWd]
      ·
       obtain rfl:k=2:=by omega
       have e3:woErr ss ys=if strTo ss 2=true then 4 else 0:=by rw [e2,if_neg (by simp [hz2])]
       simp only [go_sem,hk2,cWd]
       refine loop_inv [1,8] 1 (fun m st=>∃ k:Nat,k + m=2∧strTo ss k=false ∧
        st=⟨mkE .top [(1,.ptr 0 0),(8,.int .i64 k)],[.box (cWd ss ys)]⟩) 2 (by simp [hx]) (by simp) ?_ ?_
       ·
        refine ⟨0,by omega,rfl,?_⟩
        simp [trim_mk,go_sem,subHeap,renObj,pos,List.range_succ,cWd]
       ·
        rintro m st ⟨k,hk,hz3,rfl⟩
        by_cases hk2:(k:Int) < 2
        ·
         have hlt:k < ss.length:=by omega
         have hg:ss[k]? = some (nth ss k):=nth_get? _ _ hlt
         have wk:=i64_up (k:=k) (by omega)
         obtain ⟨l1,l2⟩:=nthS hlt ho
         have hreg:=si_reg (ste_ok (hst k (by omega))).1
         obtain ⟨-,n1,n2,-,-,-,-,-⟩:=si_pre (ste_ok (hst k (by omega))).1
         have hsB:strB ss (nth ss k)=(((nth ss k).2.1 ++ (nth ss k).2.2).any fun e => !bornB ss e):=by rw [List.any_append]; rfl
         have fin:strB ss (nth ss k)=true→woErr ss ys=4:=fun h=>by rw [e3,if_pos (strTo_hit (by omega:k < 2) (by omega) h)]
         simp only [go_sem,hk2,hlt,hg,cSi3,cSi,cWd]
         rw [app_arr rfl rfl (cE_row _) (by simp; omega)]
         simp only [go_sem,hlt,hg,cSi3,cSi,cWd]
         rw [app_arr rfl rfl (cE_row _) (by simp; omega)]
         rw [← List.map_append]
         have hregL:∀ e ∈ (nth ss k).2.1 ++ (nth ss k).2.2,e.id.r=0∨e.id.r=1:=fun e he=>hreg e (List.mem_append.1 he)
         have hL:((nth ss k).2.1 ++ (nth ss k).2.2).length≤2000000000000000:=by rw [List.length_append]; omega
         generalize (nth ss k).2.1 ++ (nth ss k).2.2=L at *
         simp only [go_sem]
         repeat refine ⟨rfl,?_⟩
         refine loop_inv [1,8,9,10] 2 (fun m st=>∃ q:Nat,q + m=L.length∧(L.take q).any (fun e => !bornB ss e)=false ∧
          st=⟨mkE .top [(1,.ptr 0 0),(8,.int .i64 k),(9,.arr 1 2),(10,.int .i64 q)],[.box (cWd ss ys),.arr 2 true false 46 5 (L.map cE)]⟩) L.length (by simp [hx]) (by simp) ?_ ?_
         ·
          refine ⟨0,by omega,rfl,?_⟩
          simp [trim_mk,go_sem,subHeap,renObj,renCell,renLeaf,pos,List.range_succ,cWd]
         ·
          rintro m2 st ⟨q,hq,hz4,rfl⟩
          by_cases hql:q < L.length
          ·
           have hgq:L[q]? = some (nth L q):=nth_get? _ _ hql
           have wq:=i64_up (k:=q) (by omega)
           simp only [go_sem,hql,hgq,cE,cWd]
           refine ops_call (.pureE (isBorn_meets ss ys (nth L q) s2 ho (hregL _ (nthM hql))) (by simp [go_sem,cE,cWd])) ?_
           cases hb:bornB ss (nth L q)
           ·
            have h5:strB ss (nth ss k)=true:=by rw [hsB,List.any_eq_true]; exact ⟨_,nthM hql,by simp [hb]⟩
            simp only [go_sem]
            repeat refine ⟨rfl,?_⟩
            refine ret_pure hx ?_
            simp [go_sem,L27,R27,fin h5]
           ·
            simp only [go_sem,wq]
            repeat refine ⟨rfl,?_⟩
            refine ⟨by simp,m2 - 1,by omega,q + 1,by omega,?_,?_⟩
            ·
             rw [takeE_succ hql,List.any_append,hz4]; simp [hb]
            ·
             simp [trim_mk,go_sem,subHeap,renObj,renCell,renLeaf,pos,List.range_succ,cWd]
          ·
           obtain rfl:q=L.length:=by omega
           rw [List.take_length] at hz4
           have h5:strB ss (nth ss k)=false:=by rw [hsB,hz4]
           simp only [go_sem,hql,wk]
           refine ⟨by simp,m - 1,by omega,k + 1,by omega,by rw [strTo_succ hlt,hz3,h5]; rfl,?_⟩
           simp [trim_mk,go_sem,subHeap,renObj,renCell,renLeaf,pos,List.range_succ,cWd]
        ·
         obtain rfl:k=2:=by omega
         have e4:woErr ss ys=0:=by rw [e3,if_neg (by simp [hz3])]
         simp only [go_sem,hk2]
         refine ret_pure hx ?_
         simp [go_sem,L27,R27,e4]
  ·
   have e1:woErr ss ys=1:=by rw [woErr,if_pos (by omega)]
   have hyl:(cYs ys).length=ys.length:=by simp [cYs]
   simp only [go_sem,L27,R27,cWd,h1,h2,hyl]
   refine ret_pure hx ?_
   simp [go_sem,L27,R27,e1]
 ·
  have e1:woErr ss ys=1:=by rw [woErr,if_pos (by omega)]
  simp only [go_sem,L27,R27,cWd,h1]
  refine ret_pure hx ?_
  simp [go_sem,L27,R27,e1]
end Go.Proofs.YtfdolehffjmdmaaGreatDoor
/- Scripts: desk.clerk.do,desk.Run: contracts. -/
namespace Go.Proofs.YtfdolehffjmdmaaGreatDoor
set_option linter.unusedSimpArgs false
set_option linter.unusedVariables false
open Go.RowKit
abbrev Ac:=Int × Int × Int × Int × ByteArray
def cAc (a:Ac):List PV:=cAct a.1 a.2.1 a.2.2.1 a.2.2.2.1 a.2.2.2.2
def acErr (w:Wo) (a:Ac):Int:=doErr w a.1 a.2.1 a.2.2.1 a.2.2.2.1 a.2.2.2.2
def acW (w:Wo) (a:Ac):Wo:=if acErr w a=0 then doW w a.1 a.2.1 a.2.2.1 a.2.2.2.1 a.2.2.2.2 else w
def cInt (n:Int):List PV := [.int .i64 n]
theorem acW_ok {w:Wo} (h:WoOk w) (a:Ac):WoOk (acW w a):=by
 unfold acW
 split
 ·
  rename_i he; exact (doW_ok h he).2.1
 ·
  exact h
def runStep (r:Wo × List Int) (a:Ac):Wo × List Int:=(acW r.1 a,r.2 ++ [acErr r.1 a])
def runW (l:List Ac):Wo × List Int:=l.foldl runStep (wNew,[])
theorem run_take {l:List Ac} {k:Nat} (h:k < l.length):runW (l.take (k + 1))=runStep (runW (l.take k)) (nth l k):=by
 rw [List.take_add_one,nth_get? _ _ h,runW,List.foldl_append]; rfl
theorem run_ok (l:List Ac):∀ k,k≤l.length→WoOk (runW (l.take k)).1∧(runW (l.take k)).2.length=k
 | 0,_=>by
  rw [List.take_zero]
  exact ⟨show WoOk wNew from woErr_ok.1 (by decide +kernel),rfl⟩
 | k + 1,hk=>by
  obtain ⟨a,b⟩:=run_ok l k (by omega)
  rw [run_take (by omega)]
  exact ⟨acW_ok a _,by simp [runStep,b]⟩
def hCl (w:Wo) (es:List Int) (v T:Nat):List AObj := [.box [.list (w.ss.map cSi3),.list (cYs w.ys),.arr 1 v],.arr v true false T 1 (es.map cInt)]
set_option maxHeartbeats 4000000 in
theorem clerkDo_meets (w : Wo) (h : WoOk w) (a : Ac) (es : List Int) (v : Nat) (hes : es.length ≤ 1000) :
    Meets Tryz.prog 67 [.ptr 0 0,.agg (cAc a)] (hCl w es v 24) (.tup []) (hCl (acW w a) (es ++ [acErr w a]) (v + 1) 24):=by
  obtain ⟨k,i,n,c,t⟩:=a
  have hraw:=raw_meets w h k i n c t
  have e1:acErr w (k,i,n,c,t)=doErr w k i n c t:=rfl
  refine Meets.of_walk Tryz.func67 Tryz.ntmps67 low67 res67 (by simp) fun x hx=>?_
  simp only [go_sem,L67,R67,hCl,cAc,cAct,intS,Int.reduceLT,Int.reduceLE,Int.reduceToNat,Int.reduceAdd,frz]
  refine ops_call (.pureE hraw (by simp [go_sem,cWo,cWd,cAct])) ?_
  by_cases he:doErr w k i n c t=0
  · have e2:acW w (k,i,n,c,t)=doW w k i n c t:=by rw [acW,e1,if_pos he]
    rw [doC,if_pos he,he,e1,e2,he]
    simp only [go_sem,intS,Int.reduceLT,Int.reduceLE,Int.reduceToNat,Int.reduceAdd,frz,cWo,cWd]
    repeat refine ⟨rfl,?_⟩
    rw [app_arr rfl rfl (by simp) (by simp; omega)]
    simp only [go_sem,intS,Int.reduceLT,Int.reduceLE,Int.reduceToNat,Int.reduceAdd,frz]
    refine end_keep [] (by simp) (by simp) (by simp [hx,hCl]) ?_ ?_
    · simp [go_sem,L67,R67,hx]
    · simp [subHeap,renObj,renCell,renLeaf,hx,pos,go_sem,hCl,List.range_succ,cInt]
  · have e2:acW w (k,i,n,c,t)=w:=by rw [acW,e1,if_neg he]
    rw [doC,if_neg he,e1,e2]
    simp only [go_sem,intS,Int.reduceLT,Int.reduceLE,Int.reduceToNat,Int.reduceAdd,frz,cWoN]
    repeat refine ⟨rfl,?_⟩
    simp only [go_sem,intS,Int.reduceLT,Int.reduceLE,Int.reduceToNat,Int.reduceAdd,frz,he]
    rw [app_arr rfl rfl (by simp) (by simp; omega)]
    simp only [go_sem,intS,Int.reduceLT,Int.reduceLE,Int.reduceToNat,Int.reduceAdd,frz]
    refine end_keep [] (by simp) (by simp) (by simp [hx,hCl]) ?_ ?_
    · simp [go_sem,L67,R67,hx]
    · simp [subHeap,renObj,renCell,renLeaf,hx,pos,go_sem,hCl,List.range_succ,cInt]
set_option maxHeartbeats 4000000 in
theorem run_meets (l:List Ac) (hl:l.length≤9223372036854775806):Meets Tryz.prog 24 [.list (l.map cAc)] [] (if 40 < l.length then .tup [.agg cWoN,.list [],.int .i64 2] else .tup [.agg (cWo (runW l).1),.list ((runW l).2.map cInt),.int .i64 0]) []:=by
 refine Meets.of_walk Tryz.func24 Tryz.ntmps24 low24 res24 (by simp) fun x hx=>?_
 simp only [go_sem,L24,R24]
 by_cases h40:(40:Int) < (l.length:Int)
 ·
  rw [if_pos (by omega:40 < l.length)]
  simp only [go_sem,intS,Int.reduceLT,Int.reduceLE,Int.reduceToNat,Int.reduceAdd,frz,h40]
  refine ret_pure hx ?_
  simp [go_sem,L24,R24,cWoN]
 ·
  rw [if_neg (by omega:¬ 40 < l.length)]
  simp only [go_sem,intS,Int.reduceLT,Int.reduceLE,Int.reduceToNat,Int.reduceAdd,frz,h40]
  refine ops_call (.pure woNew_meets) ?_
  simp only [go_sem,intS,Int.reduceLT,Int.reduceLE,Int.reduceToNat,Int.reduceAdd,frz,cWo,cWd]
  refine W_weak (weak_ownc 1 2 0 24 1 true false rfl rfl (by omega)) ?_
  simp only [go_sem]
  refine loop_inv [2,5,15,16,17] 3 (fun q st=>∃ k v:Nat,k + q=l.length ∧
   st=⟨mkE .top [(2,.ptr 0 0),(5,.ptr 1 0),(15,.list (l.map cAc)),(16,.int .i64 l.length),(17,.int .i64 k)],
    .box [.nilsl,.nilsl] :: [.box [.list ((runW (l.take k)).1.ss.map cSi3),.list (cYs (runW (l.take k)).1.ys),.arr 2 v],.arr v true false 24 1 ((runW (l.take k)).2.map cInt)]⟩) l.length (by simp [hx]) (by simp) ?_ ?_
  ·
   refine ⟨0,0,by omega,?_⟩
   simp [trim_mk,go_sem,subHeap,renObj,renCell,renLeaf,pos,List.range_succ,runW]
  ·
   rintro q st ⟨k,v,hk,rfl⟩
   by_cases hlt:k < l.length
   ·
    have hg:l[k]? = some (nth l k):=nth_get? _ _ hlt
    have wk:=i64_up (k:=k) (by omega)
    obtain ⟨hw,hz⟩:=run_ok l k (by omega)
    have hst:=run_take hlt
    generalize nth l k=a at *
    generalize runW (l.take k)=r at *
    obtain ⟨w,es⟩:=r
    simp only at hw hz
    have hdo:=clerkDo_meets w hw a es v (by omega)
    simp only [go_sem,intS,Int.reduceLT,Int.reduceLE,Int.reduceToNat,Int.reduceAdd,frz,hlt,hg,cAc,cAct]
    refine ops_call (.heapE [1,2] (r' := .tup []) (H' := [.box [.nilsl,.nilsl],.box [.list ((acW w a).ss.map cSi3),.list (cYs (acW w a).ys),.arr 2 (v + 1)],.arr (v + 1) true false 24 1 ((es ++ [acErr w a]).map cInt),.box (cAc a)]) hdo (by simp) (by simp) (by simp [go_sem,pos,cAc,cAct]) ?_ ?_ ?_) ?_
    ·
     simp [subHeap,renObj,renCell,renLeaf,pos,hCl]
    ·
     simp [renT,ren,renCell,renLeaf]
    ·
     simp [merge,mergeObj,callId,backF,backId,renObj,renCell,renLeaf,pos,List.range_succ,hCl,cAc,cAct]
    simp only [go_sem,intS,Int.reduceLT,Int.reduceLE,Int.reduceToNat,Int.reduceAdd,frz,wk]
    refine ⟨by simp,q - 1,by omega,k + 1,v + 1,by omega,?_⟩
    rw [hst]
    simp [trim_mk,go_sem,subHeap,renObj,renCell,renLeaf,pos,List.range_succ,runStep]
   ·
    have:l.take k=l:=List.take_of_length_le (by omega)
    rw [this]
    simp only [go_sem,intS,Int.reduceLT,Int.reduceLE,Int.reduceToNat,Int.reduceAdd,frz,hlt]
    repeat refine ⟨rfl,?_⟩
    refine ret_weak (weak_shut 2 rfl) ?_
    refine ret_pure hx ?_
    simp [go_sem,L24,R24,cWo,cWd,frzAt,pos]
end Go.Proofs.YtfdolehffjmdmaaGreatDoor
/- Words: what a key or a value may be. -/
namespace Go.Proofs.YtfdolehffjmdmaaGreatDoor
set_option linter.unusedSimpArgs false
set_option linter.unusedVariables false
open Go.RowKit
def okc (c:UInt8):Bool:=(decide ((97:Int)≤(c.toNat:Int)) && decide ((c.toNat:Int)≤122)) || (decide ((48:Int)≤(c.toNat:Int)) && decide ((c.toNat:Int)≤57))
def wordL (l:List UInt8):Bool:=l.all okc && decide (1≤l.length) && decide (l.length≤3)
def wordS (s:ByteArray):Bool:=wordL s.data.toList
theorem sz_list (s:ByteArray):s.data.toList.length=s.size:=by show s.data.toList.length=s.data.size; simp
theorem byte_get {s:ByteArray} {k:Nat} (h:k < s.size):s[k]? = some s[k]:=by
 exact getElem?_pos s k h
theorem byte_list {s:ByteArray} {k:Nat} (h:k < s.size):s.data.toList[k]? = some s[k]:=by
 rw [List.getElem?_eq_getElem (by rw [sz_list]; exact h)]
 simp [ByteArray.getElem_eq_getElem_data]
theorem all_take_succ {s:ByteArray} {k:Nat} (h:k < s.size):(s.data.toList.take (k + 1)).all okc=((s.data.toList.take k).all okc && okc s[k]):=by
 rw [List.take_add_one,byte_list h]
 simp [List.all_append]
theorem not_word {s:ByteArray} {k:Nat} (h:k < s.size) (hc:okc s[k]=false):wordS s=false:=by
 have:s.data.toList.all okc=false:=by
  rw [List.all_eq_false]
  exact ⟨s[k],List.mem_of_getElem? (byte_list h),by simp [hc]⟩
 simp [wordS,wordL,this]
theorem word_end {s:ByteArray} (h:s.data.toList.all okc=true):wordS s=(decide ((1:Int)≤(s.size:Int)) && decide ((s.size:Int)≤3)):=by
 rw [wordS,wordL,h,sz_list,Bool.true_and]
 congr 1
 all_goals (rw [Bool.eq_iff_iff,decide_eq_true_iff,decide_eq_true_iff]; omega)
set_option maxRecDepth 10000 in
set_option maxHeartbeats 2000000 in
theorem word_meets (s:ByteArray) (hs:s.size≤1000000000000000):Meets Tryz.prog 40 [.str s] [] (.bool (wordS s)) []:=by
  refine Meets.of_walk Tryz.func40 Tryz.ntmps40 low40 res40 (by simp) fun x hx=>?_
  simp only [go_sem,L40,R40]
  refine loop_inv [0,6,7] 0 (fun m st=>∃ k:Nat,k + m=s.size∧(s.data.toList.take k).all okc=true ∧
    st=⟨mkE .top [(0,.str s),(6,.int .i64 s.size),(7,.int .i64 k)],[]⟩) s.size (by simp [hx]) (by simp) ?_ ?_
  · refine ⟨0,by omega,by simp,?_⟩
    simp [trim_mk,go_sem,subHeap,renObj,pos,List.range_succ]
  · rintro m st ⟨k,hk,hall,rfl⟩
    by_cases hlt:k < s.size
    · have hg:=byte_get hlt
      have hw:=i64_up (k:=k) (by omega)
      have hst:=all_take_succ hlt
      have hnw:=fun h=>not_word (s:=s) (k:=k) hlt h
      generalize s[k]=c at hg hst hnw
      by_cases h1:(97:Int)≤(c.toNat:Int) <;> by_cases h2:(c.toNat:Int)≤122 <;> by_cases h3:(48:Int)≤(c.toNat:Int) <;> by_cases h4:(c.toNat:Int)≤57
      all_goals first
        | (exfalso; omega)
        | (have ho : okc c = true := by simp [okc, h1, h2, h3, h4]
           simp only [go_sem,intS,Int.reduceLT,Int.reduceLE,Int.reduceToNat,Int.reduceAdd,frz,hlt,hg,h1,h2,h3,h4,decide_true,decide_false,hw]
           refine ⟨by simp,m - 1,by omega,k + 1,by omega,by rw [hst,hall,ho]; rfl,?_⟩
           simp [trim_mk,go_sem,subHeap,renObj,pos,List.range_succ]
           done)
        | (have ho : okc c = false := by simp [okc, h1, h2, h3, h4]
           have hno:=hnw ho
           simp only [go_sem,intS,Int.reduceLT,Int.reduceLE,Int.reduceToNat,Int.reduceAdd,frz,hlt,hg,h1,h2,h3,h4,decide_true,decide_false]
           refine ret_pure hx ?_
           simp [go_sem,L40,R40,hno]
           done)
    · have hke:k=s.size:=by omega
      rw [List.take_of_length_le (by rw [sz_list]; omega)] at hall
      have hwe:=word_end hall
      by_cases h1:(1:Int)≤(s.size:Int) <;> by_cases h2:(s.size:Int)≤3
      all_goals
        simp only [go_sem,intS,Int.reduceLT,Int.reduceLE,Int.reduceToNat,Int.reduceAdd,frz,hlt,h1,h2,decide_true,decide_false]
        refine ret_pure hx ?_
        simp [go_sem,L40,R40,hwe,h1,h2]
set_option maxRecDepth 10000 in
set_option maxHeartbeats 2000000 in
theorem isWord_meets (s:ByteArray) (hs:s.size≤1000000000000000):Meets Tryz.prog 13 [.str s] [] (.bool (wordS s)) []:=by
 refine Meets.of_walk Tryz.func13 Tryz.ntmps13 low13 res13 (by simp) fun x hx=>?_
 simp only [go_sem,L13,R13]
 refine loop_inv [0,3] 0 (fun m st=>∃ k:Nat,k + m=s.size∧(s.data.toList.take k).all okc=true ∧
  st=⟨mkE .top [(0,.str s),(3,.int .i64 k)],[]⟩) s.size (by simp [hx]) (by simp) ?_ ?_
 ·
  refine ⟨0,by omega,by simp,?_⟩
  simp [trim_mk,go_sem,subHeap,renObj,pos,List.range_succ]
 ·
  rintro m st ⟨k,hk,hall,rfl⟩
  by_cases hlt:k < s.size
  ·
   have hg:=byte_get hlt
   have hw:=i64_up (k:=k) (by omega)
   have hst:=all_take_succ hlt
   have hnw:=fun h=>not_word (s:=s) (k:=k) hlt h
   generalize s[k]=c at hg hst hnw
   have hcw:IntKind.i64.wrap (c.toNat:Int)=(c.toNat:Int):=by rw [IntWalk.i64_in _ (by have:=c.toNat_lt; omega)]
   simp only [go_sem,intS,Int.reduceLT,Int.reduceLE,Int.reduceToNat,Int.reduceAdd,frz,hlt,hg,hcw]
   refine ops_call (.pure (between_meets _ _ _)) ?_
   cases ha:wthn (c.toNat:Int) 97 122
   ·
    simp only [go_sem,intS,Int.reduceLT,Int.reduceLE,Int.reduceToNat,Int.reduceAdd,frz,hlt,hg,hcw]
    refine ops_call (.pure (between_meets _ _ _)) ?_
    cases hb:wthn (c.toNat:Int) 48 57
    ·
     have hno:=hnw (by simp [okc,wthn] at ha hb ⊢; omega)
     simp only [go_sem,intS,Int.reduceLT,Int.reduceLE,Int.reduceToNat,Int.reduceAdd,frz]
     refine ret_pure hx ?_
     simp [go_sem,L13,R13,hno]
    ·
     have ho:okc c=true:=by simp [okc,wthn] at ha hb ⊢; omega
     simp only [go_sem,intS,Int.reduceLT,Int.reduceLE,Int.reduceToNat,Int.reduceAdd,frz,hw]
     refine ⟨by simp,m - 1,by omega,k + 1,by omega,by rw [hst,hall,ho]; rfl,?_⟩
     simp [trim_mk,go_sem,subHeap,renObj,pos,List.range_succ]
   ·
    have ho:okc c=true:=by simp [okc,wthn] at ha ⊢; omega
    simp only [go_sem,intS,Int.reduceLT,Int.reduceLE,Int.reduceToNat,Int.reduceAdd,frz,hw]
    refine ⟨by simp,m - 1,by omega,k + 1,by omega,by rw [hst,hall,ho]; rfl,?_⟩
    simp [trim_mk,go_sem,subHeap,renObj,pos,List.range_succ]
  ·
   have hke:k=s.size:=by omega
   rw [List.take_of_length_le (by rw [sz_list]; omega)] at hall
   have hwe:=word_end hall
   simp only [go_sem,intS,Int.reduceLT,Int.reduceLE,Int.reduceToNat,Int.reduceAdd,frz,hlt,decide_false]
   refine ops_call (.pure (between_meets _ _ _)) ?_
   simp only [go_sem]
   refine ret_pure hx ?_
   simp [go_sem,L13,R13,hwe,wthn]
end Go.Proofs.YtfdolehffjmdmaaGreatDoor
