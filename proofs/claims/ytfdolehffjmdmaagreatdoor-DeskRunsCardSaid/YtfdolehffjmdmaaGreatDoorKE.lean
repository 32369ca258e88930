/- Joined texts of this claim: V2 V3 V4 V5 V6 V7 V8 V9 V10 V11 V12. -/
import Derived.Test.YtfdolehffjmdmaaGreatDoorKD
import Derived.Test.YtfdolehffjmdmaaGreatDoorKC
set_option linter.unusedSimpArgs false
set_option linter.unusedVariables false
set_option linter.unusedSectionVars false
/- Worlds: what comes to a site (plain). -/
namespace Go.Proofs.YtfdolehffjmdmaaGreatDoor
open Go.RowKit
theorem rc_ok {r : Int} {p u : List Entry} {e : Entry} (h0 : siErr r p u = 0) (h1 : checkEntry e = 0) (hr : e.id.r ≠ r) :
    rcErr r p u e=0∧(rcSi r p u e).1=r∧siErr r (rcSi r p u e).2.1 (rcSi r p u e).2.2=0∧(∃ x,(rcSi r p u e).2.1=p ++ x)∧(∀ y,y ∈ (rcSi r p u e).2.1∨y ∈ (rcSi r p u e).2.2→y ∈ p∨y ∈ u∨y=e) ∧
      (∀ y,y ∈ p∨y ∈ u→y ∈ (rcSi r p u e).2.1∨y ∈ (rcSi r p u e).2.2)∧there (rcSi r p u e).2.1 (rcSi r p u e).2.2 e.id:=by
  have hx:rcErrX r p u e=rcErr r p u e:=by rw [rcErrX,if_neg (by simp [h0]),if_neg (by simp [h1])]
  have hs:rcSiX r p u e=rcSi r p u e:=by rw [rcSiX,if_neg (by simp [h0,h1])]
  by_cases ht:there p u e.id
  · obtain ⟨a,b⟩:=rc_there h0 h1 ht
    rw [hx] at a; rw [hs] at b
    rw [b]
    exact ⟨a,rfl,h0,⟨[],by simp⟩,fun y hy=>by rcases hy with q | q; exact .inl q; exact .inr (.inl q),fun y hy=>hy,ht⟩
  · obtain ⟨a,b,c,t,d⟩:=rc_new h0 h1 ht hr
    rw [hx] at a; rw [hs] at b
    rw [b]
    refine ⟨a,rfl,c,⟨t,d.eq⟩,fun y hy=>?_,fun y hy=>?_,?_⟩
    · have hm:y ∈ p∨y ∈ u.insertIdx (posE u e.id) e:=by
        simp only at hy
        rw [d.eq] at hy
        rcases hy with q | q
        · rcases List.mem_append.1 q with q | q
          · exact .inl q
          · exact .inr (d.perm.mem_iff.1 (List.mem_append.2 (.inl q)))
        · exact .inr (d.perm.mem_iff.1 (List.mem_append.2 (.inr q)))
      rcases hm with q | q
      · exact .inl q
      · rcases (List.mem_insertIdx (posE_le u e.id)).1 q with q | q
        · exact .inr (.inr q)
        · exact .inr (.inl q)
    · simp only
      rw [d.eq]
      rcases hy with q | q
      · exact .inl (List.mem_append.2 (.inl q))
      · rcases List.mem_append.1 (d.perm.mem_iff.2 ((List.mem_insertIdx (posE_le u e.id)).2 (.inr q))) with q | q
        · exact .inl (List.mem_append.2 (.inr q))
        · exact .inr q
    · exact d.there_iff.2 (there_ins.2 (.inr rfl))
def allN (r:Int):List Entry→List Entry→List Entry→Int × List Entry × List Entry
 | [],p,u=>(0,p,u)
 | e :: l,p,u=>if e.id.r=r then allN r l p u else if rcErr r p u e=0 then allN r l (rcSi r p u e).2.1 (rcSi r p u e).2.2 else (rcErr r p u e,p,u)
theorem allN_ok {r : Int} : ∀ (l p u : List Entry), siErr r p u = 0 → (∀ e ∈ l, checkEntry e = 0) →
    (allN r l p u).1=0∧siErr r (allN r l p u).2.1 (allN r l p u).2.2=0∧(∃ x,(allN r l p u).2.1=p ++ x) ∧
      ∀ y,y ∈ (allN r l p u).2.1∨y ∈ (allN r l p u).2.2→y ∈ p∨y ∈ u∨(y ∈ l∧y.id.r≠r)
  | [],p,u,h,_=>⟨rfl,h,⟨[],by simp [allN]⟩,fun y hy=>by rcases hy with q | q; exact .inl q; exact .inr (.inl q)⟩
  | e :: l,p,u,h,hc=>by
    rw [allN]
    by_cases hr:e.id.r=r
    · rw [if_pos hr]
      obtain ⟨a,b,c,d⟩:=allN_ok l p u h fun x hx=>hc x (List.mem_cons_of_mem _ hx)
      refine ⟨a,b,c,fun y hy=>?_⟩
      rcases d y hy with q | q | q
      · exact .inl q
      · exact .inr (.inl q)
      · exact .inr (.inr ⟨List.mem_cons_of_mem _ q.1,q.2⟩)
    · obtain ⟨a,-,b,⟨x,c⟩,d,-,-⟩:=rc_ok h (hc e List.mem_cons_self) hr
      rw [if_neg hr,if_pos a]
      obtain ⟨a2,b2,⟨x2,c2⟩,d2⟩:=allN_ok l _ _ b fun x hx=>hc x (List.mem_cons_of_mem _ hx)
      refine ⟨a2,b2,⟨x ++ x2,by rw [c2,c,List.append_assoc]⟩,fun y hy=>?_⟩
      rcases d2 y hy with q | q | q
      · rcases d y (.inl q) with z | z | z
        · exact .inl z
        · exact .inr (.inl z)
        · exact .inr (.inr ⟨z ▸ List.mem_cons_self,z ▸ hr⟩)
      · rcases d y (.inr q) with z | z | z
        · exact .inl z
        · exact .inr (.inl z)
        · exact .inr (.inr ⟨z ▸ List.mem_cons_self,z ▸ hr⟩)
      · exact .inr (.inr ⟨List.mem_cons_of_mem _ q.1,q.2⟩)
theorem allN_app (r:Int):∀ (l m p u:List Entry),(allN r l p u).1=0→allN r (l ++ m) p u=allN r m (allN r l p u).2.1 (allN r l p u).2.2
 | [],m,p,u,_=>rfl
 | e :: l,m,p,u,h=>by
  rw [List.cons_append,allN,allN]
  rw [allN] at h
  by_cases hr:e.id.r=r
  ·
   rw [if_pos hr] at h
   rw [if_pos hr,if_pos hr]; exact allN_app r l m p u h
  ·
   rw [if_neg hr] at h
   rw [if_neg hr,if_neg hr]
   by_cases he:rcErr r p u e=0
   ·
    rw [if_pos he] at h
    rw [if_pos he,if_pos he]; exact allN_app r l m _ _ h
   ·
    rw [if_neg he] at h; exact (he h).elim
theorem allN_same {r:Int}:∀ (l p u:List Entry),(∀ e ∈ l,e.id.r≠r→e ∈ p)→allN r l p u=(0,p,u)
 | [],p,u,_=>rfl
 | e :: l,p,u,h=>by
  rw [allN]
  have h2:=allN_same l p u fun x hx=>h x (List.mem_cons_of_mem _ hx)
  by_cases hr:e.id.r=r
  ·
   rw [if_pos hr,h2]
  ·
   have hf:0≤findE p e.id:=findE_pos.2 ⟨e,h e List.mem_cons_self hr,rfl⟩
   have he:rcErr r p u e=0:=by rw [rcErr,if_pos (.inl hf)]
   have hs:rcSi r p u e=(r,p,u):=by rw [rcSi,if_pos (.inl hf)]
   rw [if_neg hr,if_pos he,hs]; exact h2
theorem no_wait {r:Int} {P U B:List Entry} {k:Nat} (h:siErr r P U=0) (hB:LogOk B) (hk:k < B.length) (hr:(nth B k).id.r≠r) (hj:∀ j,j < k→nth B j ∈ P) (hP:∀ x ∈ P,x.id.r≠r→x ∈ B):nth B k ∉ U:=by
 intro hU
 obtain ⟨-,hp,-,hw,hn⟩:=siErr_iff.1 h
 have hnew:=hw.new _ hU
 have hrd:=hn _ hU
 have hrdy:readyB P (nth B k)=true:=by
  refine ready_iff.2 ⟨?_,fun x hx=>?_⟩
  ·
   have hnum:=hB.num k hk
   have h1:cntR P (nth B k).id.r=cntR (B.take k) (nth B k).id.r:=by
    apply Nat.le_antisymm
    ·
     apply Nat.le_of_not_lt
     intro hlt
     obtain ⟨x,hx,hxi⟩:=hp.has_num (r:=(nth B k).id.r) (n:=(nth B k).id.n) (by omega) (by omega)
     rw [findE_neg] at hnew
     exact hnew x hx (by rw [hxi])
    ·
     by_cases h0:cntR (B.take k) (nth B k).id.r=0
     ·
      omega
     ·
      have hok:=hB.take (n:=k) (by omega)
      obtain ⟨x,hx,hxi⟩:=hok.has_num (r:=(nth B k).id.r) (n:=(cntR (B.take k) (nth B k).id.r:Int)) (by omega) (by omega)
      have hxP:x ∈ P:=by
       rw [List.mem_take_iff_getElem] at hx
       obtain ⟨j,hj2,rfl⟩:=hx
       rw [← nth_eq _ _ (by omega)]
       exact hj j (by omega)
      obtain ⟨m,hm,rfl⟩:=memE.1 hxP
      have:=hp.num_le hm
      rw [hxi] at this
      simp only at this
      omega
   rw [h1]; exact hnum
  ·
   have:=hB.lnk k hk x hx
   rw [findE_pos] at this ⊢
   obtain ⟨y,hy,hyx⟩:=this
   rw [List.mem_take_iff_getElem] at hy
   obtain ⟨j,hj2,rfl⟩:=hy
   rw [← nth_eq _ _ (by omega)] at hyx
   exact ⟨_,hj j (by omega),hyx⟩
 rw [hrdy] at hrd; cases hrd
theorem allN_all {r : Int} {B : List Entry} (hB : LogOk B) {p u : List Entry} (h : siErr r p u = 0) (h1 : ∀ e ∈ B, e.id.r = r → e ∈ p) (h2 : ∀ e, e ∈ p ∨ e ∈ u → e.id.r ≠ r → e ∈ B) :
    (∀ e ∈ B,e ∈ (allN r B p u).2.1)∧(allN r B p u).2.2 = []:=by
  have hchk:∀ k,∀ e ∈ B.take k,checkEntry e=0:=fun k e he=>hB.mem_chk (List.mem_of_mem_take he)
  have key:∀ k,k≤B.length→∀ j,j < k→nth B j ∈ (allN r (B.take k) p u).2.1:=by
    intro k
    induction k with
    | zero=>intro _ j hj; omega
    | succ k ih =>
      intro hk j hj
      have ih:=ih (by omega)
      obtain ⟨a1,a2,⟨x1,a3⟩,a4⟩:=allN_ok (B.take k) p u h (hchk k)
      obtain ⟨b1,b2,⟨x2,b3⟩,b4⟩:=allN_ok (B.take (k + 1)) p u h (hchk (k + 1))
      have hst:allN r (B.take (k + 1)) p u=allN r [nth B k] (allN r (B.take k) p u).2.1 (allN r (B.take k) p u).2.2:=by
        rw [takeE_succ (by omega),allN_app r _ _ _ _ a1]
      have hsub:∀ y ∈ (allN r (B.take k) p u).2.1,y ∈ (allN r (B.take (k + 1)) p u).2.1:=by
        intro y hy
        rw [hst]
        obtain ⟨-,-,⟨x3,c3⟩,-⟩:=allN_ok [nth B k] _ _ a2 (fun e he=>by simp at he; subst he; exact hB.chk k (by omega))
        rw [c3]; exact List.mem_append.2 (.inl hy)
      by_cases hjk:j < k
      · exact hsub _ (ih j hjk)
      · obtain rfl:j=k:=by omega
        by_cases hr:(nth B j).id.r=r
        · rw [b3]; exact List.mem_append.2 (.inl (h1 _ (nthM (by omega)) hr))
        · have hbP:∀ x,x ∈ (allN r (B.take (j + 1)) p u).2.1∨x ∈ (allN r (B.take (j + 1)) p u).2.2→x.id.r≠r→x ∈ B:=fun x hx hxr=>by
            rcases b4 x hx with q | q | q
            · exact h2 x (.inl q) hxr
            · exact h2 x (.inr q) hxr
            · exact List.mem_of_mem_take q.1
          have hth:there (allN r (B.take (j + 1)) p u).2.1 (allN r (B.take (j + 1)) p u).2.2 (nth B j).id:=by
            rw [hst]
            obtain ⟨q1,-,-,-,-,-,q2⟩:=rc_ok a2 (hB.chk j (by omega)) hr
            rw [allN,if_neg hr,if_pos q1,allN]
            exact q2
          obtain ⟨x,hx,hxi⟩:=hth
          have hxB:x ∈ B:=hbP x hx (by rw [hxi]; exact hr)
          have hxe:x=nth B j:=by
            obtain ⟨m,hm,rfl⟩:=memE.1 hxB
            rw [hB.inj hm (by omega:j < B.length) hxi]
          subst hxe
          rcases hx with q | q
          · exact q
          · exact (no_wait b2 hB (by omega:j < B.length) hr (fun i hi=>hsub _ (ih i hi)) (fun y hy hyr=>hbP y (.inl hy) hyr) q).elim
  have hall:=key B.length (Nat.le_refl _)
  rw [List.take_length] at hall
  have hin:∀ e ∈ B,e ∈ (allN r B p u).2.1:=fun e he=>by
    obtain ⟨j,hj,rfl⟩:=memE.1 he
    exact hall j hj
  refine ⟨hin,?_⟩
  obtain ⟨a1,a2,-,a4⟩:=allN_ok B p u h fun e he=>hB.mem_chk he
  obtain ⟨-,-,-,hw,-⟩:=siErr_iff.1 a2
  apply List.eq_nil_iff_forall_not_mem.2
  intro e he
  have hr:=hw.other e he
  have heB:e ∈ B:=by
    rcases a4 e (.inr he) with q | q | q
    · exact h2 e (.inl q) hr
    · exact h2 e (.inr q) hr
    · exact q.1
  have:=hw.new e he
  rw [findE_neg] at this
  exact this e (hin e heB) rfl
end Go.Proofs.YtfdolehffjmdmaaGreatDoor
/- Worlds: acts,and settling (plain). -/
namespace Go.Proofs.YtfdolehffjmdmaaGreatDoor
open Go.RowKit
def allW (w:Wo) (i:Int):Int × List Entry × List Entry:=allN i (w.log (1 - i)) (w.log i) (w.wts i)
def extraB (k n c:Int) (t:ByteArray):Bool:=(decide (k≠1) && (decide (c≠0) || decide (t.size≠0))) || ((decide (k=1) || decide (k=5)) && decide (n≠0))
def doErr0 (w:Wo) (k i n c:Int) (t:ByteArray):Int :=
 if k=1 then apErr i (w.log i) c t
 else if k=5 then (allW w i).1
 else if n < 0∨(w.way i).length≤n then 5
 else if k=2 then rcErr i (w.log i) (w.wts i) (nth (w.way i) n.toNat)
 else if k=3 then 0
 else if (w.way i).length=30 then 2 else 0
def doErr (w:Wo) (k i n c:Int) (t:ByteArray):Int :=
 if k < 1∨5 < k then 7
 else if extraB k n c t=true then 1
 else if ¬ (i=0∨i=1) then 3
 else doErr0 w k i n c t
def sendW (w:Wo) (i:Int) (e:Entry):Wo:=if (w.way i).length=30 then w else w.setY i (w.way i ++ [e])
def doW (w:Wo) (k i n c:Int) (t:ByteArray):Wo :=
 if k=1 then sendW (w.setS i (settled (w.log i ++ [apE i (w.log i) c t]) (w.wts i))) (1 - i) (apE i (w.log i) c t)
 else if k=5 then w.setS i (allW w i).2
 else if k=2 then (w.setS i (rcSi i (w.log i) (w.wts i) (nth (w.way i) n.toNat)).2).setY i ((w.way i).eraseIdx n.toNat)
 else if k=3 then w.setY i ((w.way i).eraseIdx n.toNat)
 else w.setY i (w.way i ++ [nth (w.way i) n.toNat])
def stW (w:Wo):Wo:=(w.setS 0 (allW w 0).2).setS 1 (allW (w.setS 0 (allW w 0).2) 1).2
theorem log_setS {w:Wo} {i:Int} (h:i=0∨i=1) {s:List Entry × List Entry}:(w.setS i s).log i=s.1∧(w.setS i s).wts i=s.2∧(w.setS i s).log (1 - i)=w.log (1 - i)∧(w.setS i s).wts (1 - i)=w.wts (1 - i)∧∀ j,(w.setS i s).way j=w.way j:=by
 rcases h with rfl | rfl
 ·
  exact ⟨rfl,rfl,rfl,rfl,fun j=>rfl⟩
 ·
  exact ⟨rfl,rfl,rfl,rfl,fun j=>rfl⟩
theorem WoOk.si {w:Wo} (h:WoOk w) {i:Int} (hi:i=0∨i=1):siErr i (w.log i) (w.wts i)=0:=by
 rcases hi with rfl | rfl
 ·
  exact h.s0
 ·
  exact h.s1
theorem WoOk.bl {w:Wo} (h:WoOk w) {i:Int} (hi:i=0∨i=1):∀ e ∈ w.log i,Born w e:=by
 rcases hi with rfl | rfl
 ·
  exact h.bp
 ·
  exact h.bq
theorem WoOk.bw {w:Wo} (h:WoOk w) {i:Int} (hi:i=0∨i=1):∀ e ∈ w.wts i,Born w e:=by
 rcases hi with rfl | rfl
 ·
  exact h.bu
 ·
  exact h.bv
theorem WoOk.by_ {w:Wo} (h:WoOk w) {i:Int} (hi:i=0∨i=1):(w.way i).length≤30∧(∀ e ∈ w.way i,checkEntry e=0)∧∀ e ∈ w.way i,Born w e:=by
 rcases hi with rfl | rfl
 ·
  exact ⟨h.la,h.ca,h.ba⟩
 ·
  exact ⟨h.lb,h.cb,h.bb⟩
theorem WoOk.log {w:Wo} (h:WoOk w) {i:Int} (hi:i=0∨i=1):LogOk (w.log i):=(siErr_iff.1 (h.si hi)).2.1
theorem Born.reg {w:Wo} (h:WoOk w) {e:Entry} (hb:Born w e):e.id.r=0∨e.id.r=1:=by
 unfold Born Wo.log at hb
 split at hb
 ·
  exact .inl ‹_›
 ·
  exact si_reg h.s1 e (.inl hb)
theorem WoOk.setS {w:Wo} (h:WoOk w) {i:Int} (hi:i=0∨i=1) {P U:List Entry} (hs:siErr i P U=0) (hp:∃ x,P=w.log i ++ x) (hb:∀ e,e ∈ P∨e ∈ U→Born w e∨(e.id.r=i∧e ∈ P)):WoOk (w.setS i (P,U)):=by
 obtain ⟨x,hx⟩:=hp
 have hbn:∀ e,Born w e→Born (w.setS i (P,U)) e:=fun e he=>by
  rcases hi with rfl | rfl
  ·
   unfold Born Wo.log at he ⊢
   by_cases hr:e.id.r=0
   ·
    rw [if_pos hr] at he ⊢
    show e ∈ P
    rw [hx]; exact List.mem_append.2 (.inl he)
   ·
    rw [if_neg hr] at he ⊢; exact he
  ·
   unfold Born Wo.log at he ⊢
   by_cases hr:e.id.r=0
   ·
    rw [if_pos hr] at he ⊢; exact he
   ·
    rw [if_neg hr] at he ⊢
    show e ∈ P
    rw [hx]; exact List.mem_append.2 (.inl he)
 have hb2:∀ e,e ∈ P∨e ∈ U→Born (w.setS i (P,U)) e:=fun e he=>by
  rcases hb e he with q | ⟨q,q2⟩
  ·
   exact hbn e q
  ·
   rw [Born,q,(log_setS hi).1]; exact q2
 rcases hi with rfl | rfl
 ·
  exact ⟨hs,h.s1,h.la,h.lb,h.ca,h.cb,fun e he=>hbn e (h.ba e he),fun e he=>hbn e (h.bb e he),fun e he=>hb2 e (.inl he),fun e he=>hb2 e (.inr he),fun e he=>hbn e (h.bq e he),fun e he=>hbn e (h.bv e he)⟩
 ·
  exact ⟨h.s0,hs,h.la,h.lb,h.ca,h.cb,fun e he=>hbn e (h.ba e he),fun e he=>hbn e (h.bb e he),fun e he=>hbn e (h.bp e he),fun e he=>hbn e (h.bu e he),fun e he=>hb2 e (.inl he),fun e he=>hb2 e (.inr he)⟩
theorem WoOk.setY {w:Wo} (h:WoOk w) {i:Int} (hi:i=0∨i=1) {l:List Entry} (hl:l.length≤30) (hc:∀ e ∈ l,checkEntry e=0) (hb:∀ e ∈ l,Born w e):WoOk (w.setY i l):=by
 rcases hi with rfl | rfl
 ·
  exact ⟨h.s0,h.s1,hl,h.lb,hc,h.cb,hb,h.bb,h.bp,h.bu,h.bq,h.bv⟩
 ·
  exact ⟨h.s0,h.s1,h.la,hl,h.ca,hc,h.ba,hb,h.bp,h.bu,h.bq,h.bv⟩
theorem other_of {i:Int} (hi:i=0∨i=1):1 - i=0∨1 - i=1:=by omega
theorem born_other {w:Wo} (h:WoOk w) {i:Int} (hi:i=0∨i=1) {e:Entry} (hb:Born w e) (hr:e.id.r≠i):e ∈ w.log (1 - i):=by
 have:=hb.reg h
 rwa [Born,show e.id.r=1 - i by omega] at hb
theorem born_own {w:Wo} {i:Int} {e:Entry} (hb:Born w e) (hr:e.id.r=i):e ∈ w.log i:=by rwa [Born,hr] at hb
theorem allW_ok {w:Wo} (h:WoOk w) {i:Int} (hi:i=0∨i=1):(allW w i).1=0∧WoOk (w.setS i (allW w i).2)∧(∃ x,(allW w i).2.1=w.log i ++ x)∧(∀ e ∈ w.log (1 - i),e ∈ (allW w i).2.1)∧(allW w i).2.2 = []:=by
 have hB:=h.log (other_of hi)
 obtain ⟨a,b,c,d⟩:=allN_ok (w.log (1 - i)) (w.log i) (w.wts i) (h.si hi) fun e he=>hB.mem_chk he
 obtain ⟨e1,e2⟩:=allN_all hB (h.si hi) (fun e he hr=>born_own (h.bl (other_of hi) e he) hr)
  (fun e he hr=>born_other h hi (by rcases he with q | q; exact h.bl hi e q; exact h.bw hi e q) hr)
 refine ⟨a,h.setS hi b c fun e he => .inl ?_,c,e1,e2⟩
 rcases d e he with q | q | q
 ·
  exact h.bl hi e q
 ·
  exact h.bw hi e q
 ·
  exact h.bl (other_of hi) e q.1
theorem apE_reg {i:Int} {p:List Entry} {c:Int} {t:ByteArray}:(apE i p c t).id.r=i:=rfl
theorem doW_ok {w : Wo} (h : WoOk w) {k i n c : Int} {t : ByteArray} (he : doErr w k i n c t = 0) :
    (i=0∨i=1)∧WoOk (doW w k i n c t)∧(∃ x,(doW w k i n c t).log i=w.log i ++ x)∧(doW w k i n c t).log (1 - i)=w.log (1 - i):=by
  unfold doErr at he
  split at he
  · cases he
  · rename_i hk
    split at he
    · cases he
    · split at he
      · cases he
      · rename_i hi
        have hi:i=0∨i=1:=by omega
        refine ⟨hi,?_⟩
        have hsi:=h.si hi
        unfold doErr0 at he
        unfold doW
        by_cases k1:k=1
        · rw [if_pos k1] at he
          rw [if_pos k1]
          obtain ⟨hq,hok,-,hwo,-⟩:=siErr_iff.1 hsi
          have hr:=ap_right hsi he
          obtain ⟨-,hin,x,hx,hx2⟩:=settled_ok (lg:=w.log i ++ [apE i (w.log i) c t]) (ws:=w.wts i) (apE_log hq hok he) hwo.chk
          have hm:apE i (w.log i) c t ∈ (settled (w.log i ++ [apE i (w.log i) c t]) (w.wts i)).1:=by rw [hx]; simp
          have hw2:WoOk (w.setS i (settled (w.log i ++ [apE i (w.log i) c t]) (w.wts i))):=by
            refine WoOk.setS (P:=(settled (w.log i ++ [apE i (w.log i) c t]) (w.wts i)).1) (U:=(settled (w.log i ++ [apE i (w.log i) c t]) (w.wts i)).2) h hi hr ⟨[apE i (w.log i) c t] ++ x,by rw [hx,List.append_assoc]⟩ fun e he=>?_
            have hor:e ∈ w.log i∨e=apE i (w.log i) c t∨e ∈ w.wts i:=by
              rcases he with q | q
              · rw [hx] at q
                rcases List.mem_append.1 q with q | q
                · rcases List.mem_append.1 q with q | q
                  · exact .inl q
                  · exact .inr (.inl (by simpa using q))
                · exact .inr (.inr (hx2 e q))
              · exact .inr (.inr (hin e q))
            rcases hor with q | q | q
            · exact .inl (h.bl hi e q)
            · exact .inr ⟨by rw [q]; rfl,by rw [q]; exact hm⟩
            · exact .inl (h.bw hi e q)
          have hlog:(w.setS i (settled (w.log i ++ [apE i (w.log i) c t]) (w.wts i))).log i=w.log i ++ ([apE i (w.log i) c t] ++ x):=by rw [(log_setS hi).1,hx,List.append_assoc]
          have hlog2:=(log_setS (w:=w) hi (s:=settled (w.log i ++ [apE i (w.log i) c t]) (w.wts i))).2.2.1
          have hway:=(log_setS (w:=w) hi (s:=settled (w.log i ++ [apE i (w.log i) c t]) (w.wts i))).2.2.2.2
          have hbe:Born (w.setS i (settled (w.log i ++ [apE i (w.log i) c t]) (w.wts i))) (apE i (w.log i) c t):=by
            rw [Born,apE_reg,(log_setS hi).1]; exact hm
          have hce:=(apE_ok hq hok he).1
          generalize apE i (w.log i) c t=e at *
          generalize w.setS i (settled (w.log i ++ [e]) (w.wts i))=w2 at *
          unfold sendW
          split
          · exact ⟨hw2,⟨_,hlog⟩,hlog2⟩
          · rename_i hl
            obtain ⟨y1,y2,y3⟩:=hw2.by_ (other_of hi)
            refine ⟨hw2.setY (other_of hi) (by simp; omega) (fun y hy=>?_) (fun y hy=>?_),⟨[e] ++ x,?_⟩,?_⟩
            · rcases List.mem_append.1 hy with q | q
              · exact y2 y q
              · simp at q; rw [q]; exact hce
            · rcases List.mem_append.1 hy with q | q
              · exact y3 y q
              · simp at q; rw [q]; exact hbe
            · rw [← hlog]; rcases hi with rfl | rfl <;> rfl
            · rw [← hlog2]; rcases hi with rfl | rfl <;> rfl
        · rw [if_neg k1] at he
          rw [if_neg k1]
          by_cases k5:k=5
          · rw [if_pos k5]
            obtain ⟨a,b,c,-,-⟩:=allW_ok h hi
            obtain ⟨x,c⟩:=c
            exact ⟨b,⟨x,by rw [(log_setS hi).1,c]⟩,(log_setS hi).2.2.1⟩
          · rw [if_neg k5] at he
            rw [if_neg k5]
            split at he
            · cases he
            · rename_i hn
              have hnl:n.toNat < (w.way i).length:=by omega
              obtain ⟨y1,y2,y3⟩:=h.by_ hi
              have hm:=nthM hnl
              have hers:WoOk (w.setY i ((w.way i).eraseIdx n.toNat)):=h.setY hi (by rw [List.length_eraseIdx,if_pos hnl]; omega) (fun e he=>y2 e (List.mem_of_mem_eraseIdx he)) fun e he=>y3 e (List.mem_of_mem_eraseIdx he)
              by_cases k2:k=2
              · rw [if_pos k2] at he
                rw [if_pos k2]
                by_cases hre:(nth (w.way i) n.toNat).id.r=i
                · have hth:there (w.log i) (w.wts i) (nth (w.way i) n.toNat).id:=⟨_,.inl (born_own (y3 _ hm) hre),rfl⟩
                  have hst:rcSi i (w.log i) (w.wts i) (nth (w.way i) n.toNat)=(i,w.log i,w.wts i):=by rw [rcSi,if_pos (there_iff.2 hth)]
                  rw [hst]
                  have hid:w.setS i (w.log i,w.wts i)=w:=by rcases hi with rfl | rfl <;> rfl
                  rw [hid]
                  exact ⟨hers,⟨[],by rcases hi with rfl | rfl <;> simp [Wo.setY,Wo.log]⟩,by rcases hi with rfl | rfl <;> rfl⟩
                · obtain ⟨-,-,b,⟨x,c⟩,d,-,-⟩:=rc_ok hsi (y2 _ hm) hre
                  have hw2:WoOk (w.setS i (rcSi i (w.log i) (w.wts i) (nth (w.way i) n.toNat)).2):=h.setS hi b ⟨x,c⟩ fun e he => .inl (by
                    rcases d e he with q | q | q
                    · exact h.bl hi e q
                    · exact h.bw hi e q
                    · rw [q]; exact y3 _ hm)
                  have hway:=(log_setS (w:=w) hi (s:=(rcSi i (w.log i) (w.wts i) (nth (w.way i) n.toNat)).2)).2.2.2.2 i
                  obtain ⟨z1,z2,z3⟩:=hw2.by_ hi
                  rw [hway] at z1 z2 z3
                  refine ⟨hw2.setY hi (by rw [List.length_eraseIdx,if_pos hnl]; omega) (fun e he=>z2 e (List.mem_of_mem_eraseIdx he)) (fun e he=>z3 e (List.mem_of_mem_eraseIdx he)),⟨x,?_⟩,?_⟩
                  · rw [← c]; rcases hi with rfl | rfl <;> rfl
                  · rcases hi with rfl | rfl <;> rfl
              · rw [if_neg k2] at he
                rw [if_neg k2]
                by_cases k3:k=3
                · rw [if_pos k3]
                  exact ⟨hers,⟨[],by rcases hi with rfl | rfl <;> simp [Wo.setY,Wo.log]⟩,by rcases hi with rfl | rfl <;> rfl⟩
                · rw [if_neg k3] at he
                  rw [if_neg k3]
                  split at he
                  · cases he
                  · refine ⟨h.setY hi (by simp; omega) (fun e he=>?_) (fun e he=>?_),⟨[],by rcases hi with rfl | rfl <;> simp [Wo.setY,Wo.log]⟩,by rcases hi with rfl | rfl <;> rfl⟩
                    · rcases List.mem_append.1 he with q | q
                      · exact y2 e q
                      · simp at q; rw [q]; exact y2 _ hm
                    · rcases List.mem_append.1 he with q | q
                      · exact y3 e q
                      · simp at q; rw [q]; exact y3 _ hm
theorem stW_ok {w:Wo} (h:WoOk w):WoOk (stW w)∧(stW w).u = []∧(stW w).v = []∧(∀ e,e ∈ (stW w).p↔e ∈ (stW w).q)∧(stW w).p.length=(stW w).q.length∧stW (stW w)=stW w:=by
 obtain ⟨a1,a2,-,a4,a5⟩:=allW_ok h (.inl rfl)
 obtain ⟨b1,b2,-,b4,b5⟩:=allW_ok a2 (.inr rfl)
 have hb0:(stW w).p=(allW w 0).2.1:=rfl
 have hb1:(stW w).q=(allW (w.setS 0 (allW w 0).2) 1).2.1:=rfl
 have hu:(stW w).u = []:=a5
 have hv:(stW w).v = []:=b5
 have hok:WoOk (stW w):=b2
 have hpq:∀ e,e ∈ (stW w).p→e ∈ (stW w).q:=fun e he=>b4 e he
 have hqp:∀ e,e ∈ (stW w).q→e ∈ (stW w).p:=fun e he=>by
  have hb:=hok.bq e he
  by_cases hr:e.id.r=0
  ·
   unfold Born Wo.log at hb
   rw [if_pos hr] at hb; exact hb
  ·
   have hd:=(allN_ok ((w.setS 0 (allW w 0).2).log (1 - 1)) ((w.setS 0 (allW w 0).2).log 1) ((w.setS 0 (allW w 0).2).wts 1) (a2.si (.inr rfl)) fun e he=>(a2.log (other_of (i:=1) (.inr rfl))).mem_chk he).2.2.2 e (.inl he)
   rcases hd with q | q | q
   ·
    exact a4 e q
   ·
    have:=a2.bw (.inr rfl) e q
    unfold Born Wo.log at this
    rw [if_neg hr] at this
    exact a4 e this
   ·
    exact q.1
 have hp:=hok.log (i:=0) (.inl rfl)
 have hq:=hok.log (i:=1) (.inr rfl)
 have hlen:(stW w).p.length=(stW w).q.length:=by
  have c1:=cnt_le hp hq hpq
  have c2:=cnt_le hq hp hqp
  have s1:=cntR_sum hp.reg
  have s2:=cntR_sum hq.reg
  have d0:=c1 0
  have d1:=c1 1
  have d2:=c2 0
  have d3:=c2 1
  show (Wo.log (stW w) 0).length=(Wo.log (stW w) 1).length
  omega
 refine ⟨hok,hu,hv,fun e=>⟨hpq e,hqp e⟩,hlen,?_⟩
 generalize stW w=x at *
 have e0:allW x 0=(0,x.p,x.u):=allN_same _ _ _ fun e he _=>hqp e he
 have x0:x.setS 0 (allW x 0).2=x:=by rw [e0]; rfl
 have e1:allW x 1=(0,x.q,x.v):=allN_same _ _ _ fun e he _=>hpq e he
 unfold stW
 rw [x0,e1]; rfl
end Go.Proofs.YtfdolehffjmdmaaGreatDoor
/- Worlds: entries that are the same,that were born; ways; what is wrong with a world: contracts. -/
namespace Go.Proofs.YtfdolehffjmdmaaGreatDoor
set_option linter.unusedSimpArgs false
set_option linter.unusedVariables false
open Go.RowKit
theorem weak_pu {x : Cx} {nt : Nat} {st : St} (id : Nat) {v T sz : Nat} {sto : Bool} {rows rows' : List (List PV)} (h : st.heap[id]? = some (.arr v sto true T sz rows)) (hf : rows.map (·.map (frz st.heap)) = rows') (hp : rows'.all (fun r => r.all PV.isPure) = true) :
    Weak x nt st ⟨st.env,st.heap.set id (.arr v false false T sz rows')⟩:=by
  subst hf
  intro a w ⟨⟨C,hr,he⟩,hdf,hs⟩
  obtain ⟨k1,k2⟩:=hr.change (C':=C) (ob' := .arr v false false T sz (rows.map (·.map (frz st.heap)))) h (step_refl w) rfl (fun _=>rfl) (fun _ _=>⟨rfl,rfl⟩) (.inl ⟨rfl,rfl⟩)
    (fun b o _ hf hb=>by have:=hf hb; simp at this) (fun b o _ _=>rfl) (fun b h => .inl h)
    (fun hm hmp=>by
      obtain ⟨o1,o2,o3,xs,o4,o5⟩:=hr.obj id _ h
      refine ⟨o1,o2,fun row hrow=>?_,xs,by simpa using o4,fun k row j p u a b c=>?_⟩
      · obtain ⟨r,hr1,rfl⟩:=List.mem_map.1 hrow
        simpa using o3 r hr1
      · obtain ⟨r,hr1,rfl⟩:=map_get a
        obtain ⟨q,hq1,rfl⟩:=map_get b
        obtain ⟨e1,e2⟩:=o5 k r j q u hr1 hq1 c
        refine ⟨e1,?_⟩
        simp only [Bool.false_eq_true,if_false,if_true] at e2 ⊢
        refine hmp _ _ ((frz_rep hr e2).pureOf ?_)
        have h1:=List.all_eq_true.1 hp _ (List.mem_map.2 ⟨r,List.mem_of_getElem? hr1,rfl⟩)
        exact List.all_eq_true.1 h1 _ (List.mem_map.2 ⟨q,List.mem_of_getElem? hq1,rfl⟩))
  exact ⟨⟨C,k1,fun u=>k2 _ _ (he u)⟩,hdf,hs⟩
theorem equalI_meets (a b:List Id) (hm:a.length≤9223372036854775807):Meets Tryz.prog 177 [.list (a.map cId),.list (b.map cId)] [] (.bool (decide (a=b))) []:=by
 refine Meets.of_walk Tryz.func177 Tryz.ntmps177 low177 res177 (by simp) fun x hx=>?_
 by_cases hl:a.length=b.length
 ·
  have hl':((a.length:Int)=(b.length:Int))=True:=by simp [hl]
  simp only [go_sem,L177,R177,hl']
  refine loop_inv [0,1,12,13] 0 (fun n st=>∃ k:Nat,k + n=a.length∧(∀ j,j < k→nth a j=nth b j) ∧
   st=⟨mkE .top [(0,.list (a.map cId)),(1,.list (b.map cId)),(12,.int .i64 a.length),(13,.int .i64 k)],[]⟩) a.length (by simp [hx]) (by simp) ?_ ?_
  ·
   refine ⟨0,by omega,fun j h=>by omega,?_⟩
   simp [trim_mk,go_sem,subHeap,renObj,pos,List.range_succ]
  ·
   rintro n st ⟨k,hk,hz,rfl⟩
   simp only [go_sem]
   by_cases hlt:k < a.length
   ·
    have hg:a[k]? = some (nth a k):=nth_get? _ _ hlt
    have hlt2:k < b.length:=by omega
    have hg2:b[k]? = some (nth b k):=nth_get? _ _ hlt2
    have hw:=i64_up (k:=k) (by omega)
    by_cases he:nth a k=nth b k
    ·
     simp only [go_sem,hlt,hlt2,hg,hg2,cId,he,hw]
     refine ⟨by simp,n - 1,by omega,k + 1,by omega,fun j hj=>?_,?_⟩
     ·
      by_cases e:j=k
      ·
       rw [e]; exact he
      ·
       exact hz j (by omega)
     ·
      simp [trim_mk,go_sem,subHeap,renObj,pos]
    ·
     simp only [go_sem,hlt,hlt2,hg,hg2,cId,beqId,he]
     refine ret_pure hx ?_
     have:¬ a=b:=fun e=>he (by rw [e])
     simp [go_sem,L177,R177,this]
   ·
    simp only [go_sem,hlt,decide_false]
    refine ret_pure hx ?_
    have:a=b:=ids_ext' hl fun j hj=>hz j (by omega)
    simp [go_sem,L177,R177,this]
 ·
  have hl':((a.length:Int)=(b.length:Int))=False:=by simp; omega
  simp only [go_sem,L177,R177,hl']
  refine ret_pure hx ?_
  have:¬ a=b:=fun e=>hl (by rw [e])
  simp [go_sem,L177,R177,this]
theorem entSame_meets (a b:Entry):Meets Tryz.prog 152 [.agg (cE a),.agg (cE b)] [] (.bool (sameE a b)) []:=by
 refine Meets.len2 0 4 rfl (by simp [cE]; rfl) fun hm=>?_
 have hm':a.ls.length≤9223372036854775807:=by simp [maxLen] at hm; omega
 refine Meets.of_walk Tryz.func152 Tryz.ntmps152 low152 res152 (by simp) fun x hx=>?_
 by_cases h1:a.id=b.id
 ·
  by_cases h2:a.c=b.c
  ·
   by_cases h3:a.t=b.t
   ·
    simp only [go_sem,L152,R152,cE,beqId,h1,h2,h3]
    refine ops_call (.pure (equalI_meets _ _ hm')) ?_
    simp only [go_sem]
    refine ret_pure hx ?_
    simp [go_sem,L152,R152,sameE,h1,h2,h3]
   ·
    simp only [go_sem,L152,R152,cE,beqId,h1,h2,h3]
    refine ret_pure hx ?_
    simp [go_sem,L152,R152,sameE,h1,h2,h3]
  ·
   simp only [go_sem,L152,R152,cE,beqId,h1,h2]
   refine ret_pure hx ?_
   simp [go_sem,L152,R152,sameE,h1,h2]
 ·
  simp only [go_sem,L152,R152,cE,beqId,h1]
  refine ret_pure hx ?_
  simp [go_sem,L152,R152,sameE,h1]
def cYs (ys:List (List Entry)):List (List PV):=ys.map fun l => [PV.list (l.map cE)]
def cWd (ss:List Si) (ys:List (List Entry)):List PV := [.list (ss.map cSi3),.list (cYs ys)]
def okSs (ss:List Si):Prop:=∀ s ∈ ss,s.2.1.length≤1000000000000000∧s.2.2.length≤1000000000000000
theorem nthS {ss:List Si} {k:Nat} (h:k < ss.length) (ho:okSs ss):(nth ss k).2.1.length≤1000000000000000∧(nth ss k).2.2.length≤1000000000000000:=ho _ (by rw [nth_eq _ _ h]; exact List.getElem_mem h)
theorem born_meets (ss:List Si) (ys:List (List Entry)) (e:Entry) (h2:ss.length=2) (ho:okSs ss) (he:e.id.r=0∨e.id.r=1):Meets Tryz.prog 118 [.agg (cWd ss ys),.agg (cE e)] [] (.bool (bornB ss e)) []:=by
 refine Meets.of_walk Tryz.func118 Tryz.ntmps118 low118 res118 (by simp) fun x hx=>?_
 obtain ⟨r,hr2,hr⟩:∃ r:Nat,r < 2∧e.id.r=(r:Int):=by
  rcases he with h | h
  ·
   exact ⟨0,by omega,h⟩
  ·
   exact ⟨1,by omega,h⟩
 have hlt:r < ss.length:=by omega
 have hg:ss[r]? = some (nth ss r):=nth_get? _ _ hlt
 have hl:=(nthS hlt ho).1
 have hla:logAt ss e.id.r=(nth ss r).2.1:=by rw [logAt,hr,Int.toNat_natCast]
 simp only [go_sem,L118,R118,cWd,cE,hr,hlt,hg,cSi3,cSi]
 refine ops_call (.pureE (find_meets (nth ss r).2.1 e.id (by omega)) (by simp [go_sem,cId,hr])) ?_
 by_cases h0:0≤findE (nth ss r).2.1 e.id
 ·
  obtain ⟨k,hk,hkl,hkn⟩:=findE_spec h0
  have hgk:(nth ss r).2.1[k]? = some (nth (nth ss r).2.1 k):=nth_get? _ _ hkl
  have hk0:(0:Int)≤(k:Int):=by omega
  have hb:bornB ss e=sameE (nth (nth ss r).2.1 k) e:=by rw [bornB,hla,hk,Int.toNat_natCast]; simp
  simp only [go_sem,hk,hk0,hkl,hgk,cE,hr]
  refine ops_call (.pureE (entSame_meets (nth (nth ss r).2.1 k) e) (by simp [go_sem,cE,hr])) ?_
  rw [← hb]
  simp only [go_sem]
  repeat refine ⟨rfl,?_⟩
  refine ret_pure hx ?_
  simp [go_sem,L118,R118]
 ·
  have hb:bornB ss e=false:=by rw [bornB,hla]; simp; intro h; omega
  simp only [go_sem,h0]
  repeat refine ⟨rfl,?_⟩
  refine ret_pure hx ?_
  simp [go_sem,L118,R118,hb]
set_option maxHeartbeats 1000000 in
theorem way_meets (ss:List Si) (ys:List (List Entry)) (l:List Entry) (h2:ss.length=2) (ho:okSs ss) (hl:l.length≤1000000000000000):Meets Tryz.prog 116 [.agg (cWd ss ys),.list (l.map cE)] [] (.int .i64 (wayErr ss l)) []:=by
 refine Meets.of_walk Tryz.func116 Tryz.ntmps116 low116 res116 (by simp) fun x hx=>?_
 by_cases h30:(30:Int) < (l.length:Int)
 ·
  have e:wayErr ss l=2:=by rw [wayErr,if_pos (by omega)]
  simp only [go_sem,L116,R116,cWd,h30]
  refine ret_pure hx ?_
  simp [go_sem,L116,R116,e]
 ·
  have e:wayErr ss l=firstNZ (wayE ss l) l.length:=by rw [wayErr,if_neg (by omega)]
  simp only [go_sem,L116,R116,cWd,h30,e]
  refine loop_inv [2,11,12,13] 1 (fun m st=>∃ k:Nat,k + m=l.length∧firstNZ (wayE ss l) k=0 ∧
   st=⟨mkE .top [(2,.ptr 0 0),(11,.list (l.map cE)),(12,.int .i64 l.length),(13,.int .i64 k)],[.box (cWd ss ys)]⟩) l.length (by simp [hx]) (by simp) ?_ ?_
  ·
   refine ⟨0,by omega,rfl,?_⟩
   simp [trim_mk,go_sem,subHeap,renObj,pos,List.range_succ,cWd]
  ·
   rintro m st ⟨k,hk,hz,rfl⟩
   by_cases hlt:k < l.length
   ·
    have hg:l[k]? = some (nth l k):=nth_get? _ _ hlt
    have wk:=i64_up (k:=k) (by omega)
    have fin:∀ q:Int,wayE ss l k=q→q≠0→firstNZ (wayE ss l) l.length=q:=fun q h1 h2=>by rw [firstNZ_hit hz (by rw [h1]; exact h2) hlt,h1]
    simp only [go_sem,hlt,hg,cE,cWd]
    refine ops_call (.pureE (check_meets (nth l k)) (by simp [go_sem,cE])) ?_
    by_cases h1:checkEntry (nth l k)=0
    ·
     simp only [go_sem,h1,cE,cWd]
     refine ops_call (.pureE (born_meets ss ys (nth l k) h2 ho (check_reg h1)) (by simp [go_sem,cE,cWd])) ?_
     cases hb:bornB ss (nth l k)
     ·
      have hw:wayE ss l k=4:=by rw [wayE,if_pos h1,if_neg (by simp [hb])]
      simp only [go_sem]
      refine ret_pure hx ?_
      simp [go_sem,L116,R116,fin 4 hw (by decide)]
     ·
      have hw:wayE ss l k=0:=by rw [wayE,if_pos h1,if_pos hb]
      simp only [go_sem,wk]
      refine ⟨by simp,m - 1,by omega,k + 1,by omega,firstNZ_succ hz hw,?_⟩
      simp [trim_mk,go_sem,subHeap,renObj,pos,List.range_succ,cWd]
    ·
     have hw:wayE ss l k=checkEntry (nth l k):=by rw [wayE,if_neg h1]
     simp only [go_sem,h1]
     refine ret_pure hx ?_
     simp [go_sem,L116,R116,fin _ hw h1]
   ·
    obtain rfl:k=l.length:=by omega
    simp only [go_sem,hlt]
    refine ret_pure hx ?_
    simp [go_sem,L116,R116,hz]
end Go.Proofs.YtfdolehffjmdmaaGreatDoor
/- Worlds: what is wrong with a world,in both texts' words: contracts. -/
namespace Go.Proofs.YtfdolehffjmdmaaGreatDoor
set_option linter.unusedSimpArgs false
set_option linter.unusedVariables false
open Go.RowKit
theorem listV2 {α:Type} {l:List α} (h:l.length=2):∃ a b,l = [a,b]:=by
 match l,h with
 | [a,b],_=>exact ⟨a,b,rfl⟩
def okYs (ys:List (List Entry)):Prop:=∀ l ∈ ys,l.length≤1000000000000000
theorem nthY {ys:List (List Entry)} {k:Nat} (h:k < ys.length) (ho:okYs ys):(nth ys k).length≤1000000000000000:=ho _ (by rw [nth_eq _ _ h]; exact List.getElem_mem h)
theorem ste_ok {ss:List Si} {k:Nat} (h:steE ss k=0):siErr (nth ss k).1 (nth ss k).2.1 (nth ss k).2.2=0∧(nth ss k).1=(k:Int):=by
 unfold steE at h
 split at h
 ·
  split at h
  ·
   exact ⟨‹_›,‹_›⟩
  ·
   cases h
 ·
  exact (‹¬ _› h).elim
theorem strange_meets (ss:List Si) (ys:List (List Entry)) (e:Entry) (h2:ss.length=2) (ho:okSs ss) (he:e.id.r=0∨e.id.r=1):Meets Tryz.prog 117 [.agg (cE e),.rptr (cWd ss ys)] [] (.bool (!bornB ss e)) []:=by
 refine Meets.of_walk Tryz.func117 Tryz.ntmps117 low117 res117 (by simp) fun x hx=>?_
 simp only [go_sem,L117,R117,cE,cWd]
 refine ops_call (.pureE (born_meets ss ys e h2 ho he) (by simp [go_sem,cE,cWd])) ?_
 simp only [go_sem]
 refine ret_pure hx ?_
 simp [go_sem,L117,R117]
theorem contS_meets (ss : List Si) (ys : List (List Entry)) (l : List Entry) (h2 : ss.length = 2) (ho : okSs ss) (hl : l.length ≤ 1000000000000000) (he : ∀ e ∈ l, e.id.r = 0 ∨ e.id.r = 1) :
    Meets Tryz.prog 119 [.list (l.map cE),.clo 117 [.rptr (cWd ss ys)]] [] (.bool (l.any fun e => !bornB ss e)) [] :=
  contFE_meets l 117 [.rptr (cWd ss ys)] [] (fun e => !bornB ss e) (by kernel_rfl) (by omega) ⟨by simp [renLeaf],by simp [ren,renCell,renLeaf],by simp [subHeap],by simp [merge],by simp [subHeap]⟩
    fun e hm=>strange_meets ss ys e h2 ho (he e hm)
def strTo (ss:List Si) (k:Nat):Bool:=(ss.take k).any (strB ss)
theorem strTo_succ {ss:List Si} {k:Nat} (h:k < ss.length):strTo ss (k + 1)=(strTo ss k || strB ss (nth ss k)):=by
 unfold strTo
 rw [List.take_succ_eq_append_getElem h,List.any_append,← nth_eq _ _ h]; simp
theorem strTo_two {ss:List Si} (h:ss.length=2):strTo ss 2=(strB ss (nth ss 0) || strB ss (nth ss 1)):=by
 obtain ⟨a,b,rfl⟩:=listV2 h
 simp [strTo]; rfl
theorem strTo_hit {ss:List Si} {k n:Nat} (hk:k < n) (hn:n≤ss.length) (h:strB ss (nth ss k)=true):strTo ss n=true:=by
 unfold strTo
 rw [List.any_eq_true]
 refine ⟨nth ss k,?_,h⟩
 rw [nth_eq _ _ (by omega),List.mem_take_iff_getElem]
 exact ⟨k,by omega,rfl⟩
set_option maxRecDepth 10000 in
set_option maxHeartbeats 4000000 in
theorem worldCheck_meets (ss:List Si) (ys:List (List Entry)) (hs:ss.length≤1000000000000000) (hy:ys.length≤1000000000000000) (ho:okSs ss) (hoy:okYs ys):Meets Tryz.prog 69 [.agg (cWd ss ys)] [] (.int .i64 (woErr ss ys)) []:=by
 refine Meets.of_walk Tryz.func69 Tryz.ntmps69 low69 res69 (by simp) fun x hx=>?_
 by_cases h1:(ss.length:Int)=2
 ·
  by_cases h2:(ys.length:Int)=2
  ·
   have s2:ss.length=2:=by omega
   have y2:ys.length=2:=by omega
   have e1:woErr ss ys=if firstNZ (steE ss) 2≠0 then firstNZ (steE ss) 2 else if firstNZ (fun i=>wayErr ss (nth ys i)) 2≠0 then firstNZ (fun i=>wayErr ss (nth ys i)) 2 else if strTo ss 2=true then 4 else 0:=by rw [woErr,if_neg (by simp [s2,y2]),strTo_two s2]
   have hyl:(cYs ys).length=ys.length:=by simp [cYs]
   simp only [go_sem,L69,R69,cWd,h1,h2,hyl]
   refine loop_inv [1,23,24,25] 1 (fun m st=>∃ k:Nat,k + m=2∧firstNZ (steE ss) k=0 ∧
    st=⟨mkE .top [(1,.ptr 0 0),(23,.list (ss.map cSi3)),(24,.int .i64 2),(25,.int .i64 k)],[.box (cWd ss ys)]⟩) 2 (by simp [hx]) (by simp) ?_ ?_
   ·
    refine ⟨0,by omega,rfl,?_⟩
    simp [trim_mk,go_sem,subHeap,renObj,pos,List.range_succ,cWd]
   ·
    rintro m st ⟨k,hk,hz,rfl⟩
    by_cases hk2:(k:Int) < 2
    ·
     have hlt:k < ss.length:=by omega
     have hg:ss[k]? = some (nth ss k):=nth_get? _ _ hlt
     have wk:=i64_up (k:=k) (by omega)
     obtain ⟨l1,l2⟩:=nthS hlt ho
     have fin:∀ q:Int,steE ss k=q→q≠0→woErr ss ys=q:=fun q h3 h4=>by rw [e1,firstNZ_hit hz (by rw [h3]; exact h4) (by omega:k < 2),h3,if_pos h4]
     simp only [go_sem,hk2,hlt,hg,cSi3,cSi,cWd]
     refine ops_call (.pureE (siCheck_meets (nth ss k).1 (nth ss k).2.1 (nth ss k).2.2 (by omega) (by omega)) (by simp [go_sem,cSi])) ?_
     by_cases h3:siErr (nth ss k).1 (nth ss k).2.1 (nth ss k).2.2=0
     ·
      by_cases h4:(nth ss k).1=(k:Int)
      ·
       have h5:steE ss k=0:=by rw [steE,if_pos h3,if_pos h4]
       simp only [go_sem,h3]
       simp only [go_sem,h4,wk]
       refine ⟨by simp,m - 1,by omega,k + 1,by omega,firstNZ_succ hz h5,?_⟩
       simp [trim_mk,go_sem,subHeap,renObj,pos,List.range_succ,cWd]
      ·
       have h5:steE ss k=4:=by rw [steE,if_pos h3,if_neg h4]
       simp only [go_sem,h3]
       simp only [go_sem,h4]
       refine ret_pure hx ?_
       simp [go_sem,L69,R69,fin 4 h5 (by decide)]
     ·
      have h5:steE ss k=siErr (nth ss k).1 (nth ss k).2.1 (nth ss k).2.2:=by rw [steE,if_neg h3]
      simp only [go_sem,h3]
      refine ret_pure hx ?_
      simp [go_sem,L69,R69,fin _ h5 h3]
    ·
     obtain rfl:k=2:=by omega
     have hst:∀ j,j < 2→steE ss j=0:=firstNZ_zero.1 hz
     have e2:woErr ss ys=if firstNZ (fun i=>wayErr ss (nth ys i)) 2≠0 then firstNZ (fun i=>wayErr ss (nth ys i)) 2 else if strTo ss 2=true then 4 else 0:=by rw [e1,if_neg (by simp [hz])]
     simp only [go_sem,hk2,cWd,hyl,h2]
     refine loop_inv [1,41,42,43] 1 (fun m st=>∃ k:Nat,k + m=2∧firstNZ (fun i=>wayErr ss (nth ys i)) k=0 ∧
      st=⟨mkE .top [(1,.ptr 0 0),(41,.list (cYs ys)),(42,.int .i64 2),(43,.int .i64 k)],[.box (cWd ss ys)]⟩) 2 (by simp [hx]) (by simp) ?_ ?_
     ·
      refine ⟨0,by omega,rfl,?_⟩
      simp [trim_mk,go_sem,subHeap,renObj,pos,List.range_succ,cWd]
     ·
      rintro m st ⟨k,hk,hz2,rfl⟩
      by_cases hk2:(k:Int) < 2
      ·
       have hlt:k < ys.length:=by omega
       have hg:(cYs ys)[k]? = some [.list ((nth ys k).map cE)]:=by unfold cYs; rw [List.getElem?_map,nth_get? _ _ hlt]; rfl
       have wk:=i64_up (k:=k) (by omega)
       have l1:=nthY hlt hoy
       have hkl:k < (cYs ys).length:=by omega
       have fin:∀ q:Int,wayErr ss (nth ys k)=q→q≠0→woErr ss ys=q:=fun q h3 h4=>by rw [e2,firstNZ_hit hz2 (by simp only [h3]; exact h4) (by omega:k < 2)]; simp only [h3]; rw [if_pos h4]
       simp only [go_sem,hk2,hkl,hg,cWd]
       refine ops_call (.pureE (way_meets ss ys (nth ys k) s2 ho l1) (by simp [go_sem,cWd])) ?_
       by_cases h3:wayErr ss (nth ys k)=0
       ·
        simp only [go_sem,h3,wk]
        refine ⟨by simp,m - 1,by omega,k + 1,by omega,firstNZ_succ hz2 h3,?_⟩
        simp [trim_mk,go_sem,subHeap,renObj,pos,List.range_succ,cWd]
       ·
        simp only [go_sem,h3]
        refine ret_pure hx ?_
        simp [go_sem,L69,R69,fin _ rfl h3]
      ·
       obtain rfl:k=2:=by omega
       have e3:woErr ss ys=if strTo ss 2=true then 4 else 0:=by rw [e2,if_neg (by simp [hz2])]
       simp only [go_sem,hk2,cWd,h1]
       refine loop_inv [9,56,57,58] 1 (fun m st=>∃ k:Nat,k + m=2∧strTo ss k=false ∧
        st=⟨mkE .top [(9,.clo 117 [.ptr 0 0]),(56,.list (ss.map cSi3)),(57,.int .i64 2),(58,.int .i64 k)],[.box (cWd ss ys)]⟩) 2 (by simp [hx]) (by simp) ?_ ?_
       ·
        refine ⟨0,by omega,rfl,?_⟩
        simp [trim_mk,go_sem,subHeap,renObj,pos,List.range_succ,cWd]
       ·
        rintro m st ⟨k,hk,hz3,rfl⟩
        by_cases hk2:(k:Int) < 2
        ·
         have hlt:k < ss.length:=by omega
         have hg:ss[k]? = some (nth ss k):=nth_get? _ _ hlt
         have wk:=i64_up (k:=k) (by omega)
         obtain ⟨l1,l2⟩:=nthS hlt ho
         have hreg:=si_reg (ste_ok (hst k (by omega))).1
         have hsB:strB ss (nth ss k)=(((nth ss k).2.1.any fun e => !bornB ss e) || ((nth ss k).2.2.any fun e => !bornB ss e)):=rfl
         have fin:strB ss (nth ss k)=true→woErr ss ys=4:=fun h=>by rw [e3,if_pos (strTo_hit (by omega:k < 2) (by omega) h)]
         simp only [go_sem,hk2,hlt,hg,cSi3,cSi,cWd]
         refine ops_call (.lookE (contS_meets ss ys (nth ss k).2.1 s2 ho (by omega) fun e he=>hreg e (.inl he)) rfl (by simp [lookF,lookN,go_sem,frzAt,pos,cWd])) ?_
         cases h3:(nth ss k).2.1.any fun e => !bornB ss e
         ·
          simp only [go_sem,cSi3,cSi,cWd]
          refine ops_call (.lookE (contS_meets ss ys (nth ss k).2.2 s2 ho (by omega) fun e he=>hreg e (.inr he)) rfl (by simp [lookF,lookN,go_sem,frzAt,pos,cWd])) ?_
          cases h4:(nth ss k).2.2.any fun e => !bornB ss e
          ·
           have h5:strB ss (nth ss k)=false:=by rw [hsB,h3,h4]; rfl
           simp only [go_sem,wk]
           refine ⟨by simp,m - 1,by omega,k + 1,by omega,by rw [strTo_succ hlt,hz3,h5]; rfl,?_⟩
           simp [trim_mk,go_sem,subHeap,renObj,renCell,renLeaf,pos,List.range_succ,cWd]
          ·
           have h5:strB ss (nth ss k)=true:=by rw [hsB,h4,Bool.or_true]
           simp only [go_sem]
           refine ret_pure hx ?_
           simp [go_sem,L69,R69,fin h5]
         ·
          have h5:strB ss (nth ss k)=true:=by rw [hsB,h3,Bool.true_or]
          simp only [go_sem]
          refine ret_pure hx ?_
          simp [go_sem,L69,R69,fin h5]
        ·
         obtain rfl:k=2:=by omega
         have e4:woErr ss ys=0:=by rw [e3,if_neg (by simp [hz3])]
         simp only [go_sem,hk2]
         refine ret_pure hx ?_
         simp [go_sem,L69,R69,e4]
  ·
   have e1:woErr ss ys=1:=by rw [woErr,if_pos (by omega)]
   have hyl:(cYs ys).length=ys.length:=by simp [cYs]
   simp only [go_sem,L69,R69,cWd,h1,h2,hyl]
   refine ret_pure hx ?_
   simp [go_sem,L69,R69,e1]
 ·
  have e1:woErr ss ys=1:=by rw [woErr,if_pos (by omega)]
  simp only [go_sem,L69,R69,cWd,h1]
  refine ret_pure hx ?_
  simp [go_sem,L69,R69,e1]
end Go.Proofs.YtfdolehffjmdmaaGreatDoor
/- Worlds: what comes to a site,what is sent,what is taken,all that comes: contracts of a doer's steps. -/
namespace Go.Proofs.YtfdolehffjmdmaaGreatDoor
set_option linter.unusedSimpArgs false
set_option linter.unusedVariables false
open Go.RowKit
def hWo (vs vy va vb:Nat) (w:Wo):List AObj := [.box [.arr 1 vs,.arr 2 vy],.arr vs true false 49 3 (w.ss.map cSi3),.arr vy true true 22 1 [[.arr 3 va],[.arr 4 vb]],.arr va true false 46 5 (w.a.map cE),.arr vb true false 46 5 (w.b.map cE)]
def recW (w:Wo) (i:Int) (e:Entry):Wo:=if rcErr i (w.log i) (w.wts i) e=0 then w.setS i (rcSi i (w.log i) (w.wts i) e).2 else w
theorem rcSi_one {r:Int} {p u:List Entry} {e:Entry} (h:rcErr r p u e=0):rcSi r p u e=(r,(rcSi r p u e).2):=by
 unfold rcSi
 by_cases h1:0≤findE p e.id∨0≤findE u e.id
 ·
  rw [if_pos h1]
 ·
  rw [if_neg h1,if_pos h]
theorem si_pre {r:Int} {p u:List Entry} (h:siErr r p u=0):(r=0∨r=1)∧p.length≤1000∧u.length≤1000∧fitE p∧fitE u∧upE u∧LogOk p∧u.length≤20:=by
 obtain ⟨a,b,c,d,-⟩:=siErr_iff.1 h
 have:=b.len
 exact ⟨a,by omega,by omega,log_fit b,fun e he=>check_fit (d.chk e he),d.up,b,c⟩
set_option maxHeartbeats 4000000 in
theorem receive_meets (vs vy va vb : Nat) (w : Wo) (i : Int) (e : Entry) (hs : siErr i (w.log i) (w.wts i) = 0) (hc : checkEntry e = 0) :
    Meets Tryz.prog 124 [.ptr 0 0,.int .i64 i,.agg (cE e)] (hWo vs vy va vb w) (.int .i64 (rcErr i (w.log i) (w.wts i) e)) (hWo vs vy va vb (recW w i e)):=by
  obtain ⟨s1,s2,s3,s4,s5,s6,-,-⟩:=si_pre hs
  rcases s1 with rfl | rfl
  · skip
    have hp:=siRaw_meets 0 w.p w.u e s2 s3 s4 s5 s6 (check_fit hc)
    refine Meets.of_walk Tryz.func124 Tryz.ntmps124 low124 res124 (by simp) fun x hx=>?_
    by_cases h0:rcErr 0 w.p w.u e=0
    · obtain ⟨A,U,hAU⟩:∃ A U,rcSi 0 w.p w.u e=(0,A,U):=⟨_,_,rcSi_one h0⟩
      have hw:recW w 0 e = { w with p:=A,u:=U }:=by rw [recW]; show (if rcErr 0 w.p w.u e=0 then _ else _)=_; rw [if_pos h0]; show Wo.setS w 0 (rcSi 0 w.p w.u e).2=_; rw [hAU]; rfl
      have he:rcErr 0 (w.log 0) (w.wts 0) e=0:=h0
      rw [hw,he]
      rw [hAU,h0] at hp
      simp only [go_sem,L124,R124,hWo,Wo.ss,cSi3,cSi,cE,intS,Int.reduceLT,Int.reduceLE,Int.reduceToNat,Int.reduceAdd,frz,List.map_cons,List.map_nil]
      refine ops_call (.pureE hp (by simp [go_sem,cSi,cE])) ?_
      simp only [go_sem,hWo,Wo.ss,cSi3,cSi,cE,intS,Int.reduceLT,Int.reduceLE,Int.reduceToNat,Int.reduceAdd,frz,List.map_cons,List.map_nil]
      repeat refine ⟨rfl,?_⟩
      try simp only [go_sem,hWo,Wo.ss,cSi3,cSi,cE,intS,Int.reduceLT,Int.reduceLE,Int.reduceToNat,Int.reduceAdd,frz,List.map_cons,List.map_nil]
      repeat refine ⟨rfl,?_⟩
      refine end_keep [] (by simp) (by simp) (by simp [hx,hWo]) ?_ ?_
      · simp [go_sem,L124,R124,hx,pos,hWo]
      · simp [subHeap,renObj,hx,pos,go_sem,hWo,List.range_succ,Wo.ss,cSi3,cSi]
    · obtain ⟨S,hS⟩:∃ S,rcSi 0 w.p w.u e=S:=⟨_,rfl⟩
      obtain ⟨s1',A,U⟩:=S
      have hw:recW w 0 e=w:=by rw [recW]; show (if rcErr 0 w.p w.u e=0 then _ else _)=_; rw [if_neg h0]
      have he:rcErr 0 (w.log 0) (w.wts 0) e=rcErr 0 w.p w.u e:=rfl
      rw [hw,he]
      rw [hS] at hp
      simp only [go_sem,L124,R124,hWo,Wo.ss,cSi3,cSi,cE,intS,Int.reduceLT,Int.reduceLE,Int.reduceToNat,Int.reduceAdd,frz,List.map_cons,List.map_nil]
      refine ops_call (.pureE hp (by simp [go_sem,cSi,cE])) ?_
      simp only [go_sem,hWo,Wo.ss,cSi3,cSi,cE,intS,Int.reduceLT,Int.reduceLE,Int.reduceToNat,Int.reduceAdd,frz,List.map_cons,List.map_nil,h0]
      repeat refine ⟨rfl,?_⟩
      try simp only [go_sem,h0]
      refine end_keep [] (by simp) (by simp) (by simp [hx,hWo]) ?_ ?_
      · simp [go_sem,L124,R124,hx,pos,hWo]
      · simp [subHeap,renObj,hx,pos,go_sem,hWo,List.range_succ,Wo.ss,cSi3,cSi]
  · skip
    have hp:=siRaw_meets 1 w.q w.v e s2 s3 s4 s5 s6 (check_fit hc)
    refine Meets.of_walk Tryz.func124 Tryz.ntmps124 low124 res124 (by simp) fun x hx=>?_
    by_cases h0:rcErr 1 w.q w.v e=0
    · obtain ⟨A,U,hAU⟩:∃ A U,rcSi 1 w.q w.v e=(1,A,U):=⟨_,_,rcSi_one h0⟩
      have hw:recW w 1 e = { w with q:=A,v:=U }:=by rw [recW]; show (if rcErr 1 w.q w.v e=0 then _ else _)=_; rw [if_pos h0]; show Wo.setS w 1 (rcSi 1 w.q w.v e).2=_; rw [hAU]; rfl
      have he:rcErr 1 (w.log 1) (w.wts 1) e=0:=h0
      rw [hw,he]
      rw [hAU,h0] at hp
      simp only [go_sem,L124,R124,hWo,Wo.ss,cSi3,cSi,cE,intS,Int.reduceLT,Int.reduceLE,Int.reduceToNat,Int.reduceAdd,frz,List.map_cons,List.map_nil]
      refine ops_call (.pureE hp (by simp [go_sem,cSi,cE])) ?_
      simp only [go_sem,hWo,Wo.ss,cSi3,cSi,cE,intS,Int.reduceLT,Int.reduceLE,Int.reduceToNat,Int.reduceAdd,frz,List.map_cons,List.map_nil]
      repeat refine ⟨rfl,?_⟩
      try simp only [go_sem,hWo,Wo.ss,cSi3,cSi,cE,intS,Int.reduceLT,Int.reduceLE,Int.reduceToNat,Int.reduceAdd,frz,List.map_cons,List.map_nil]
      repeat refine ⟨rfl,?_⟩
      refine end_keep [] (by simp) (by simp) (by simp [hx,hWo]) ?_ ?_
      · simp [go_sem,L124,R124,hx,pos,hWo]
      · simp [subHeap,renObj,hx,pos,go_sem,hWo,List.range_succ,Wo.ss,cSi3,cSi]
    · obtain ⟨S,hS⟩:∃ S,rcSi 1 w.q w.v e=S:=⟨_,rfl⟩
      obtain ⟨s1',A,U⟩:=S
      have hw:recW w 1 e=w:=by rw [recW]; show (if rcErr 1 w.q w.v e=0 then _ else _)=_; rw [if_neg h0]
      have he:rcErr 1 (w.log 1) (w.wts 1) e=rcErr 1 w.q w.v e:=rfl
      rw [hw,he]
      rw [hS] at hp
      simp only [go_sem,L124,R124,hWo,Wo.ss,cSi3,cSi,cE,intS,Int.reduceLT,Int.reduceLE,Int.reduceToNat,Int.reduceAdd,frz,List.map_cons,List.map_nil]
      refine ops_call (.pureE hp (by simp [go_sem,cSi,cE])) ?_
      simp only [go_sem,hWo,Wo.ss,cSi3,cSi,cE,intS,Int.reduceLT,Int.reduceLE,Int.reduceToNat,Int.reduceAdd,frz,List.map_cons,List.map_nil,h0]
      repeat refine ⟨rfl,?_⟩
      try simp only [go_sem,h0]
      refine end_keep [] (by simp) (by simp) (by simp [hx,hWo]) ?_ ?_
      · simp [go_sem,L124,R124,hx,pos,hWo]
      · simp [subHeap,renObj,hx,pos,go_sem,hWo,List.range_succ,Wo.ss,cSi3,cSi]
theorem allN_step {r:Int} {l p u:List Entry} {k:Nat} (hk:k < l.length) (h0:(allN r (l.take k) p u).1=0):allN r (l.take (k + 1)) p u=allN r [nth l k] (allN r (l.take k) p u).2.1 (allN r (l.take k) p u).2.2:=by
 rw [takeE_succ hk,allN_app r _ _ _ _ h0]
set_option maxHeartbeats 4000000 in
theorem woAll_meets (vs vy va vb : Nat) (w : Wo) (i : Int) (hi : i = 0 ∨ i = 1) (hs : siErr i (w.log i) (w.wts i) = 0) (hB : LogOk (w.log (1 - i))) :
    Meets Tryz.prog 79 [.ptr 0 0,.int .i64 i] (hWo vs vy va vb w) (.int .i64 0) (hWo vs vy va vb (w.setS i (allW w i).2)):=by
  have hchk:∀ k,∀ e ∈ (w.log (1 - i)).take k,checkEntry e=0:=fun k e he=>hB.mem_chk (List.mem_of_mem_take he)
  have hlen:=hB.len
  rcases hi with rfl | rfl
  · have hB:LogOk w.q:=hB
    have hlen:w.q.length≤40:=hlen
    have hchk:∀ k,∀ e ∈ w.q.take k,checkEntry e=0:=hchk
    have hs:siErr 0 w.p w.u=0:=hs
    have k10:IntKind.i64.wrap (1 - 0)=1:=by decide
    refine Meets.of_walk Tryz.func79 Tryz.ntmps79 low79 res79 (by simp) fun x hx=>?_
    simp only [go_sem,L79,R79,hWo,Wo.ss,cSi3,cSi,intS,Int.reduceLT,Int.reduceLE,Int.reduceToNat,Int.reduceAdd,frz,List.map_cons,List.map_nil,k10]
    refine loop_inv [0,1,17,18,19] 5 (fun m st=>∃ k:Nat,k + m=w.q.length ∧
      st=⟨mkE .top [(0,.ptr 0 0),(1,.int .i64 0),(17,.list (w.q.map cE)),(18,.int .i64 w.q.length),(19,.int .i64 k)],hWo vs vy va vb (w.setS 0 (allN 0 (w.q.take k) w.p w.u).2)⟩) w.q.length (by simp [hx,hWo]) (by simp) ?_ ?_
    · refine ⟨0,by omega,?_⟩
      simp [trim_mk,go_sem,subHeap,renObj,renCell,renLeaf,pos,List.range_succ,hWo,Wo.ss,cSi3,cSi,allN,Wo.setS]
    · rintro m st ⟨k,hk,rfl⟩
      have hok:=hchk k
      obtain ⟨a1,a2,-,-⟩:=allN_ok (w.q.take k) w.p w.u hs hok
      by_cases hlt:k < w.q.length
      · have hg:w.q[k]? = some (nth w.q k):=nth_get? _ _ hlt
        have wk:=i64_up (k:=k) (by omega)
        have hce:=hB.chk k hlt
        have hst:=allN_step (r:=0) (p:=w.p) (u:=w.u) hlt a1
        obtain ⟨w2,hw2⟩:∃ w2,w.setS 0 (allN 0 (w.q.take k) w.p w.u).2=w2:=⟨_,rfl⟩
        have hl2:w2.log 0=(allN 0 (w.q.take k) w.p w.u).2.1:=by rw [← hw2]; rfl
        have hu2:w2.wts 0=(allN 0 (w.q.take k) w.p w.u).2.2:=by rw [← hw2]; rfl
        rw [hw2]
        by_cases hr:(nth w.q k).id.r=0
        · have hst2:w.setS 0 (allN 0 (w.q.take (k + 1)) w.p w.u).2=w2:=by rw [hst,allN,if_pos hr,allN,← hw2]
          simp only [go_sem,hlt,hg,cE,hr,hWo,wk]
          refine ⟨by simp [hWo],m - 1,by omega,k + 1,by omega,?_⟩
          rw [hst2]
          simp [trim_mk,go_sem,subHeap,renObj,renCell,renLeaf,pos,List.range_succ,hWo,Wo.ss,cSi3,cSi]
        · obtain ⟨r1,-,-,-,-,-,-⟩:=rc_ok a2 hce hr
          rw [← hl2,← hu2] at r1
          have hrw:recW w2 0 (nth w.q k)=w.setS 0 (allN 0 (w.q.take (k + 1)) w.p w.u).2:=by
            rw [recW,if_pos r1,hst,allN,if_neg hr]
            rw [hl2,hu2] at r1
            rw [if_pos r1,allN,← hw2,hw2,hl2,hu2,← hw2]
            rfl
          have hrc:=receive_meets vs vy va vb w2 0 (nth w.q k) (by rw [hl2,hu2]; exact a2) hce
          rw [r1,hrw] at hrc
          simp only [go_sem,hlt,hg,cE,hr,hWo]
          refine ops_call (.heapE [0,1,2,3,4] (r' := .int .i64 0) (H':=hWo vs vy va vb (w.setS 0 (allN 0 (w.q.take (k + 1)) w.p w.u).2) ++ [.box (cE (nth w.q k))]) hrc (by simp) (by simp [hWo]) (by simp [go_sem,pos,cE]) ?_ ?_ ?_) ?_
          · simp [subHeap,renObj,renCell,renLeaf,pos,hWo,Wo.ss,cSi3,cSi]
          · simp [renT,ren,renCell,renLeaf]
          · simp [merge,mergeObj,callId,backF,backId,renObj,renCell,renLeaf,pos,List.range_succ,hWo,Wo.ss,cSi3,cSi,cE]
          simp only [go_sem,hWo,wk]
          refine ⟨by simp [hWo],m - 1,by omega,k + 1,by omega,?_⟩
          simp [trim_mk,go_sem,subHeap,renObj,renCell,renLeaf,pos,List.range_succ,hWo,Wo.ss,cSi3,cSi]
      · have htk:w.q.take k=w.q:=List.take_of_length_le (by omega)
        rw [htk]
        simp only [go_sem,hlt,hWo]
        refine end_keep [] (by simp) (by simp) (by simp [hx,hWo]) ?_ ?_
        · simp [go_sem,L79,R79,hx,pos,hWo]
        · simp [subHeap,renObj,hx,pos,go_sem,hWo,List.range_succ,Wo.ss,cSi3,cSi]
          exact ⟨⟨⟨rfl,rfl⟩,rfl,rfl⟩,rfl,rfl⟩
  · have hB:LogOk w.p:=hB
    have hlen:w.p.length≤40:=hlen
    have hchk:∀ k,∀ e ∈ w.p.take k,checkEntry e=0:=hchk
    have hs:siErr 1 w.q w.v=0:=hs
    have k10:IntKind.i64.wrap (1 - 1)=0:=by decide
    refine Meets.of_walk Tryz.func79 Tryz.ntmps79 low79 res79 (by simp) fun x hx=>?_
    simp only [go_sem,L79,R79,hWo,Wo.ss,cSi3,cSi,intS,Int.reduceLT,Int.reduceLE,Int.reduceToNat,Int.reduceAdd,frz,List.map_cons,List.map_nil,k10]
    refine loop_inv [0,1,17,18,19] 5 (fun m st=>∃ k:Nat,k + m=w.p.length ∧
      st=⟨mkE .top [(0,.ptr 0 0),(1,.int .i64 1),(17,.list (w.p.map cE)),(18,.int .i64 w.p.length),(19,.int .i64 k)],hWo vs vy va vb (w.setS 1 (allN 1 (w.p.take k) w.q w.v).2)⟩) w.p.length (by simp [hx,hWo]) (by simp) ?_ ?_
    · refine ⟨0,by omega,?_⟩
      simp [trim_mk,go_sem,subHeap,renObj,renCell,renLeaf,pos,List.range_succ,hWo,Wo.ss,cSi3,cSi,allN,Wo.setS]
    · rintro m st ⟨k,hk,rfl⟩
      have hok:=hchk k
      obtain ⟨a1,a2,-,-⟩:=allN_ok (w.p.take k) w.q w.v hs hok
      by_cases hlt:k < w.p.length
      · have hg:w.p[k]? = some (nth w.p k):=nth_get? _ _ hlt
        have wk:=i64_up (k:=k) (by omega)
        have hce:=hB.chk k hlt
        have hst:=allN_step (r:=1) (p:=w.q) (u:=w.v) hlt a1
        obtain ⟨w2,hw2⟩:∃ w2,w.setS 1 (allN 1 (w.p.take k) w.q w.v).2=w2:=⟨_,rfl⟩
        have hl2:w2.log 1=(allN 1 (w.p.take k) w.q w.v).2.1:=by rw [← hw2]; rfl
        have hu2:w2.wts 1=(allN 1 (w.p.take k) w.q w.v).2.2:=by rw [← hw2]; rfl
        rw [hw2]
        by_cases hr:(nth w.p k).id.r=1
        · have hst2:w.setS 1 (allN 1 (w.p.take (k + 1)) w.q w.v).2=w2:=by rw [hst,allN,if_pos hr,allN,← hw2]
          simp only [go_sem,hlt,hg,cE,hr,hWo,wk]
          refine ⟨by simp [hWo],m - 1,by omega,k + 1,by omega,?_⟩
          rw [hst2]
          simp [trim_mk,go_sem,subHeap,renObj,renCell,renLeaf,pos,List.range_succ,hWo,Wo.ss,cSi3,cSi]
        · obtain ⟨r1,-,-,-,-,-,-⟩:=rc_ok a2 hce hr
          rw [← hl2,← hu2] at r1
          have hrw:recW w2 1 (nth w.p k)=w.setS 1 (allN 1 (w.p.take (k + 1)) w.q w.v).2:=by
            rw [recW,if_pos r1,hst,allN,if_neg hr]
            rw [hl2,hu2] at r1
            rw [if_pos r1,allN,← hw2,hw2,hl2,hu2,← hw2]
            rfl
          have hrc:=receive_meets vs vy va vb w2 1 (nth w.p k) (by rw [hl2,hu2]; exact a2) hce
          rw [r1,hrw] at hrc
          simp only [go_sem,hlt,hg,cE,hr,hWo]
          refine ops_call (.heapE [0,1,2,3,4] (r' := .int .i64 0) (H':=hWo vs vy va vb (w.setS 1 (allN 1 (w.p.take (k + 1)) w.q w.v).2) ++ [.box (cE (nth w.p k))]) hrc (by simp) (by simp [hWo]) (by simp [go_sem,pos,cE]) ?_ ?_ ?_) ?_
          · simp [subHeap,renObj,renCell,renLeaf,pos,hWo,Wo.ss,cSi3,cSi]
          · simp [renT,ren,renCell,renLeaf]
          · simp [merge,mergeObj,callId,backF,backId,renObj,renCell,renLeaf,pos,List.range_succ,hWo,Wo.ss,cSi3,cSi,cE]
          simp only [go_sem,hWo,wk]
          refine ⟨by simp [hWo],m - 1,by omega,k + 1,by omega,?_⟩
          simp [trim_mk,go_sem,subHeap,renObj,renCell,renLeaf,pos,List.range_succ,hWo,Wo.ss,cSi3,cSi]
      · have htk:w.p.take k=w.p:=List.take_of_length_le (by omega)
        rw [htk]
        simp only [go_sem,hlt,hWo]
        refine end_keep [] (by simp) (by simp) (by simp [hx,hWo]) ?_ ?_
        · simp [go_sem,L79,R79,hx,pos,hWo]
        · simp [subHeap,renObj,hx,pos,go_sem,hWo,List.range_succ,Wo.ss,cSi3,cSi]
          exact ⟨⟨⟨rfl,rfl⟩,rfl,rfl⟩,rfl,rfl⟩
end Go.Proofs.YtfdolehffjmdmaaGreatDoor
/- Worlds: what is taken and sent,worlds of one's own: contracts. -/
namespace Go.Proofs.YtfdolehffjmdmaaGreatDoor
set_option linter.unusedSimpArgs false
set_option linter.unusedVariables false
open Go.RowKit
set_option maxHeartbeats 2000000 in
theorem take_meets (vs vy va vb : Nat) (w : Wo) (i : Int) (q : Nat) (hi : i = 0 ∨ i = 1) (hq : q < (w.way i).length) (hl : (w.way i).length ≤ 30) :
    ∃ va' vb',Meets Tryz.prog 155 [.ptr 0 0,.int .i64 i,.int .i64 q] (hWo vs vy va vb w) (.agg (cE (nth (w.way i) q))) (hWo vs vy va' vb' (w.setY i ((w.way i).eraseIdx q))):=by
  rcases hi with rfl | rfl
  · have hq:q < w.a.length:=hq
    have hl:w.a.length≤30:=hl
    refine ⟨va + 1,vb,?_⟩
    refine Meets.of_walk Tryz.func155 Tryz.ntmps155 low155 res155 (by simp) fun x hx=>?_
    have hgq:w.a[q]? = some (nth w.a q):=nth_get? _ _ hq
    have wq:=i64_up (k:=q) (by omega)
    simp only [go_sem,L155,R155,hWo,intS,Int.reduceLT,Int.reduceLE,Int.reduceToNat,Int.reduceAdd,frz,hq,hgq,cE]
    refine ops_call1 3 (delE_meets (w.a.map cE) va 46 q (by simpa using hq)) rfl rfl rfl rfl (by simp [go_sem]) (by simp [go_sem,pos,wq]) rfl ?_
    rw [eraseIdx_mapE]
    simp only [go_sem,intS,Int.reduceLT,Int.reduceLE,Int.reduceToNat,Int.reduceAdd,frz]
    repeat refine ⟨rfl,?_⟩
    try simp only [go_sem,intS,Int.reduceLT,Int.reduceLE,Int.reduceToNat,Int.reduceAdd,frz]
    refine end_keep [] (by simp) (by simp) (by simp [hx,hWo]) ?_ ?_
    · simp [go_sem,L155,R155,hx,pos,hWo,cE,Wo.way]
    · simp [subHeap,renObj,renCell,renLeaf,hx,pos,go_sem,hWo,List.range_succ,Wo.ss,cSi3,cSi,Wo.setY,Wo.way]
  · have hq:q < w.b.length:=hq
    have hl:w.b.length≤30:=hl
    refine ⟨va,vb + 1,?_⟩
    refine Meets.of_walk Tryz.func155 Tryz.ntmps155 low155 res155 (by simp) fun x hx=>?_
    have hgq:w.b[q]? = some (nth w.b q):=nth_get? _ _ hq
    have wq:=i64_up (k:=q) (by omega)
    simp only [go_sem,L155,R155,hWo,intS,Int.reduceLT,Int.reduceLE,Int.reduceToNat,Int.reduceAdd,frz,hq,hgq,cE]
    refine ops_call1 4 (delE_meets (w.b.map cE) vb 46 q (by simpa using hq)) rfl rfl rfl rfl (by simp [go_sem]) (by simp [go_sem,pos,wq]) rfl ?_
    rw [eraseIdx_mapE]
    simp only [go_sem,intS,Int.reduceLT,Int.reduceLE,Int.reduceToNat,Int.reduceAdd,frz]
    repeat refine ⟨rfl,?_⟩
    try simp only [go_sem,intS,Int.reduceLT,Int.reduceLE,Int.reduceToNat,Int.reduceAdd,frz]
    refine end_keep [] (by simp) (by simp) (by simp [hx,hWo]) ?_ ?_
    · simp [go_sem,L155,R155,hx,pos,hWo,cE,Wo.way]
    · simp [subHeap,renObj,renCell,renLeaf,hx,pos,go_sem,hWo,List.range_succ,Wo.ss,cSi3,cSi,Wo.setY,Wo.way]
set_option maxHeartbeats 2000000 in
theorem send_meets (vs vy va vb : Nat) (w : Wo) (i : Int) (e : Entry) (hi : i = 0 ∨ i = 1) (hl : (w.way i).length ≤ 30) (he : e.ls.length ≤ 1000000) :
    ∃ va' vb',Meets Tryz.prog 154 [.ptr 0 0,.int .i64 i,.agg (cE e)] (hWo vs vy va vb w) (.bool (!decide ((w.way i).length=30))) (hWo vs vy va' vb' (sendW w i e)):=by
  rcases hi with rfl | rfl
  · have hl:w.a.length≤30:=hl
    by_cases h30:(w.a.length:Int)=30
    · refine ⟨va,vb,?_⟩
      have hs:sendW w 0 e=w:=by rw [sendW,if_pos (show (w.way 0).length=30 by show w.a.length=30; omega)]
      have hd:decide ((w.way 0).length=30)=true:=by show decide (w.a.length=30)=true; simp; omega
      rw [hs,hd]
      refine Meets.of_walk Tryz.func154 Tryz.ntmps154 low154 res154 (by simp) fun x hx=>?_
      simp only [go_sem,L154,R154,hWo,intS,Int.reduceLT,Int.reduceLE,Int.reduceToNat,Int.reduceAdd,frz,cE,h30,List.length_map]
      refine ret_keep [] (by simp) (by simp) (by simp [hx,hWo]) ?_ ?_
      · simp [go_sem,L154,R154,hx,pos,hWo]
      · simp [subHeap,renObj,renCell,renLeaf,hx,pos,go_sem,hWo,List.range_succ,Wo.ss,cSi3,cSi]
    · have hs:sendW w 0 e = { w with a:=w.a ++ [e] }:=by rw [sendW,if_neg (show ¬ (w.way 0).length=30 by show ¬ w.a.length=30; omega)]; rfl
      have hd:decide ((w.way 0).length=30)=false:=by show decide (w.a.length=30)=false; simp; omega
      refine ⟨va + 1,vb,?_⟩
      rw [hs,hd]
      refine Meets.of_walk Tryz.func154 Tryz.ntmps154 low154 res154 (by simp) fun x hx=>?_
      simp only [go_sem,L154,R154,hWo,intS,Int.reduceLT,Int.reduceLE,Int.reduceToNat,Int.reduceAdd,frz,cE,h30,List.length_map]
      refine ops_call (.pureE (entOwn_meets e he) (by simp [go_sem,cE])) ?_
      simp only [go_sem,hWo,intS,Int.reduceLT,Int.reduceLE,Int.reduceToNat,Int.reduceAdd,frz,cE]
      rw [app_arr rfl rfl (by simp) (by simp; omega)]
      simp only [go_sem,intS,Int.reduceLT,Int.reduceLE,Int.reduceToNat,Int.reduceAdd,frz]
      repeat refine ⟨rfl,?_⟩
      try simp only [go_sem,intS,Int.reduceLT,Int.reduceLE,Int.reduceToNat,Int.reduceAdd,frz]
      refine end_keep [] (by simp) (by simp) (by simp [hx,hWo]) ?_ ?_
      · simp [go_sem,L154,R154,hx,pos,hWo]
      · simp [subHeap,renObj,renCell,renLeaf,hx,pos,go_sem,hWo,List.range_succ,Wo.ss,cSi3,cSi,cE]
  · have hl:w.b.length≤30:=hl
    by_cases h30:(w.b.length:Int)=30
    · refine ⟨va,vb,?_⟩
      have hs:sendW w 1 e=w:=by rw [sendW,if_pos (show (w.way 1).length=30 by show w.b.length=30; omega)]
      have hd:decide ((w.way 1).length=30)=true:=by show decide (w.b.length=30)=true; simp; omega
      rw [hs,hd]
      refine Meets.of_walk Tryz.func154 Tryz.ntmps154 low154 res154 (by simp) fun x hx=>?_
      simp only [go_sem,L154,R154,hWo,intS,Int.reduceLT,Int.reduceLE,Int.reduceToNat,Int.reduceAdd,frz,cE,h30,List.length_map]
      refine ret_keep [] (by simp) (by simp) (by simp [hx,hWo]) ?_ ?_
      · simp [go_sem,L154,R154,hx,pos,hWo]
      · simp [subHeap,renObj,renCell,renLeaf,hx,pos,go_sem,hWo,List.range_succ,Wo.ss,cSi3,cSi]
    · have hs:sendW w 1 e = { w with b:=w.b ++ [e] }:=by rw [sendW,if_neg (show ¬ (w.way 1).length=30 by show ¬ w.b.length=30; omega)]; rfl
      have hd:decide ((w.way 1).length=30)=false:=by show decide (w.b.length=30)=false; simp; omega
      refine ⟨va,vb + 1,?_⟩
      rw [hs,hd]
      refine Meets.of_walk Tryz.func154 Tryz.ntmps154 low154 res154 (by simp) fun x hx=>?_
      simp only [go_sem,L154,R154,hWo,intS,Int.reduceLT,Int.reduceLE,Int.reduceToNat,Int.reduceAdd,frz,cE,h30,List.length_map]
      refine ops_call (.pureE (entOwn_meets e he) (by simp [go_sem,cE])) ?_
      simp only [go_sem,hWo,intS,Int.reduceLT,Int.reduceLE,Int.reduceToNat,Int.reduceAdd,frz,cE]
      rw [app_arr rfl rfl (by simp) (by simp; omega)]
      simp only [go_sem,intS,Int.reduceLT,Int.reduceLE,Int.reduceToNat,Int.reduceAdd,frz]
      repeat refine ⟨rfl,?_⟩
      try simp only [go_sem,intS,Int.reduceLT,Int.reduceLE,Int.reduceToNat,Int.reduceAdd,frz]
      refine end_keep [] (by simp) (by simp) (by simp [hx,hWo]) ?_ ?_
      · simp [go_sem,L154,R154,hx,pos,hWo]
      · simp [subHeap,renObj,renCell,renLeaf,hx,pos,go_sem,hWo,List.range_succ,Wo.ss,cSi3,cSi,cE]
theorem siOwnP_meets (r:Int) (lg ws:List Entry) (h1:lg.length≤1000000) (h2:ws.length≤1000000) (hf1:fitE lg) (hf2:fitE ws):Meets Tryz.prog 111 [.agg (cSi r lg ws)] [] (.agg (cSi r lg ws)) []:=by
 refine Meets.of_walk Tryz.func111 Tryz.ntmps111 low111 res111 (by simp) fun x hx=>?_
 simp only [go_sem,L111,R111,cSi]
 refine ops_call2 (r := .arr 2 lg.length) (siEntries_meets lg h1 hf1) rfl rfl (by simp [go_sem]) rfl ?_
 simp only [go_sem,cSi]
 refine ops_call2 (r := .arr 3 ws.length) (siEntries_meets ws h2 hf2) rfl rfl (by simp [go_sem]) rfl ?_
 simp only [go_sem,cSi]
 repeat refine ⟨rfl,?_⟩
 refine ret_weak (weak_shut 2 rfl) ?_
 refine ret_weak (weak_shut 3 rfl) ?_
 refine ret_pure hx ?_
 simp [go_sem,L111,R111,cSi,frzAt,pos]
def ownH (w:Wo) (vy:Nat) (_:Nat) (rows:List (List PV)) (rest:List AObj):List AObj := [.box (cWd w.ss w.ys),.box [.arr 2 2,.arr 3 vy],.arr 2 true false 49 3 (w.ss.map cSi3),.arr vy true true 22 1 rows] ++ rest
set_option maxHeartbeats 4000000 in
theorem woOwn_meets (w:Wo) (h:WoOk w):Meets Tryz.prog 78 [.agg (cWd w.ss w.ys)] [] (.ptr 0 0) (hWo 2 2 w.a.length w.b.length w):=by
 obtain ⟨-,p2,p3,p4,p5,-,-,-⟩:=si_pre h.s0
 obtain ⟨-,q2,q3,q4,q5,-,-,-⟩:=si_pre h.s1
 have fa:fitE w.a:=fun e he=>check_fit (h.ca e he)
 have fb:fitE w.b:=fun e he=>check_fit (h.cb e he)
 have la:=h.la
 have lb:=h.lb
 have k1:IntKind.i64.wrap 1=1:=by decide
 have k2:IntKind.i64.wrap 2=2:=by decide
 refine Meets.of_walk Tryz.func78 Tryz.ntmps78 low78 res78 (by simp) fun x hx=>?_
 simp only [go_sem,L78,R78,cWd,Wo.ss,Wo.ys,cYs,cSi3,cSi,intS,Int.reduceLT,Int.reduceLE,Int.reduceToNat,Int.reduceAdd,frz,List.map_cons,List.map_nil]
 refine W_weak (weak_ownc 1 0 0 49 3 true false rfl rfl (by omega)) ?_
 refine W_weak (weak_ownc 1 1 0 22 1 true true rfl rfl (by omega)) ?_
 refine loop_inv [1,3,14,15,16] 4 (fun m st=>∃ k:Nat,k + m=2 ∧
  st=⟨mkE .top [(1,.ptr 0 0),(3,.ptr 1 0),(14,.list (w.ss.map cSi3)),(15,.int .i64 2),(16,.int .i64 k)],[.box (cWd w.ss w.ys),.box [.arr 2 k,.arr 3 0],.arr k true false 49 3 ((w.ss.take k).map cSi3),.arr 0 true true 22 1 []]⟩) 2 (by simp [hx]) (by simp) ?_ ?_
 ·
  refine ⟨0,by omega,?_⟩
  simp [trim_mk,go_sem,subHeap,renObj,renCell,renLeaf,pos,List.range_succ,Wo.ss,Wo.ys,cWd,cYs,cSi3,cSi]
 ·
  rintro m st ⟨k,hk,rfl⟩
  by_cases hk2:k < 2
  ·
   obtain rfl | rfl:k=0∨k=1:=by omega
   ·
    skip
    simp only [go_sem,cWd,Wo.ss,Wo.ys,cYs,cSi3,cSi,intS,Int.reduceLT,Int.reduceLE,Int.reduceToNat,Int.reduceAdd,frz,List.map_cons,List.map_nil,List.take_succ_cons,List.take_zero]
    refine ops_call (.pureE (siOwnP_meets 0 w.p w.u (by omega) (by omega) p4 p5) (by simp [go_sem,cSi])) ?_
    simp only [go_sem,cSi,intS,Int.reduceLT,Int.reduceLE,Int.reduceToNat,Int.reduceAdd,frz]
    rw [app_arr rfl rfl (by simp) (by simp)]
    simp only [go_sem,intS,Int.reduceLT,Int.reduceLE,Int.reduceToNat,Int.reduceAdd,frz]
    repeat refine ⟨rfl,?_⟩
    try simp only [go_sem,intS,Int.reduceLT,Int.reduceLE,Int.reduceToNat,Int.reduceAdd,frz]
    refine ⟨by simp,m - 1,by omega,0 + 1,by omega,?_⟩
    simp [trim_mk,go_sem,subHeap,renObj,renCell,renLeaf,pos,List.range_succ,Wo.ss,Wo.ys,cWd,cYs,cSi3,cSi,k1,k2]
   ·
    skip
    simp only [go_sem,cWd,Wo.ss,Wo.ys,cYs,cSi3,cSi,intS,Int.reduceLT,Int.reduceLE,Int.reduceToNat,Int.reduceAdd,frz,List.map_cons,List.map_nil,List.take_succ_cons,List.take_zero]
    refine ops_call (.pureE (siOwnP_meets 1 w.q w.v (by omega) (by omega) q4 q5) (by simp [go_sem,cSi])) ?_
    simp only [go_sem,cSi,intS,Int.reduceLT,Int.reduceLE,Int.reduceToNat,Int.reduceAdd,frz]
    rw [app_arr rfl rfl (by simp) (by simp)]
    simp only [go_sem,intS,Int.reduceLT,Int.reduceLE,Int.reduceToNat,Int.reduceAdd,frz]
    repeat refine ⟨rfl,?_⟩
    try simp only [go_sem,intS,Int.reduceLT,Int.reduceLE,Int.reduceToNat,Int.reduceAdd,frz]
    refine ⟨by simp,m - 1,by omega,1 + 1,by omega,?_⟩
    simp [trim_mk,go_sem,subHeap,renObj,renCell,renLeaf,pos,List.range_succ,Wo.ss,Wo.ys,cWd,cYs,cSi3,cSi,k1,k2]
  ·
   obtain rfl:k=2:=by omega
   simp only [go_sem,cWd,Wo.ss,Wo.ys,cYs,cSi3,cSi,intS,Int.reduceLT,Int.reduceLE,Int.reduceToNat,Int.reduceAdd,frz,List.map_cons,List.map_nil,List.take_succ_cons,List.take_zero]
   refine loop_keep [1,3,35,36,37] (fun m st=>(m=2∧st=⟨mkE .top [(1,.ptr 0 0),(3,.ptr 1 0),(35,.list [[.list (w.a.map cE)],[.list (w.b.map cE)]]),(36,.int .i64 2),(37,.int .i64 0)],ownH w 0 0 [] []⟩) ∨
    (m=1∧st=⟨mkE .top [(1,.ptr 0 0),(3,.ptr 1 0),(35,.list [[.list (w.a.map cE)],[.list (w.b.map cE)]]),(36,.int .i64 2),(37,.int .i64 1)],ownH w 1 0 [[.arr 4 w.a.length]] [.arr w.a.length true false 46 5 (w.a.map cE)]⟩) ∨
    (m=0∧st=⟨mkE .top [(1,.ptr 0 0),(3,.ptr 1 0),(35,.list [[.list (w.a.map cE)],[.list (w.b.map cE)]]),(36,.int .i64 2),(37,.int .i64 2)],ownH w 2 0 [[.arr 4 w.a.length],[.arr 5 w.b.length]] [.arr w.a.length true false 46 5 (w.a.map cE),.arr w.b.length true false 46 5 (w.b.map cE)]⟩)) 2 ?_ ?_
   ·
    refine .inl ⟨rfl,?_⟩
    simp [keep_mk,go_sem,ownH,cWd,Wo.ss,Wo.ys,cYs,cSi3,cSi]
   ·
    rintro m st (⟨rfl,rfl⟩ | ⟨rfl,rfl⟩ | ⟨rfl,rfl⟩)
    ·
     skip
     simp only [go_sem,ownH,intS,Int.reduceLT,Int.reduceLE,Int.reduceToNat,Int.reduceAdd,frz,List.nil_append,List.cons_append]
     refine W_weak (weak_own 8 0 46 5 true false rfl (by omega)) ?_
     rw [put_mk]
     refine loop_inv [1,3,8,35,36,37,41,42,43] (4 + 1) (fun m st=>∃ k:Nat,k + m=w.a.length ∧
      st=⟨mkE .top [(1,.ptr 0 0),(3,.ptr 1 0),(8,.arr 4 k),(35,.list [[.list (w.a.map cE)],[.list (w.b.map cE)]]),(36,.int .i64 2),(37,.int .i64 0),(41,.list (w.a.map cE)),(42,.int .i64 w.a.length),(43,.int .i64 k)],ownH w 0 0 [] ([] ++ [.arr k true false 46 5 ((w.a.take k).map cE)])⟩) w.a.length (by simp [hx]) (by simp) ?_ ?_
     ·
      refine ⟨0,by omega,?_⟩
      simp [trim_mk,go_sem,subHeap,renObj,renCell,renLeaf,pos,List.range_succ,ownH,cWd,Wo.ss,Wo.ys,cYs,cSi3,cSi]
     ·
      rintro m st ⟨k,hk,rfl⟩
      by_cases hlt:k < w.a.length
      ·
       have hg:w.a[k]? = some (nth w.a k):=nth_get? _ _ hlt
       have wk:=i64_up (k:=k) (by omega)
       have htk:w.a.take (k + 1)=w.a.take k ++ [nth w.a k]:=takeE_succ hlt
       simp only [go_sem,ownH,hlt,hg,cE,List.nil_append,List.cons_append]
       refine ops_call (.pureE (entOwn_meets (nth w.a k) (fa _ (nthM hlt)).2) (by simp [go_sem,cE])) ?_
       simp only [go_sem,cE]
       rw [app_arr rfl rfl (by simp) (by simp; omega)]
       simp only [go_sem,wk]
       refine ⟨by simp,m - 1,by omega,k + 1,by omega,?_⟩
       simp [trim_mk,go_sem,subHeap,renObj,renCell,renLeaf,pos,List.range_succ,ownH,cWd,Wo.ss,Wo.ys,cYs,cSi3,cSi,htk,cE]
      ·
       obtain rfl:k=w.a.length:=by omega
       rw [List.take_length]
       simp only [go_sem,hlt,ownH,intS,Int.reduceLT,Int.reduceLE,Int.reduceToNat,Int.reduceAdd,frz,List.nil_append,List.cons_append]
       rw [app_arrI rfl rfl (by simp) (by simp)]
       simp only [go_sem,intS,Int.reduceLT,Int.reduceLE,Int.reduceToNat,Int.reduceAdd,frz,k1,k2]
       refine ⟨1,by omega,.inr (.inl ⟨rfl,?_⟩)⟩
       simp [keep_mk,go_sem,ownH,cWd,Wo.ss,Wo.ys,cYs,cSi3,cSi,k1,k2]
    ·
     skip
     simp only [go_sem,ownH,intS,Int.reduceLT,Int.reduceLE,Int.reduceToNat,Int.reduceAdd,frz,List.nil_append,List.cons_append]
     refine W_weak (weak_own 8 0 46 5 true false rfl (by omega)) ?_
     rw [put_mk]
     refine loop_inv [1,3,8,35,36,37,41,42,43] (5 + 1) (fun m st=>∃ k:Nat,k + m=w.b.length ∧
      st=⟨mkE .top [(1,.ptr 0 0),(3,.ptr 1 0),(8,.arr 5 k),(35,.list [[.list (w.a.map cE)],[.list (w.b.map cE)]]),(36,.int .i64 2),(37,.int .i64 1),(41,.list (w.b.map cE)),(42,.int .i64 w.b.length),(43,.int .i64 k)],ownH w 1 0 [[.arr 4 w.a.length]] ([.arr w.a.length true false 46 5 (w.a.map cE)] ++ [.arr k true false 46 5 ((w.b.take k).map cE)])⟩) w.b.length (by simp [hx]) (by simp) ?_ ?_
     ·
      refine ⟨0,by omega,?_⟩
      simp [trim_mk,go_sem,subHeap,renObj,renCell,renLeaf,pos,List.range_succ,ownH,cWd,Wo.ss,Wo.ys,cYs,cSi3,cSi]
     ·
      rintro m st ⟨k,hk,rfl⟩
      by_cases hlt:k < w.b.length
      ·
       have hg:w.b[k]? = some (nth w.b k):=nth_get? _ _ hlt
       have wk:=i64_up (k:=k) (by omega)
       have htk:w.b.take (k + 1)=w.b.take k ++ [nth w.b k]:=takeE_succ hlt
       simp only [go_sem,ownH,hlt,hg,cE,List.nil_append,List.cons_append]
       refine ops_call (.pureE (entOwn_meets (nth w.b k) (fb _ (nthM hlt)).2) (by simp [go_sem,cE])) ?_
       simp only [go_sem,cE]
       rw [app_arr rfl rfl (by simp) (by simp; omega)]
       simp only [go_sem,wk]
       refine ⟨by simp,m - 1,by omega,k + 1,by omega,?_⟩
       simp [trim_mk,go_sem,subHeap,renObj,renCell,renLeaf,pos,List.range_succ,ownH,cWd,Wo.ss,Wo.ys,cYs,cSi3,cSi,htk,cE]
      ·
       obtain rfl:k=w.b.length:=by omega
       rw [List.take_length]
       simp only [go_sem,hlt,ownH,intS,Int.reduceLT,Int.reduceLE,Int.reduceToNat,Int.reduceAdd,frz,List.nil_append,List.cons_append]
       rw [app_arrI rfl rfl (by simp) (by simp)]
       simp only [go_sem,intS,Int.reduceLT,Int.reduceLE,Int.reduceToNat,Int.reduceAdd,frz,k1,k2]
       refine ⟨0,by omega,.inr (.inr ⟨rfl,?_⟩)⟩
       simp [keep_mk,go_sem,ownH,cWd,Wo.ss,Wo.ys,cYs,cSi3,cSi,k1,k2]
    ·
     simp only [go_sem,ownH,intS,Int.reduceLT,Int.reduceLE,Int.reduceToNat,Int.reduceAdd,frz,List.nil_append,List.cons_append]
     refine ret_keep [1,2,3,4,5] (by simp) (by simp [hx]) (by simp [hx]) ?_ ?_
     ·
      simp [go_sem,L78,R78,hx,pos]
     ·
      simp [subHeap,renObj,renCell,renLeaf,hx,pos,go_sem,hWo,List.range_succ,Wo.ss,cSi3,cSi]
end Go.Proofs.YtfdolehffjmdmaaGreatDoor
/- Worlds: an act is done: a contract. -/
namespace Go.Proofs.YtfdolehffjmdmaaGreatDoor
set_option linter.unusedSimpArgs false
set_option linter.unusedVariables false
open Go.RowKit
def cAct (k i n c:Int) (t:ByteArray):List PV := [.int .i64 k,.int .i64 i,.int .i64 n,.int .i64 c,.str t]
theorem weak_eqD {x:Cx} {nt:Nat} {st st1 st2:St} (h:st=st1) (hw:Weak x nt st1 st2):Weak x nt st st2:=h ▸ hw
set_option maxRecDepth 10000 in
set_option maxHeartbeats 4000000 in
theorem do1_meets (vs vy va vb : Nat) (w : Wo) (h : WoOk w) (i n c : Int) (t : ByteArray) (hi : i = 0 ∨ i = 1) :
    ∃ va' vb',Meets Tryz.prog 126 [.ptr 0 0,.agg (cAct 1 i n c t)] (hWo vs vy va vb w) (.int .i64 (doErr0 w 1 i n c t)) (hWo vs vy va' vb' (if doErr0 w 1 i n c t=0 then doW w 1 i n c t else w)):=by
  have hl0:=(h.log (i:=0) (.inl rfl)).len
  have hl1:=(h.log (i:=1) (.inr rfl)).len
  have hl0:w.p.length≤40:=hl0
  have hl1:w.q.length≤40:=hl1
  obtain ⟨-,-,u1,-,-,-,-,-⟩:=si_pre h.s0
  obtain ⟨-,-,u2,-,-,-,-,-⟩:=si_pre h.s1
  rcases hi with rfl | rfl
  · have hs:=h.s0
    have k10:IntKind.i64.wrap (1 - 0)=1:=by decide
    have hap:=siAppend_meets 0 w.p w.u c t (by omega) (by omega)
    have hX:apErrX 0 w.p w.u c t=apErr 0 w.p c t:=by rw [apErrX,if_neg (by simp [hs])]
    have hd:doErr0 w 1 0 n c t=apErr 0 w.p c t:=by rw [doErr0,if_pos rfl]; rfl
    rw [hd]
    by_cases h0:apErr 0 w.p c t=0
    · have hS:apSiX 0 w.p w.u c t=(0,settled (w.p ++ [apE 0 w.p c t]) w.u):=by rw [apSiX,if_neg (by simp [hs]),apSi,if_pos h0]
      have hE:apEnX 0 w.p w.u c t=apE 0 w.p c t:=by rw [apEnX,if_neg (by simp [hs]),apEn,if_pos h0]
      have hlse:(apE 0 w.p c t).ls.length≤1000000:=(ap_fit (t:=t) (c:=c) (by omega:(0:Int)=0∨(0:Int)=1) (by omega:w.p.length≤40)).2
      have hdW:doW w 1 0 n c t=sendW (w.setS 0 (settled (w.p ++ [apE 0 w.p c t]) w.u)) 1 (apE 0 w.p c t):=by rw [doW,if_pos rfl]; rfl
      rw [hX,hS,hE,h0] at hap
      rw [if_pos h0,hdW,h0]
      generalize apE 0 w.p c t=e at *
      generalize settled (w.p ++ [e]) w.u=AU at *
      obtain ⟨A,U⟩:=AU
      obtain ⟨va',vb',hsd⟩:=send_meets vs vy va vb (w.setS 0 (A,U)) 1 e (by omega) (by rw [(log_setS (by omega)).2.2.2.2]; exact h.lb) hlse
      refine ⟨va',vb',?_⟩
      refine Meets.of_walk Tryz.func126 Tryz.ntmps126 low126 res126 (by simp) fun x hx=>?_
      simp only [go_sem,L126,R126,hWo,Wo.ss,cSi3,cSi,cE,cAct,intS,Int.reduceLT,Int.reduceLE,Int.reduceToNat,Int.reduceAdd,frz,List.map_cons,List.map_nil]
      refine ops_call (.pureE hap (by simp [go_sem,cSi,cAct])) ?_
      simp only [go_sem,hWo,Wo.ss,cSi3,cSi,cE,intS,Int.reduceLT,Int.reduceLE,Int.reduceToNat,Int.reduceAdd,frz,List.map_cons,List.map_nil]
      repeat refine ⟨rfl,?_⟩
      try simp only [go_sem,hWo,Wo.ss,cSi3,cSi,cE,intS,Int.reduceLT,Int.reduceLE,Int.reduceToNat,Int.reduceAdd,frz,List.map_cons,List.map_nil]
      repeat refine ⟨rfl,?_⟩
      try simp only [go_sem,hWo,Wo.ss,cSi3,cSi,cE,intS,Int.reduceLT,Int.reduceLE,Int.reduceToNat,Int.reduceAdd,frz,List.map_cons,List.map_nil,k10]
      refine ops_call (.heapE [0,1,2,3,4] (r' := .bool (!decide (((w.setS 0 (A,U)).way 1).length=30))) (H':=hWo vs vy va' vb' (sendW (w.setS 0 (A,U)) 1 e) ++ [.box (cAct 1 0 n c t),.arr 1 true true 49 3 [cSi 0 A U],.arr 1 true true 46 5 [cE e]]) hsd (by simp) (by simp) (by simp [go_sem,pos,cE]) ?_ ?_ ?_) ?_
      · skip
        simp [subHeap,renObj,renCell,renLeaf,pos,hWo,Wo.ss,cSi3,cSi]
        exact ⟨⟨⟨rfl,rfl⟩,rfl,rfl⟩,rfl,rfl⟩
      · simp [renT,ren,renCell,renLeaf]
      · skip
        simp [merge,mergeObj,callId,backF,backId,renObj,renCell,renLeaf,pos,List.range_succ,hWo,Wo.ss,cSi3,cSi,cE,cAct]
      simp only [go_sem,hWo]
      refine ret_keep [] (by simp) (by simp) (by simp [hx,hWo]) ?_ ?_
      · simp [go_sem,L126,R126,hx,pos,hWo]
      · simp [subHeap,renObj,renCell,renLeaf,hx,pos,go_sem,hWo,List.range_succ,Wo.ss,cSi3,cSi]
    · refine ⟨va,vb,?_⟩
      rw [hX] at hap
      rw [if_neg h0]
      generalize apSiX 0 w.p w.u c t=SS at *
      obtain ⟨s0,A,U⟩:=SS
      generalize apEnX 0 w.p w.u c t=e at *
      refine Meets.of_walk Tryz.func126 Tryz.ntmps126 low126 res126 (by simp) fun x hx=>?_
      simp only [go_sem,L126,R126,hWo,Wo.ss,cSi3,cSi,cE,cAct,intS,Int.reduceLT,Int.reduceLE,Int.reduceToNat,Int.reduceAdd,frz,List.map_cons,List.map_nil]
      refine ops_call (.pureE hap (by simp [go_sem,cSi,cAct])) ?_
      try simp only [go_sem,hWo,Wo.ss,cSi3,cSi,cE,intS,Int.reduceLT,Int.reduceLE,Int.reduceToNat,Int.reduceAdd,frz,List.map_cons,List.map_nil,h0]
      repeat refine ⟨rfl,?_⟩
      try simp only [go_sem,hWo,Wo.ss,cSi3,cSi,cE,intS,Int.reduceLT,Int.reduceLE,Int.reduceToNat,Int.reduceAdd,frz,List.map_cons,List.map_nil,h0]
      refine ret_keep [] (by simp) (by simp) (by simp [hx,hWo]) ?_ ?_
      · simp [go_sem,L126,R126,hx,pos,hWo]
      · simp [subHeap,renObj,renCell,renLeaf,hx,pos,go_sem,hWo,List.range_succ,Wo.ss,cSi3,cSi]
  · have hs:=h.s1
    have k10:IntKind.i64.wrap (1 - 1)=0:=by decide
    have hap:=siAppend_meets 1 w.q w.v c t (by omega) (by omega)
    have hX:apErrX 1 w.q w.v c t=apErr 1 w.q c t:=by rw [apErrX,if_neg (by simp [hs])]
    have hd:doErr0 w 1 1 n c t=apErr 1 w.q c t:=by rw [doErr0,if_pos rfl]; rfl
    rw [hd]
    by_cases h0:apErr 1 w.q c t=0
    · have hS:apSiX 1 w.q w.v c t=(1,settled (w.q ++ [apE 1 w.q c t]) w.v):=by rw [apSiX,if_neg (by simp [hs]),apSi,if_pos h0]
      have hE:apEnX 1 w.q w.v c t=apE 1 w.q c t:=by rw [apEnX,if_neg (by simp [hs]),apEn,if_pos h0]
      have hlse:(apE 1 w.q c t).ls.length≤1000000:=(ap_fit (t:=t) (c:=c) (by omega:(1:Int)=0∨(1:Int)=1) (by omega:w.q.length≤40)).2
      have hdW:doW w 1 1 n c t=sendW (w.setS 1 (settled (w.q ++ [apE 1 w.q c t]) w.v)) 0 (apE 1 w.q c t):=by rw [doW,if_pos rfl]; rfl
      rw [hX,hS,hE,h0] at hap
      rw [if_pos h0,hdW,h0]
      generalize apE 1 w.q c t=e at *
      generalize settled (w.q ++ [e]) w.v=AU at *
      obtain ⟨A,U⟩:=AU
      obtain ⟨va',vb',hsd⟩:=send_meets vs vy va vb (w.setS 1 (A,U)) 0 e (by omega) (by rw [(log_setS (by omega)).2.2.2.2]; exact h.la) hlse
      refine ⟨va',vb',?_⟩
      refine Meets.of_walk Tryz.func126 Tryz.ntmps126 low126 res126 (by simp) fun x hx=>?_
      simp only [go_sem,L126,R126,hWo,Wo.ss,cSi3,cSi,cE,cAct,intS,Int.reduceLT,Int.reduceLE,Int.reduceToNat,Int.reduceAdd,frz,List.map_cons,List.map_nil]
      refine ops_call (.pureE hap (by simp [go_sem,cSi,cAct])) ?_
      simp only [go_sem,hWo,Wo.ss,cSi3,cSi,cE,intS,Int.reduceLT,Int.reduceLE,Int.reduceToNat,Int.reduceAdd,frz,List.map_cons,List.map_nil]
      repeat refine ⟨rfl,?_⟩
      try simp only [go_sem,hWo,Wo.ss,cSi3,cSi,cE,intS,Int.reduceLT,Int.reduceLE,Int.reduceToNat,Int.reduceAdd,frz,List.map_cons,List.map_nil]
      repeat refine ⟨rfl,?_⟩
      try simp only [go_sem,hWo,Wo.ss,cSi3,cSi,cE,intS,Int.reduceLT,Int.reduceLE,Int.reduceToNat,Int.reduceAdd,frz,List.map_cons,List.map_nil,k10]
      refine ops_call (.heapE [0,1,2,3,4] (r' := .bool (!decide (((w.setS 1 (A,U)).way 0).length=30))) (H':=hWo vs vy va' vb' (sendW (w.setS 1 (A,U)) 0 e) ++ [.box (cAct 1 1 n c t),.arr 1 true true 49 3 [cSi 1 A U],.arr 1 true true 46 5 [cE e]]) hsd (by simp) (by simp) (by simp [go_sem,pos,cE]) ?_ ?_ ?_) ?_
      · skip
        simp [subHeap,renObj,renCell,renLeaf,pos,hWo,Wo.ss,cSi3,cSi]
        exact ⟨⟨⟨rfl,rfl⟩,rfl,rfl⟩,rfl,rfl⟩
      · simp [renT,ren,renCell,renLeaf]
      · skip
        simp [merge,mergeObj,callId,backF,backId,renObj,renCell,renLeaf,pos,List.range_succ,hWo,Wo.ss,cSi3,cSi,cE,cAct]
      simp only [go_sem,hWo]
      refine ret_keep [] (by simp) (by simp) (by simp [hx,hWo]) ?_ ?_
      · simp [go_sem,L126,R126,hx,pos,hWo]
      · simp [subHeap,renObj,renCell,renLeaf,hx,pos,go_sem,hWo,List.range_succ,Wo.ss,cSi3,cSi]
    · refine ⟨va,vb,?_⟩
      rw [hX] at hap
      rw [if_neg h0]
      generalize apSiX 1 w.q w.v c t=SS at *
      obtain ⟨s0,A,U⟩:=SS
      generalize apEnX 1 w.q w.v c t=e at *
      refine Meets.of_walk Tryz.func126 Tryz.ntmps126 low126 res126 (by simp) fun x hx=>?_
      simp only [go_sem,L126,R126,hWo,Wo.ss,cSi3,cSi,cE,cAct,intS,Int.reduceLT,Int.reduceLE,Int.reduceToNat,Int.reduceAdd,frz,List.map_cons,List.map_nil]
      refine ops_call (.pureE hap (by simp [go_sem,cSi,cAct])) ?_
      try simp only [go_sem,hWo,Wo.ss,cSi3,cSi,cE,intS,Int.reduceLT,Int.reduceLE,Int.reduceToNat,Int.reduceAdd,frz,List.map_cons,List.map_nil,h0]
      repeat refine ⟨rfl,?_⟩
      try simp only [go_sem,hWo,Wo.ss,cSi3,cSi,cE,intS,Int.reduceLT,Int.reduceLE,Int.reduceToNat,Int.reduceAdd,frz,List.map_cons,List.map_nil,h0]
      refine ret_keep [] (by simp) (by simp) (by simp [hx,hWo]) ?_ ?_
      · simp [go_sem,L126,R126,hx,pos,hWo]
      · simp [subHeap,renObj,renCell,renLeaf,hx,pos,go_sem,hWo,List.range_succ,Wo.ss,cSi3,cSi]
set_option maxRecDepth 10000 in
set_option maxHeartbeats 4000000 in
theorem do5_meets (vs vy va vb : Nat) (w : Wo) (h : WoOk w) (i n c : Int) (t : ByteArray) (hi : i = 0 ∨ i = 1) :
    Meets Tryz.prog 126 [.ptr 0 0,.agg (cAct 5 i n c t)] (hWo vs vy va vb w) (.int .i64 0) (hWo vs vy va vb (doW w 5 i n c t)):=by
  have hal:=woAll_meets vs vy va vb w i hi (h.si hi) (h.log (other_of hi))
  have hdW:doW w 5 i n c t=w.setS i (allW w i).2:=by rw [doW,if_neg (by decide),if_pos rfl]
  rw [hdW]
  refine Meets.of_walk Tryz.func126 Tryz.ntmps126 low126 res126 (by simp) fun x hx=>?_
  simp only [go_sem,L126,R126,hWo,Wo.ss,cSi3,cSi,cE,cAct,intS,Int.reduceLT,Int.reduceLE,Int.reduceToNat,Int.reduceAdd,frz,List.map_cons,List.map_nil]
  refine ops_call (.heapE [0,1,2,3,4] (r' := .int .i64 0) (H':=hWo vs vy va vb (w.setS i (allW w i).2) ++ [.box (cAct 5 i n c t)]) hal (by simp) (by simp) (by simp [go_sem,pos]) ?_ ?_ ?_) ?_
  · skip
    simp [subHeap,renObj,renCell,renLeaf,pos,hWo,Wo.ss,cSi3,cSi]
  · simp [renT,ren,renCell,renLeaf]
  · skip
    simp [merge,mergeObj,callId,backF,backId,renObj,renCell,renLeaf,pos,List.range_succ,hWo,Wo.ss,cSi3,cSi,cE,cAct]
  simp only [go_sem,hWo]
  refine ret_keep [] (by simp) (by simp) (by simp [hx,hWo]) ?_ ?_
  · simp [go_sem,L126,R126,hx,pos,hWo]
  · simp [subHeap,renObj,renCell,renLeaf,hx,pos,go_sem,hWo,List.range_succ,Wo.ss,cSi3,cSi]
theorem doErr0_n {w:Wo} {k i n c:Int} {t:ByteArray} (h1:k≠1) (h5:k≠5) (hn:n < 0∨(w.way i).length≤n):doErr0 w k i n c t=5:=by rw [doErr0,if_neg h1,if_neg h5,if_pos hn]
set_option maxRecDepth 10000 in
set_option maxHeartbeats 4000000 in
theorem do3_meets (vs vy va vb : Nat) (w : Wo) (h : WoOk w) (i n c : Int) (t : ByteArray) (hi : i = 0 ∨ i = 1) :
    ∃ va' vb',Meets Tryz.prog 126 [.ptr 0 0,.agg (cAct 3 i n c t)] (hWo vs vy va vb w) (.int .i64 (doErr0 w 3 i n c t)) (hWo vs vy va' vb' (if doErr0 w 3 i n c t=0 then doW w 3 i n c t else w)):=by
  have la:=h.la
  have lb:=h.lb
  rcases hi with rfl | rfl
  · skip
    by_cases hn0:n < 0
    · refine ⟨va,vb,?_⟩
      rw [doErr0_n (by decide) (by decide) (.inl hn0),if_neg (by decide)]
      refine Meets.of_parts Tryz.func126 Tryz.ntmps126 low126 res126 (by simp) fun x hx=>?_
      simp only [LC.flat,L126,R126,List.cons_append,List.nil_append]
      refine WL_join 1 [0,3] 6 (fun st=>st=⟨mkE .top [(3,.rptr (cAct 3 0 n c t)),(0,.ptr 0 0),(3,.ptr 5 0)],hWo vs vy va vb w ++ [.gone]⟩) (by simp [hx,hWo]) (by simp) ?_ ?_
      · simp only [go_sem,L126,R126,List.take_succ_cons,List.take_zero,cAct]
        rw [join_normal]
        refine ⟨by simp [hWo],_,?_,rfl⟩
        have e:=weak_rptr (x:=x) (nt:=114) (st:=⟨mkE .top [(0,.ptr 0 0),(3,.ptr 5 0)],hWo vs vy va vb w ++ [.box (cAct 3 0 n c t)]⟩) (cells':=cAct 3 0 n c t) (H':=hWo vs vy va vb w ++ [.gone]) 3 5 rfl rfl (by simp [cAct,frz]) (by simp [cAct,PV.isPure]) rfl
        rw [put_mk] at e
        refine weak_eqD ?_ e
        simp [trim_mk,go_sem,subHeap,renObj,renCell,renLeaf,pos,List.range_succ,hWo,Wo.ss,cSi3,cSi,cAct]
      rintro st rfl
      refine WL_walk ?_
      simp only [go_sem,L126,R126,List.drop_succ_cons,List.drop_zero,hWo,Wo.ss,cSi3,cSi,cE,cAct,intS,Int.reduceLT,Int.reduceLE,Int.reduceToNat,Int.reduceAdd,frz,List.map_cons,List.map_nil,List.cons_append,List.nil_append,hn0]
      repeat refine ⟨rfl,?_⟩
      refine ret_keep [] (by simp) (by simp) (by simp [hx,hWo]) ?_ ?_
      · simp [go_sem,L126,R126,hx,pos,hWo]
      · simp [subHeap,renObj,renCell,renLeaf,hx,pos,go_sem,hWo,List.range_succ,Wo.ss,cSi3,cSi]
    by_cases hn1:(w.a.length:Int)≤n
    · refine ⟨va,vb,?_⟩
      rw [doErr0_n (by decide) (by decide) (.inr (by show (w.a.length:Int)≤n; exact hn1)),if_neg (by decide)]
      refine Meets.of_parts Tryz.func126 Tryz.ntmps126 low126 res126 (by simp) fun x hx=>?_
      simp only [LC.flat,L126,R126,List.cons_append,List.nil_append]
      refine WL_join 1 [0,3] 6 (fun st=>st=⟨mkE .top [(3,.rptr (cAct 3 0 n c t)),(0,.ptr 0 0),(3,.ptr 5 0)],hWo vs vy va vb w ++ [.gone]⟩) (by simp [hx,hWo]) (by simp) ?_ ?_
      · simp only [go_sem,L126,R126,List.take_succ_cons,List.take_zero,cAct]
        rw [join_normal]
        refine ⟨by simp [hWo],_,?_,rfl⟩
        have e:=weak_rptr (x:=x) (nt:=114) (st:=⟨mkE .top [(0,.ptr 0 0),(3,.ptr 5 0)],hWo vs vy va vb w ++ [.box (cAct 3 0 n c t)]⟩) (cells':=cAct 3 0 n c t) (H':=hWo vs vy va vb w ++ [.gone]) 3 5 rfl rfl (by simp [cAct,frz]) (by simp [cAct,PV.isPure]) rfl
        rw [put_mk] at e
        refine weak_eqD ?_ e
        simp [trim_mk,go_sem,subHeap,renObj,renCell,renLeaf,pos,List.range_succ,hWo,Wo.ss,cSi3,cSi,cAct]
      rintro st rfl
      refine WL_walk ?_
      simp only [go_sem,L126,R126,List.drop_succ_cons,List.drop_zero,hWo,Wo.ss,cSi3,cSi,cE,cAct,intS,Int.reduceLT,Int.reduceLE,Int.reduceToNat,Int.reduceAdd,frz,List.map_cons,List.map_nil,List.cons_append,List.nil_append,hn0]
      simp only [go_sem,hn1,List.length_map]
      repeat refine ⟨rfl,?_⟩
      refine ret_keep [] (by simp) (by simp) (by simp [hx,hWo]) ?_ ?_
      · simp [go_sem,L126,R126,hx,pos,hWo]
      · simp [subHeap,renObj,renCell,renLeaf,hx,pos,go_sem,hWo,List.range_succ,Wo.ss,cSi3,cSi]
    obtain ⟨q,rfl⟩:∃ q:Nat,n=q:=⟨n.toNat,by omega⟩
    have hq:q < w.a.length:=by omega
    have hnn:¬ ((q:Int) < 0∨((w.way 0).length:Int)≤(q:Int)):=by show ¬ ((q:Int) < 0∨(w.a.length:Int)≤(q:Int)); omega
    obtain ⟨va',vb',htk⟩:=take_meets vs vy va vb w 0 q (by omega) hq (by show w.a.length≤30; omega)
    have hce:=h.ca _ (nthM hq)
    have hnN:¬ w.a.length≤q:=by omega
    have hd:doErr0 w 3 0 q c t=0:=by rw [doErr0,if_neg (by decide),if_neg (by decide),if_neg hnn,if_neg (by decide),if_pos rfl]
    have hdW:doW w 3 0 q c t=w.setY 0 ((w.way 0).eraseIdx q):=by rw [doW,if_neg (by decide),if_neg (by decide),if_neg (by decide),if_pos rfl,Int.toNat_natCast]
    refine ⟨va',vb',?_⟩
    rw [hd,if_pos rfl,hdW]
    refine Meets.of_parts Tryz.func126 Tryz.ntmps126 low126 res126 (by simp) fun x hx=>?_
    simp only [LC.flat,L126,R126,List.cons_append,List.nil_append]
    refine WL_join 1 [0,3] 6 (fun st=>st=⟨mkE .top [(3,.rptr (cAct 3 0 (q:Int) c t)),(0,.ptr 0 0),(3,.ptr 5 0)],hWo vs vy va vb w ++ [.gone]⟩) (by simp [hx,hWo]) (by simp) ?_ ?_
    · simp only [go_sem,L126,R126,List.take_succ_cons,List.take_zero,cAct]
      rw [join_normal]
      refine ⟨by simp [hWo],_,?_,rfl⟩
      have e:=weak_rptr (x:=x) (nt:=114) (st:=⟨mkE .top [(0,.ptr 0 0),(3,.ptr 5 0)],hWo vs vy va vb w ++ [.box (cAct 3 0 (q:Int) c t)]⟩) (cells':=cAct 3 0 (q:Int) c t) (H':=hWo vs vy va vb w ++ [.gone]) 3 5 rfl rfl (by simp [cAct,frz]) (by simp [cAct,PV.isPure]) rfl
      rw [put_mk] at e
      refine weak_eqD ?_ e
      simp [trim_mk,go_sem,subHeap,renObj,renCell,renLeaf,pos,List.range_succ,hWo,Wo.ss,cSi3,cSi,cAct]
    rintro st rfl
    refine WL_walk ?_
    simp only [go_sem,L126,R126,List.drop_succ_cons,List.drop_zero,hWo,Wo.ss,cSi3,cSi,cE,cAct,intS,Int.reduceLT,Int.reduceLE,Int.reduceToNat,Int.reduceAdd,frz,List.map_cons,List.map_nil,List.cons_append,List.nil_append,hn0]
    simp only [go_sem,hn0,hnN,List.length_map,intS,Int.reduceLT,Int.reduceLE,Int.reduceToNat,Int.reduceAdd,frz]
    repeat refine ⟨rfl,?_⟩
    try simp only [go_sem,intS,Int.reduceLT,Int.reduceLE,Int.reduceToNat,Int.reduceAdd,frz]
    refine ops_call (.heapE [0,1,2,3,4] (r' := .agg (cE (nth (w.way 0) q))) (H':=hWo vs vy va' vb' (w.setY 0 ((w.way 0).eraseIdx q)) ++ [.gone]) htk (by simp) (by simp) (by simp [go_sem,pos]) ?_ ?_ ?_) ?_
    · skip
      simp [subHeap,renObj,renCell,renLeaf,pos,hWo,Wo.ss,cSi3,cSi]
    · simp [renT,ren,renCell,renLeaf,cE]
    · skip
      simp [merge,mergeObj,callId,backF,backId,renObj,renCell,renLeaf,pos,List.range_succ,hWo,Wo.ss,cSi3,cSi,cE,cAct]
    simp only [go_sem,hWo]
    refine end_keep [] (by simp) (by simp) (by simp [hx,hWo]) ?_ ?_
    · simp [go_sem,L126,R126,hx,pos,hWo]
    · simp [subHeap,renObj,renCell,renLeaf,hx,pos,go_sem,hWo,List.range_succ,Wo.ss,cSi3,cSi]
  · skip
    by_cases hn0:n < 0
    · refine ⟨va,vb,?_⟩
      rw [doErr0_n (by decide) (by decide) (.inl hn0),if_neg (by decide)]
      refine Meets.of_parts Tryz.func126 Tryz.ntmps126 low126 res126 (by simp) fun x hx=>?_
      simp only [LC.flat,L126,R126,List.cons_append,List.nil_append]
      refine WL_join 1 [0,3] 6 (fun st=>st=⟨mkE .top [(3,.rptr (cAct 3 1 n c t)),(0,.ptr 0 0),(3,.ptr 5 0)],hWo vs vy va vb w ++ [.gone]⟩) (by simp [hx,hWo]) (by simp) ?_ ?_
      · simp only [go_sem,L126,R126,List.take_succ_cons,List.take_zero,cAct]
        rw [join_normal]
        refine ⟨by simp [hWo],_,?_,rfl⟩
        have e:=weak_rptr (x:=x) (nt:=114) (st:=⟨mkE .top [(0,.ptr 0 0),(3,.ptr 5 0)],hWo vs vy va vb w ++ [.box (cAct 3 1 n c t)]⟩) (cells':=cAct 3 1 n c t) (H':=hWo vs vy va vb w ++ [.gone]) 3 5 rfl rfl (by simp [cAct,frz]) (by simp [cAct,PV.isPure]) rfl
        rw [put_mk] at e
        refine weak_eqD ?_ e
        simp [trim_mk,go_sem,subHeap,renObj,renCell,renLeaf,pos,List.range_succ,hWo,Wo.ss,cSi3,cSi,cAct]
      rintro st rfl
      refine WL_walk ?_
      simp only [go_sem,L126,R126,List.drop_succ_cons,List.drop_zero,hWo,Wo.ss,cSi3,cSi,cE,cAct,intS,Int.reduceLT,Int.reduceLE,Int.reduceToNat,Int.reduceAdd,frz,List.map_cons,List.map_nil,List.cons_append,List.nil_append,hn0]
      repeat refine ⟨rfl,?_⟩
      refine ret_keep [] (by simp) (by simp) (by simp [hx,hWo]) ?_ ?_
      · simp [go_sem,L126,R126,hx,pos,hWo]
      · simp [subHeap,renObj,renCell,renLeaf,hx,pos,go_sem,hWo,List.range_succ,Wo.ss,cSi3,cSi]
    by_cases hn1:(w.b.length:Int)≤n
    · refine ⟨va,vb,?_⟩
      rw [doErr0_n (by decide) (by decide) (.inr (by show (w.b.length:Int)≤n; exact hn1)),if_neg (by decide)]
      refine Meets.of_parts Tryz.func126 Tryz.ntmps126 low126 res126 (by simp) fun x hx=>?_
      simp only [LC.flat,L126,R126,List.cons_append,List.nil_append]
      refine WL_join 1 [0,3] 6 (fun st=>st=⟨mkE .top [(3,.rptr (cAct 3 1 n c t)),(0,.ptr 0 0),(3,.ptr 5 0)],hWo vs vy va vb w ++ [.gone]⟩) (by simp [hx,hWo]) (by simp) ?_ ?_
      · simp only [go_sem,L126,R126,List.take_succ_cons,List.take_zero,cAct]
        rw [join_normal]
        refine ⟨by simp [hWo],_,?_,rfl⟩
        have e:=weak_rptr (x:=x) (nt:=114) (st:=⟨mkE .top [(0,.ptr 0 0),(3,.ptr 5 0)],hWo vs vy va vb w ++ [.box (cAct 3 1 n c t)]⟩) (cells':=cAct 3 1 n c t) (H':=hWo vs vy va vb w ++ [.gone]) 3 5 rfl rfl (by simp [cAct,frz]) (by simp [cAct,PV.isPure]) rfl
        rw [put_mk] at e
        refine weak_eqD ?_ e
        simp [trim_mk,go_sem,subHeap,renObj,renCell,renLeaf,pos,List.range_succ,hWo,Wo.ss,cSi3,cSi,cAct]
      rintro st rfl
      refine WL_walk ?_
      simp only [go_sem,L126,R126,List.drop_succ_cons,List.drop_zero,hWo,Wo.ss,cSi3,cSi,cE,cAct,intS,Int.reduceLT,Int.reduceLE,Int.reduceToNat,Int.reduceAdd,frz,List.map_cons,List.map_nil,List.cons_append,List.nil_append,hn0]
      simp only [go_sem,hn1,List.length_map]
      repeat refine ⟨rfl,?_⟩
      refine ret_keep [] (by simp) (by simp) (by simp [hx,hWo]) ?_ ?_
      · simp [go_sem,L126,R126,hx,pos,hWo]
      · simp [subHeap,renObj,renCell,renLeaf,hx,pos,go_sem,hWo,List.range_succ,Wo.ss,cSi3,cSi]
    obtain ⟨q,rfl⟩:∃ q:Nat,n=q:=⟨n.toNat,by omega⟩
    have hq:q < w.b.length:=by omega
    have hnn:¬ ((q:Int) < 0∨((w.way 1).length:Int)≤(q:Int)):=by show ¬ ((q:Int) < 0∨(w.b.length:Int)≤(q:Int)); omega
    obtain ⟨va',vb',htk⟩:=take_meets vs vy va vb w 1 q (by omega) hq (by show w.b.length≤30; omega)
    have hce:=h.cb _ (nthM hq)
    have hnN:¬ w.b.length≤q:=by omega
    have hd:doErr0 w 3 1 q c t=0:=by rw [doErr0,if_neg (by decide),if_neg (by decide),if_neg hnn,if_neg (by decide),if_pos rfl]
    have hdW:doW w 3 1 q c t=w.setY 1 ((w.way 1).eraseIdx q):=by rw [doW,if_neg (by decide),if_neg (by decide),if_neg (by decide),if_pos rfl,Int.toNat_natCast]
    refine ⟨va',vb',?_⟩
    rw [hd,if_pos rfl,hdW]
    refine Meets.of_parts Tryz.func126 Tryz.ntmps126 low126 res126 (by simp) fun x hx=>?_
    simp only [LC.flat,L126,R126,List.cons_append,List.nil_append]
    refine WL_join 1 [0,3] 6 (fun st=>st=⟨mkE .top [(3,.rptr (cAct 3 1 (q:Int) c t)),(0,.ptr 0 0),(3,.ptr 5 0)],hWo vs vy va vb w ++ [.gone]⟩) (by simp [hx,hWo]) (by simp) ?_ ?_
    · simp only [go_sem,L126,R126,List.take_succ_cons,List.take_zero,cAct]
      rw [join_normal]
      refine ⟨by simp [hWo],_,?_,rfl⟩
      have e:=weak_rptr (x:=x) (nt:=114) (st:=⟨mkE .top [(0,.ptr 0 0),(3,.ptr 5 0)],hWo vs vy va vb w ++ [.box (cAct 3 1 (q:Int) c t)]⟩) (cells':=cAct 3 1 (q:Int) c t) (H':=hWo vs vy va vb w ++ [.gone]) 3 5 rfl rfl (by simp [cAct,frz]) (by simp [cAct,PV.isPure]) rfl
      rw [put_mk] at e
      refine weak_eqD ?_ e
      simp [trim_mk,go_sem,subHeap,renObj,renCell,renLeaf,pos,List.range_succ,hWo,Wo.ss,cSi3,cSi,cAct]
    rintro st rfl
    refine WL_walk ?_
    simp only [go_sem,L126,R126,List.drop_succ_cons,List.drop_zero,hWo,Wo.ss,cSi3,cSi,cE,cAct,intS,Int.reduceLT,Int.reduceLE,Int.reduceToNat,Int.reduceAdd,frz,List.map_cons,List.map_nil,List.cons_append,List.nil_append,hn0]
    simp only [go_sem,hn0,hnN,List.length_map,intS,Int.reduceLT,Int.reduceLE,Int.reduceToNat,Int.reduceAdd,frz]
    repeat refine ⟨rfl,?_⟩
    try simp only [go_sem,intS,Int.reduceLT,Int.reduceLE,Int.reduceToNat,Int.reduceAdd,frz]
    refine ops_call (.heapE [0,1,2,3,4] (r' := .agg (cE (nth (w.way 1) q))) (H':=hWo vs vy va' vb' (w.setY 1 ((w.way 1).eraseIdx q)) ++ [.gone]) htk (by simp) (by simp) (by simp [go_sem,pos]) ?_ ?_ ?_) ?_
    · skip
      simp [subHeap,renObj,renCell,renLeaf,pos,hWo,Wo.ss,cSi3,cSi]
    · simp [renT,ren,renCell,renLeaf,cE]
    · skip
      simp [merge,mergeObj,callId,backF,backId,renObj,renCell,renLeaf,pos,List.range_succ,hWo,Wo.ss,cSi3,cSi,cE,cAct]
    simp only [go_sem,hWo]
    refine end_keep [] (by simp) (by simp) (by simp [hx,hWo]) ?_ ?_
    · simp [go_sem,L126,R126,hx,pos,hWo]
    · simp [subHeap,renObj,renCell,renLeaf,hx,pos,go_sem,hWo,List.range_succ,Wo.ss,cSi3,cSi]
end Go.Proofs.YtfdolehffjmdmaaGreatDoor
/- Worlds: what is brought,what comes again; an act in a right world: contracts. -/
namespace Go.Proofs.YtfdolehffjmdmaaGreatDoor
set_option linter.unusedSimpArgs false
set_option linter.unusedVariables false
open Go.RowKit
theorem rc_born {w:Wo} (h:WoOk w) {i:Int} (hi:i=0∨i=1) {e:Entry} (hc:checkEntry e=0) (hb:Born w e):rcErr i (w.log i) (w.wts i) e=0:=by
 by_cases hr:e.id.r=i
 ·
  exact if_pos (.inl (findE_pos.2 ⟨e,born_own hb hr,rfl⟩))
 ·
  exact (rc_ok (h.si hi) hc hr).1
set_option maxRecDepth 10000 in
set_option maxHeartbeats 4000000 in
theorem do2_meets (vs vy va vb : Nat) (w : Wo) (h : WoOk w) (i n c : Int) (t : ByteArray) (hi : i = 0 ∨ i = 1) :
    ∃ va' vb',Meets Tryz.prog 126 [.ptr 0 0,.agg (cAct 2 i n c t)] (hWo vs vy va vb w) (.int .i64 (doErr0 w 2 i n c t)) (hWo vs vy va' vb' (if doErr0 w 2 i n c t=0 then doW w 2 i n c t else w)):=by
  have la:=h.la
  have lb:=h.lb
  rcases hi with rfl | rfl
  · skip
    by_cases hn0:n < 0
    · refine ⟨va,vb,?_⟩
      rw [doErr0_n (by decide) (by decide) (.inl hn0),if_neg (by decide)]
      refine Meets.of_parts Tryz.func126 Tryz.ntmps126 low126 res126 (by simp) fun x hx=>?_
      simp only [LC.flat,L126,R126,List.cons_append,List.nil_append]
      refine WL_join 1 [0,3] 6 (fun st=>st=⟨mkE .top [(3,.rptr (cAct 2 0 n c t)),(0,.ptr 0 0),(3,.ptr 5 0)],hWo vs vy va vb w ++ [.gone]⟩) (by simp [hx,hWo]) (by simp) ?_ ?_
      · simp only [go_sem,L126,R126,List.take_succ_cons,List.take_zero,cAct]
        rw [join_normal]
        refine ⟨by simp [hWo],_,?_,rfl⟩
        have e:=weak_rptr (x:=x) (nt:=114) (st:=⟨mkE .top [(0,.ptr 0 0),(3,.ptr 5 0)],hWo vs vy va vb w ++ [.box (cAct 2 0 n c t)]⟩) (cells':=cAct 2 0 n c t) (H':=hWo vs vy va vb w ++ [.gone]) 3 5 rfl rfl (by simp [cAct,frz]) (by simp [cAct,PV.isPure]) rfl
        rw [put_mk] at e
        refine weak_eqD ?_ e
        simp [trim_mk,go_sem,subHeap,renObj,renCell,renLeaf,pos,List.range_succ,hWo,Wo.ss,cSi3,cSi,cAct]
      rintro st rfl
      refine WL_walk ?_
      simp only [go_sem,L126,R126,List.drop_succ_cons,List.drop_zero,hWo,Wo.ss,cSi3,cSi,cE,cAct,intS,Int.reduceLT,Int.reduceLE,Int.reduceToNat,Int.reduceAdd,frz,List.map_cons,List.map_nil,List.cons_append,List.nil_append,hn0]
      repeat refine ⟨rfl,?_⟩
      refine ret_keep [] (by simp) (by simp) (by simp [hx,hWo]) ?_ ?_
      · simp [go_sem,L126,R126,hx,pos,hWo]
      · simp [subHeap,renObj,renCell,renLeaf,hx,pos,go_sem,hWo,List.range_succ,Wo.ss,cSi3,cSi]
    by_cases hn1:(w.a.length:Int)≤n
    · refine ⟨va,vb,?_⟩
      rw [doErr0_n (by decide) (by decide) (.inr (by show (w.a.length:Int)≤n; exact hn1)),if_neg (by decide)]
      refine Meets.of_parts Tryz.func126 Tryz.ntmps126 low126 res126 (by simp) fun x hx=>?_
      simp only [LC.flat,L126,R126,List.cons_append,List.nil_append]
      refine WL_join 1 [0,3] 6 (fun st=>st=⟨mkE .top [(3,.rptr (cAct 2 0 n c t)),(0,.ptr 0 0),(3,.ptr 5 0)],hWo vs vy va vb w ++ [.gone]⟩) (by simp [hx,hWo]) (by simp) ?_ ?_
      · simp only [go_sem,L126,R126,List.take_succ_cons,List.take_zero,cAct]
        rw [join_normal]
        refine ⟨by simp [hWo],_,?_,rfl⟩
        have e:=weak_rptr (x:=x) (nt:=114) (st:=⟨mkE .top [(0,.ptr 0 0),(3,.ptr 5 0)],hWo vs vy va vb w ++ [.box (cAct 2 0 n c t)]⟩) (cells':=cAct 2 0 n c t) (H':=hWo vs vy va vb w ++ [.gone]) 3 5 rfl rfl (by simp [cAct,frz]) (by simp [cAct,PV.isPure]) rfl
        rw [put_mk] at e
        refine weak_eqD ?_ e
        simp [trim_mk,go_sem,subHeap,renObj,renCell,renLeaf,pos,List.range_succ,hWo,Wo.ss,cSi3,cSi,cAct]
      rintro st rfl
      refine WL_walk ?_
      simp only [go_sem,L126,R126,List.drop_succ_cons,List.drop_zero,hWo,Wo.ss,cSi3,cSi,cE,cAct,intS,Int.reduceLT,Int.reduceLE,Int.reduceToNat,Int.reduceAdd,frz,List.map_cons,List.map_nil,List.cons_append,List.nil_append,hn0]
      simp only [go_sem,hn1,List.length_map]
      repeat refine ⟨rfl,?_⟩
      refine ret_keep [] (by simp) (by simp) (by simp [hx,hWo]) ?_ ?_
      · simp [go_sem,L126,R126,hx,pos,hWo]
      · simp [subHeap,renObj,renCell,renLeaf,hx,pos,go_sem,hWo,List.range_succ,Wo.ss,cSi3,cSi]
    obtain ⟨q,rfl⟩:∃ q:Nat,n=q:=⟨n.toNat,by omega⟩
    have hq:q < w.a.length:=by omega
    have hnn:¬ ((q:Int) < 0∨((w.way 0).length:Int)≤(q:Int)):=by show ¬ ((q:Int) < 0∨(w.a.length:Int)≤(q:Int)); omega
    have hce:=h.ca _ (nthM hq)
    have hnN:¬ w.a.length≤q:=by omega
    have hgq:w.a[q]? = some (nth w.a q):=nth_get? _ _ hq
    have hbo:=h.ba _ (nthM hq)
    obtain ⟨va',vb',htk⟩:=take_meets vs vy va vb w 0 q (by omega) hq (by show w.a.length≤30; omega)
    have hr0:rcErr 0 (w.log 0) (w.wts 0) (nth w.a q)=0:=rc_born h (by omega) hce hbo
    have hrc:=receive_meets vs vy va' vb' (w.setY 0 ((w.way 0).eraseIdx q)) 0 (nth w.a q) (h.si (by omega)) hce
    have hr1:rcErr 0 ((w.setY 0 ((w.way 0).eraseIdx q)).log 0) ((w.setY 0 ((w.way 0).eraseIdx q)).wts 0) (nth w.a q)=0:=hr0
    have hd:doErr0 w 2 0 q c t=0:=by rw [doErr0,if_neg (by decide),if_neg (by decide),if_neg hnn,if_pos rfl,Int.toNat_natCast]; exact hr0
    have hdW:doW w 2 0 q c t=recW (w.setY 0 ((w.way 0).eraseIdx q)) 0 (nth w.a q):=by
      rw [doW,if_neg (by decide),if_neg (by decide),if_pos rfl,Int.toNat_natCast,recW,if_pos hr1]; rfl
    rw [hr1] at hrc
    refine ⟨va',vb',?_⟩
    rw [hd,if_pos rfl,hdW]
    have htk:Meets Tryz.prog 155 [.ptr 0 0,.int .i64 0,.int .i64 q] (hWo vs vy va vb w) (.agg (cE (nth w.a q))) (hWo vs vy va' vb' (w.setY 0 ((w.way 0).eraseIdx q))):=htk
    generalize recW (w.setY 0 ((w.way 0).eraseIdx q)) 0 (nth w.a q)=w3 at *
    generalize w.setY 0 ((w.way 0).eraseIdx q)=w2 at *
    refine Meets.of_parts Tryz.func126 Tryz.ntmps126 low126 res126 (by simp) fun x hx=>?_
    simp only [LC.flat,L126,R126,List.cons_append,List.nil_append]
    refine WL_join 1 [0,3] 6 (fun st=>st=⟨mkE .top [(3,.rptr (cAct 2 0 (q:Int) c t)),(0,.ptr 0 0),(3,.ptr 5 0)],hWo vs vy va vb w ++ [.gone]⟩) (by simp [hx,hWo]) (by simp) ?_ ?_
    · simp only [go_sem,L126,R126,List.take_succ_cons,List.take_zero,cAct]
      rw [join_normal]
      refine ⟨by simp [hWo],_,?_,rfl⟩
      have e:=weak_rptr (x:=x) (nt:=114) (st:=⟨mkE .top [(0,.ptr 0 0),(3,.ptr 5 0)],hWo vs vy va vb w ++ [.box (cAct 2 0 (q:Int) c t)]⟩) (cells':=cAct 2 0 (q:Int) c t) (H':=hWo vs vy va vb w ++ [.gone]) 3 5 rfl rfl (by simp [cAct,frz]) (by simp [cAct,PV.isPure]) rfl
      rw [put_mk] at e
      refine weak_eqD ?_ e
      simp [trim_mk,go_sem,subHeap,renObj,renCell,renLeaf,pos,List.range_succ,hWo,Wo.ss,cSi3,cSi,cAct]
    rintro st rfl
    refine WL_walk ?_
    simp only [go_sem,L126,R126,List.drop_succ_cons,List.drop_zero,hWo,Wo.ss,cSi3,cSi,cE,cAct,intS,Int.reduceLT,Int.reduceLE,Int.reduceToNat,Int.reduceAdd,frz,List.map_cons,List.map_nil,List.cons_append,List.nil_append,hn0]
    simp only [go_sem,hn0,hnN,List.length_map,intS,Int.reduceLT,Int.reduceLE,Int.reduceToNat,Int.reduceAdd,frz]
    repeat refine ⟨rfl,?_⟩
    try simp only [go_sem,intS,Int.reduceLT,Int.reduceLE,Int.reduceToNat,Int.reduceAdd,frz]
    refine ops_call3 (.heapE [0,1,2,3,4] (r' := .agg (cE (nth w.a q))) (H':=hWo vs vy va' vb' w2 ++ [.gone]) htk (by simp) (by simp) (by simp [go_sem,pos]) ?_ ?_ ?_) ?_
    · skip
      simp [subHeap,renObj,renCell,renLeaf,pos,hWo,Wo.ss,cSi3,cSi]
    · simp [renT,ren,renCell,renLeaf,cE]
    · skip
      simp [merge,mergeObj,callId,backF,backId,renObj,renCell,renLeaf,pos,List.range_succ,hWo,Wo.ss,cSi3,cSi,cE,cAct]
    simp only [go_sem,hWo,intS,Int.reduceLT,Int.reduceLE,Int.reduceToNat,Int.reduceAdd,frz,List.cons_append,List.nil_append]
    refine ops_call (.heapE [0,1,2,3,4] (r' := .int .i64 0) (H':=hWo vs vy va' vb' w3 ++ [.gone]) hrc (by simp) (by simp) (by simp [go_sem,pos,cE]) ?_ ?_ ?_) ?_
    · skip
      simp [subHeap,renObj,renCell,renLeaf,pos,hWo,Wo.ss,cSi3,cSi]
    · simp [renT,ren,renCell,renLeaf]
    · skip
      simp [merge,mergeObj,callId,backF,backId,renObj,renCell,renLeaf,pos,List.range_succ,hWo,Wo.ss,cSi3,cSi,cE,cAct]
    simp only [go_sem,hWo,intS,Int.reduceLT,Int.reduceLE,Int.reduceToNat,Int.reduceAdd,frz]
    repeat refine ⟨rfl,?_⟩
    try simp only [go_sem,intS,Int.reduceLT,Int.reduceLE,Int.reduceToNat,Int.reduceAdd,frz]
    refine ret_keep [] (by simp) (by simp) (by simp [hx,hWo]) ?_ ?_
    · simp [go_sem,L126,R126,hx,pos,hWo]
    · simp [subHeap,renObj,renCell,renLeaf,hx,pos,go_sem,hWo,List.range_succ,Wo.ss,cSi3,cSi]
  · skip
    by_cases hn0:n < 0
    · refine ⟨va,vb,?_⟩
      rw [doErr0_n (by decide) (by decide) (.inl hn0),if_neg (by decide)]
      refine Meets.of_parts Tryz.func126 Tryz.ntmps126 low126 res126 (by simp) fun x hx=>?_
      simp only [LC.flat,L126,R126,List.cons_append,List.nil_append]
      refine WL_join 1 [0,3] 6 (fun st=>st=⟨mkE .top [(3,.rptr (cAct 2 1 n c t)),(0,.ptr 0 0),(3,.ptr 5 0)],hWo vs vy va vb w ++ [.gone]⟩) (by simp [hx,hWo]) (by simp) ?_ ?_
      · simp only [go_sem,L126,R126,List.take_succ_cons,List.take_zero,cAct]
        rw [join_normal]
        refine ⟨by simp [hWo],_,?_,rfl⟩
        have e:=weak_rptr (x:=x) (nt:=114) (st:=⟨mkE .top [(0,.ptr 0 0),(3,.ptr 5 0)],hWo vs vy va vb w ++ [.box (cAct 2 1 n c t)]⟩) (cells':=cAct 2 1 n c t) (H':=hWo vs vy va vb w ++ [.gone]) 3 5 rfl rfl (by simp [cAct,frz]) (by simp [cAct,PV.isPure]) rfl
        rw [put_mk] at e
        refine weak_eqD ?_ e
        simp [trim_mk,go_sem,subHeap,renObj,renCell,renLeaf,pos,List.range_succ,hWo,Wo.ss,cSi3,cSi,cAct]
      rintro st rfl
      refine WL_walk ?_
      simp only [go_sem,L126,R126,List.drop_succ_cons,List.drop_zero,hWo,Wo.ss,cSi3,cSi,cE,cAct,intS,Int.reduceLT,Int.reduceLE,Int.reduceToNat,Int.reduceAdd,frz,List.map_cons,List.map_nil,List.cons_append,List.nil_append,hn0]
      repeat refine ⟨rfl,?_⟩
      refine ret_keep [] (by simp) (by simp) (by simp [hx,hWo]) ?_ ?_
      · simp [go_sem,L126,R126,hx,pos,hWo]
      · simp [subHeap,renObj,renCell,renLeaf,hx,pos,go_sem,hWo,List.range_succ,Wo.ss,cSi3,cSi]
    by_cases hn1:(w.b.length:Int)≤n
    · refine ⟨va,vb,?_⟩
      rw [doErr0_n (by decide) (by decide) (.inr (by show (w.b.length:Int)≤n; exact hn1)),if_neg (by decide)]
      refine Meets.of_parts Tryz.func126 Tryz.ntmps126 low126 res126 (by simp) fun x hx=>?_
      simp only [LC.flat,L126,R126,List.cons_append,List.nil_append]
      refine WL_join 1 [0,3] 6 (fun st=>st=⟨mkE .top [(3,.rptr (cAct 2 1 n c t)),(0,.ptr 0 0),(3,.ptr 5 0)],hWo vs vy va vb w ++ [.gone]⟩) (by simp [hx,hWo]) (by simp) ?_ ?_
      · simp only [go_sem,L126,R126,List.take_succ_cons,List.take_zero,cAct]
        rw [join_normal]
        refine ⟨by simp [hWo],_,?_,rfl⟩
        have e:=weak_rptr (x:=x) (nt:=114) (st:=⟨mkE .top [(0,.ptr 0 0),(3,.ptr 5 0)],hWo vs vy va vb w ++ [.box (cAct 2 1 n c t)]⟩) (cells':=cAct 2 1 n c t) (H':=hWo vs vy va vb w ++ [.gone]) 3 5 rfl rfl (by simp [cAct,frz]) (by simp [cAct,PV.isPure]) rfl
        rw [put_mk] at e
        refine weak_eqD ?_ e
        simp [trim_mk,go_sem,subHeap,renObj,renCell,renLeaf,pos,List.range_succ,hWo,Wo.ss,cSi3,cSi,cAct]
      rintro st rfl
      refine WL_walk ?_
      simp only [go_sem,L126,R126,List.drop_succ_cons,List.drop_zero,hWo,Wo.ss,cSi3,cSi,cE,cAct,intS,Int.reduceLT,Int.reduceLE,Int.reduceToNat,Int.reduceAdd,frz,List.map_cons,List.map_nil,List.cons_append,List.nil_append,hn0]
      simp only [go_sem,hn1,List.length_map]
      repeat refine ⟨rfl,?_⟩
      refine ret_keep [] (by simp) (by simp) (by simp [hx,hWo]) ?_ ?_
      · simp [go_sem,L126,R126,hx,pos,hWo]
      · simp [subHeap,renObj,renCell,renLeaf,hx,pos,go_sem,hWo,List.range_succ,Wo.ss,cSi3,cSi]
    obtain ⟨q,rfl⟩:∃ q:Nat,n=q:=⟨n.toNat,by omega⟩
    have hq:q < w.b.length:=by omega
    have hnn:¬ ((q:Int) < 0∨((w.way 1).length:Int)≤(q:Int)):=by show ¬ ((q:Int) < 0∨(w.b.length:Int)≤(q:Int)); omega
    have hce:=h.cb _ (nthM hq)
    have hnN:¬ w.b.length≤q:=by omega
    have hgq:w.b[q]? = some (nth w.b q):=nth_get? _ _ hq
    have hbo:=h.bb _ (nthM hq)
    obtain ⟨va',vb',htk⟩:=take_meets vs vy va vb w 1 q (by omega) hq (by show w.b.length≤30; omega)
    have hr0:rcErr 1 (w.log 1) (w.wts 1) (nth w.b q)=0:=rc_born h (by omega) hce hbo
    have hrc:=receive_meets vs vy va' vb' (w.setY 1 ((w.way 1).eraseIdx q)) 1 (nth w.b q) (h.si (by omega)) hce
    have hr1:rcErr 1 ((w.setY 1 ((w.way 1).eraseIdx q)).log 1) ((w.setY 1 ((w.way 1).eraseIdx q)).wts 1) (nth w.b q)=0:=hr0
    have hd:doErr0 w 2 1 q c t=0:=by rw [doErr0,if_neg (by decide),if_neg (by decide),if_neg hnn,if_pos rfl,Int.toNat_natCast]; exact hr0
    have hdW:doW w 2 1 q c t=recW (w.setY 1 ((w.way 1).eraseIdx q)) 1 (nth w.b q):=by
      rw [doW,if_neg (by decide),if_neg (by decide),if_pos rfl,Int.toNat_natCast,recW,if_pos hr1]; rfl
    rw [hr1] at hrc
    refine ⟨va',vb',?_⟩
    rw [hd,if_pos rfl,hdW]
    have htk:Meets Tryz.prog 155 [.ptr 0 0,.int .i64 1,.int .i64 q] (hWo vs vy va vb w) (.agg (cE (nth w.b q))) (hWo vs vy va' vb' (w.setY 1 ((w.way 1).eraseIdx q))):=htk
    generalize recW (w.setY 1 ((w.way 1).eraseIdx q)) 1 (nth w.b q)=w3 at *
    generalize w.setY 1 ((w.way 1).eraseIdx q)=w2 at *
    refine Meets.of_parts Tryz.func126 Tryz.ntmps126 low126 res126 (by simp) fun x hx=>?_
    simp only [LC.flat,L126,R126,List.cons_append,List.nil_append]
    refine WL_join 1 [0,3] 6 (fun st=>st=⟨mkE .top [(3,.rptr (cAct 2 1 (q:Int) c t)),(0,.ptr 0 0),(3,.ptr 5 0)],hWo vs vy va vb w ++ [.gone]⟩) (by simp [hx,hWo]) (by simp) ?_ ?_
    · simp only [go_sem,L126,R126,List.take_succ_cons,List.take_zero,cAct]
      rw [join_normal]
      refine ⟨by simp [hWo],_,?_,rfl⟩
      have e:=weak_rptr (x:=x) (nt:=114) (st:=⟨mkE .top [(0,.ptr 0 0),(3,.ptr 5 0)],hWo vs vy va vb w ++ [.box (cAct 2 1 (q:Int) c t)]⟩) (cells':=cAct 2 1 (q:Int) c t) (H':=hWo vs vy va vb w ++ [.gone]) 3 5 rfl rfl (by simp [cAct,frz]) (by simp [cAct,PV.isPure]) rfl
      rw [put_mk] at e
      refine weak_eqD ?_ e
      simp [trim_mk,go_sem,subHeap,renObj,renCell,renLeaf,pos,List.range_succ,hWo,Wo.ss,cSi3,cSi,cAct]
    rintro st rfl
    refine WL_walk ?_
    simp only [go_sem,L126,R126,List.drop_succ_cons,List.drop_zero,hWo,Wo.ss,cSi3,cSi,cE,cAct,intS,Int.reduceLT,Int.reduceLE,Int.reduceToNat,Int.reduceAdd,frz,List.map_cons,List.map_nil,List.cons_append,List.nil_append,hn0]
    simp only [go_sem,hn0,hnN,List.length_map,intS,Int.reduceLT,Int.reduceLE,Int.reduceToNat,Int.reduceAdd,frz]
    repeat refine ⟨rfl,?_⟩
    try simp only [go_sem,intS,Int.reduceLT,Int.reduceLE,Int.reduceToNat,Int.reduceAdd,frz]
    refine ops_call3 (.heapE [0,1,2,3,4] (r' := .agg (cE (nth w.b q))) (H':=hWo vs vy va' vb' w2 ++ [.gone]) htk (by simp) (by simp) (by simp [go_sem,pos]) ?_ ?_ ?_) ?_
    · skip
      simp [subHeap,renObj,renCell,renLeaf,pos,hWo,Wo.ss,cSi3,cSi]
    · simp [renT,ren,renCell,renLeaf,cE]
    · skip
      simp [merge,mergeObj,callId,backF,backId,renObj,renCell,renLeaf,pos,List.range_succ,hWo,Wo.ss,cSi3,cSi,cE,cAct]
    simp only [go_sem,hWo,intS,Int.reduceLT,Int.reduceLE,Int.reduceToNat,Int.reduceAdd,frz,List.cons_append,List.nil_append]
    refine ops_call (.heapE [0,1,2,3,4] (r' := .int .i64 0) (H':=hWo vs vy va' vb' w3 ++ [.gone]) hrc (by simp) (by simp) (by simp [go_sem,pos,cE]) ?_ ?_ ?_) ?_
    · skip
      simp [subHeap,renObj,renCell,renLeaf,pos,hWo,Wo.ss,cSi3,cSi]
    · simp [renT,ren,renCell,renLeaf]
    · skip
      simp [merge,mergeObj,callId,backF,backId,renObj,renCell,renLeaf,pos,List.range_succ,hWo,Wo.ss,cSi3,cSi,cE,cAct]
    simp only [go_sem,hWo,intS,Int.reduceLT,Int.reduceLE,Int.reduceToNat,Int.reduceAdd,frz]
    repeat refine ⟨rfl,?_⟩
    try simp only [go_sem,intS,Int.reduceLT,Int.reduceLE,Int.reduceToNat,Int.reduceAdd,frz]
    refine ret_keep [] (by simp) (by simp) (by simp [hx,hWo]) ?_ ?_
    · simp [go_sem,L126,R126,hx,pos,hWo]
    · simp [subHeap,renObj,renCell,renLeaf,hx,pos,go_sem,hWo,List.range_succ,Wo.ss,cSi3,cSi]
set_option maxRecDepth 10000 in
set_option maxHeartbeats 4000000 in
theorem do4_meets (vs vy va vb : Nat) (w : Wo) (h : WoOk w) (i n c : Int) (t : ByteArray) (hi : i = 0 ∨ i = 1) :
    ∃ va' vb',Meets Tryz.prog 126 [.ptr 0 0,.agg (cAct 4 i n c t)] (hWo vs vy va vb w) (.int .i64 (doErr0 w 4 i n c t)) (hWo vs vy va' vb' (if doErr0 w 4 i n c t=0 then doW w 4 i n c t else w)):=by
  have la:=h.la
  have lb:=h.lb
  rcases hi with rfl | rfl
  · skip
    by_cases hn0:n < 0
    · refine ⟨va,vb,?_⟩
      rw [doErr0_n (by decide) (by decide) (.inl hn0),if_neg (by decide)]
      refine Meets.of_parts Tryz.func126 Tryz.ntmps126 low126 res126 (by simp) fun x hx=>?_
      simp only [LC.flat,L126,R126,List.cons_append,List.nil_append]
      refine WL_join 1 [0,3] 6 (fun st=>st=⟨mkE .top [(3,.rptr (cAct 4 0 n c t)),(0,.ptr 0 0),(3,.ptr 5 0)],hWo vs vy va vb w ++ [.gone]⟩) (by simp [hx,hWo]) (by simp) ?_ ?_
      · simp only [go_sem,L126,R126,List.take_succ_cons,List.take_zero,cAct]
        rw [join_normal]
        refine ⟨by simp [hWo],_,?_,rfl⟩
        have e:=weak_rptr (x:=x) (nt:=114) (st:=⟨mkE .top [(0,.ptr 0 0),(3,.ptr 5 0)],hWo vs vy va vb w ++ [.box (cAct 4 0 n c t)]⟩) (cells':=cAct 4 0 n c t) (H':=hWo vs vy va vb w ++ [.gone]) 3 5 rfl rfl (by simp [cAct,frz]) (by simp [cAct,PV.isPure]) rfl
        rw [put_mk] at e
        refine weak_eqD ?_ e
        simp [trim_mk,go_sem,subHeap,renObj,renCell,renLeaf,pos,List.range_succ,hWo,Wo.ss,cSi3,cSi,cAct]
      rintro st rfl
      refine WL_walk ?_
      simp only [go_sem,L126,R126,List.drop_succ_cons,List.drop_zero,hWo,Wo.ss,cSi3,cSi,cE,cAct,intS,Int.reduceLT,Int.reduceLE,Int.reduceToNat,Int.reduceAdd,frz,List.map_cons,List.map_nil,List.cons_append,List.nil_append,hn0]
      repeat refine ⟨rfl,?_⟩
      refine ret_keep [] (by simp) (by simp) (by simp [hx,hWo]) ?_ ?_
      · simp [go_sem,L126,R126,hx,pos,hWo]
      · simp [subHeap,renObj,renCell,renLeaf,hx,pos,go_sem,hWo,List.range_succ,Wo.ss,cSi3,cSi]
    by_cases hn1:(w.a.length:Int)≤n
    · refine ⟨va,vb,?_⟩
      rw [doErr0_n (by decide) (by decide) (.inr (by show (w.a.length:Int)≤n; exact hn1)),if_neg (by decide)]
      refine Meets.of_parts Tryz.func126 Tryz.ntmps126 low126 res126 (by simp) fun x hx=>?_
      simp only [LC.flat,L126,R126,List.cons_append,List.nil_append]
      refine WL_join 1 [0,3] 6 (fun st=>st=⟨mkE .top [(3,.rptr (cAct 4 0 n c t)),(0,.ptr 0 0),(3,.ptr 5 0)],hWo vs vy va vb w ++ [.gone]⟩) (by simp [hx,hWo]) (by simp) ?_ ?_
      · simp only [go_sem,L126,R126,List.take_succ_cons,List.take_zero,cAct]
        rw [join_normal]
        refine ⟨by simp [hWo],_,?_,rfl⟩
        have e:=weak_rptr (x:=x) (nt:=114) (st:=⟨mkE .top [(0,.ptr 0 0),(3,.ptr 5 0)],hWo vs vy va vb w ++ [.box (cAct 4 0 n c t)]⟩) (cells':=cAct 4 0 n c t) (H':=hWo vs vy va vb w ++ [.gone]) 3 5 rfl rfl (by simp [cAct,frz]) (by simp [cAct,PV.isPure]) rfl
        rw [put_mk] at e
        refine weak_eqD ?_ e
        simp [trim_mk,go_sem,subHeap,renObj,renCell,renLeaf,pos,List.range_succ,hWo,Wo.ss,cSi3,cSi,cAct]
      rintro st rfl
      refine WL_walk ?_
      simp only [go_sem,L126,R126,List.drop_succ_cons,List.drop_zero,hWo,Wo.ss,cSi3,cSi,cE,cAct,intS,Int.reduceLT,Int.reduceLE,Int.reduceToNat,Int.reduceAdd,frz,List.map_cons,List.map_nil,List.cons_append,List.nil_append,hn0]
      simp only [go_sem,hn1,List.length_map]
      repeat refine ⟨rfl,?_⟩
      refine ret_keep [] (by simp) (by simp) (by simp [hx,hWo]) ?_ ?_
      · simp [go_sem,L126,R126,hx,pos,hWo]
      · simp [subHeap,renObj,renCell,renLeaf,hx,pos,go_sem,hWo,List.range_succ,Wo.ss,cSi3,cSi]
    obtain ⟨q,rfl⟩:∃ q:Nat,n=q:=⟨n.toNat,by omega⟩
    have hq:q < w.a.length:=by omega
    have hnn:¬ ((q:Int) < 0∨((w.way 0).length:Int)≤(q:Int)):=by show ¬ ((q:Int) < 0∨(w.a.length:Int)≤(q:Int)); omega
    have hce:=h.ca _ (nthM hq)
    have hnN:¬ w.a.length≤q:=by omega
    have hgq:w.a[q]? = some (nth w.a q):=nth_get? _ _ hq
    have hls:=(check_fit hce).2
    obtain ⟨va',vb',hsd⟩:=send_meets vs vy va vb w 0 (nth w.a q) (by omega) (by show w.a.length≤30; omega) hls
    have hd:doErr0 w 4 0 q c t=if w.a.length=30 then 2 else 0:=by rw [doErr0,if_neg (by decide),if_neg (by decide),if_neg hnn,if_neg (by decide),if_neg (by decide)]; rfl
    have hdW:doW w 4 0 q c t=w.setY 0 ((w.way 0) ++ [nth w.a q]):=by rw [doW,if_neg (by decide),if_neg (by decide),if_neg (by decide),if_neg (by decide),Int.toNat_natCast]; rfl
    refine ⟨va',vb',?_⟩
    by_cases h30:w.a.length=30
    · have hs:sendW w 0 (nth w.a q)=w:=by rw [sendW,if_pos (show (w.way 0).length=30 from h30)]
      have hb:(!decide ((w.way 0).length=30))=false:=by show (!decide (w.a.length=30))=false; simp [h30]
      rw [hs,hb] at hsd
      rw [hd,if_pos h30,if_neg (by decide)]
      refine Meets.of_parts Tryz.func126 Tryz.ntmps126 low126 res126 (by simp) fun x hx=>?_
      simp only [LC.flat,L126,R126,List.cons_append,List.nil_append]
      refine WL_join 1 [0,3] 6 (fun st=>st=⟨mkE .top [(3,.rptr (cAct 4 0 (q:Int) c t)),(0,.ptr 0 0),(3,.ptr 5 0)],hWo vs vy va vb w ++ [.gone]⟩) (by simp [hx,hWo]) (by simp) ?_ ?_
      · simp only [go_sem,L126,R126,List.take_succ_cons,List.take_zero,cAct]
        rw [join_normal]
        refine ⟨by simp [hWo],_,?_,rfl⟩
        have e:=weak_rptr (x:=x) (nt:=114) (st:=⟨mkE .top [(0,.ptr 0 0),(3,.ptr 5 0)],hWo vs vy va vb w ++ [.box (cAct 4 0 (q:Int) c t)]⟩) (cells':=cAct 4 0 (q:Int) c t) (H':=hWo vs vy va vb w ++ [.gone]) 3 5 rfl rfl (by simp [cAct,frz]) (by simp [cAct,PV.isPure]) rfl
        rw [put_mk] at e
        refine weak_eqD ?_ e
        simp [trim_mk,go_sem,subHeap,renObj,renCell,renLeaf,pos,List.range_succ,hWo,Wo.ss,cSi3,cSi,cAct]
      rintro st rfl
      refine WL_walk ?_
      simp only [go_sem,L126,R126,List.drop_succ_cons,List.drop_zero,hWo,Wo.ss,cSi3,cSi,cE,cAct,intS,Int.reduceLT,Int.reduceLE,Int.reduceToNat,Int.reduceAdd,frz,List.map_cons,List.map_nil,List.cons_append,List.nil_append,hn0]
      simp only [go_sem,hn0,hnN,List.length_map,intS,Int.reduceLT,Int.reduceLE,Int.reduceToNat,Int.reduceAdd,frz]
      repeat refine ⟨rfl,?_⟩
      try simp only [go_sem,intS,Int.reduceLT,Int.reduceLE,Int.reduceToNat,Int.reduceAdd,frz,hq,hgq,cE]
      refine ops_call (.heapE [0,1,2,3,4] (r' := .bool false) (H':=hWo vs vy va' vb' w ++ [.gone]) hsd (by simp) (by simp) (by simp [go_sem,pos,cE]) ?_ ?_ ?_) ?_
      · skip
        simp [subHeap,renObj,renCell,renLeaf,pos,hWo,Wo.ss,cSi3,cSi]
      · simp [renT,ren,renCell,renLeaf]
      · skip
        simp [merge,mergeObj,callId,backF,backId,renObj,renCell,renLeaf,pos,List.range_succ,hWo,Wo.ss,cSi3,cSi,cE,cAct]
      simp only [go_sem,hWo,intS,Int.reduceLT,Int.reduceLE,Int.reduceToNat,Int.reduceAdd,frz]
      repeat refine ⟨rfl,?_⟩
      try simp only [go_sem,intS,Int.reduceLT,Int.reduceLE,Int.reduceToNat,Int.reduceAdd,frz]
      refine ret_keep [] (by simp) (by simp) (by simp [hx,hWo]) ?_ ?_
      · simp [go_sem,L126,R126,hx,pos,hWo]
      · simp [subHeap,renObj,renCell,renLeaf,hx,pos,go_sem,hWo,List.range_succ,Wo.ss,cSi3,cSi]
    · have hs:sendW w 0 (nth w.a q)=w.setY 0 ((w.way 0) ++ [nth w.a q]):=by rw [sendW,if_neg (show ¬ (w.way 0).length=30 from h30)]
      have hb:(!decide ((w.way 0).length=30))=true:=by show (!decide (w.a.length=30))=true; simp [h30]
      rw [hs,hb] at hsd
      rw [hd,if_neg h30,if_pos rfl,hdW]
      generalize w.setY 0 ((w.way 0) ++ [nth w.a q])=w2 at *
      refine Meets.of_parts Tryz.func126 Tryz.ntmps126 low126 res126 (by simp) fun x hx=>?_
      simp only [LC.flat,L126,R126,List.cons_append,List.nil_append]
      refine WL_join 1 [0,3] 6 (fun st=>st=⟨mkE .top [(3,.rptr (cAct 4 0 (q:Int) c t)),(0,.ptr 0 0),(3,.ptr 5 0)],hWo vs vy va vb w ++ [.gone]⟩) (by simp [hx,hWo]) (by simp) ?_ ?_
      · simp only [go_sem,L126,R126,List.take_succ_cons,List.take_zero,cAct]
        rw [join_normal]
        refine ⟨by simp [hWo],_,?_,rfl⟩
        have e:=weak_rptr (x:=x) (nt:=114) (st:=⟨mkE .top [(0,.ptr 0 0),(3,.ptr 5 0)],hWo vs vy va vb w ++ [.box (cAct 4 0 (q:Int) c t)]⟩) (cells':=cAct 4 0 (q:Int) c t) (H':=hWo vs vy va vb w ++ [.gone]) 3 5 rfl rfl (by simp [cAct,frz]) (by simp [cAct,PV.isPure]) rfl
        rw [put_mk] at e
        refine weak_eqD ?_ e
        simp [trim_mk,go_sem,subHeap,renObj,renCell,renLeaf,pos,List.range_succ,hWo,Wo.ss,cSi3,cSi,cAct]
      rintro st rfl
      refine WL_walk ?_
      simp only [go_sem,L126,R126,List.drop_succ_cons,List.drop_zero,hWo,Wo.ss,cSi3,cSi,cE,cAct,intS,Int.reduceLT,Int.reduceLE,Int.reduceToNat,Int.reduceAdd,frz,List.map_cons,List.map_nil,List.cons_append,List.nil_append,hn0]
      simp only [go_sem,hn0,hnN,List.length_map,intS,Int.reduceLT,Int.reduceLE,Int.reduceToNat,Int.reduceAdd,frz]
      repeat refine ⟨rfl,?_⟩
      try simp only [go_sem,intS,Int.reduceLT,Int.reduceLE,Int.reduceToNat,Int.reduceAdd,frz,hq,hgq,cE]
      refine ops_call (.heapE [0,1,2,3,4] (r' := .bool true) (H':=hWo vs vy va' vb' w2 ++ [.gone]) hsd (by simp) (by simp) (by simp [go_sem,pos,cE]) ?_ ?_ ?_) ?_
      · skip
        simp [subHeap,renObj,renCell,renLeaf,pos,hWo,Wo.ss,cSi3,cSi]
      · simp [renT,ren,renCell,renLeaf]
      · skip
        simp [merge,mergeObj,callId,backF,backId,renObj,renCell,renLeaf,pos,List.range_succ,hWo,Wo.ss,cSi3,cSi,cE,cAct]
      simp only [go_sem,hWo,intS,Int.reduceLT,Int.reduceLE,Int.reduceToNat,Int.reduceAdd,frz]
      repeat refine ⟨rfl,?_⟩
      try simp only [go_sem,intS,Int.reduceLT,Int.reduceLE,Int.reduceToNat,Int.reduceAdd,frz]
      refine end_keep [] (by simp) (by simp) (by simp [hx,hWo]) ?_ ?_
      · simp [go_sem,L126,R126,hx,pos,hWo]
      · simp [subHeap,renObj,renCell,renLeaf,hx,pos,go_sem,hWo,List.range_succ,Wo.ss,cSi3,cSi]
  · skip
    by_cases hn0:n < 0
    · refine ⟨va,vb,?_⟩
      rw [doErr0_n (by decide) (by decide) (.inl hn0),if_neg (by decide)]
      refine Meets.of_parts Tryz.func126 Tryz.ntmps126 low126 res126 (by simp) fun x hx=>?_
      simp only [LC.flat,L126,R126,List.cons_append,List.nil_append]
      refine WL_join 1 [0,3] 6 (fun st=>st=⟨mkE .top [(3,.rptr (cAct 4 1 n c t)),(0,.ptr 0 0),(3,.ptr 5 0)],hWo vs vy va vb w ++ [.gone]⟩) (by simp [hx,hWo]) (by simp) ?_ ?_
      · simp only [go_sem,L126,R126,List.take_succ_cons,List.take_zero,cAct]
        rw [join_normal]
        refine ⟨by simp [hWo],_,?_,rfl⟩
        have e:=weak_rptr (x:=x) (nt:=114) (st:=⟨mkE .top [(0,.ptr 0 0),(3,.ptr 5 0)],hWo vs vy va vb w ++ [.box (cAct 4 1 n c t)]⟩) (cells':=cAct 4 1 n c t) (H':=hWo vs vy va vb w ++ [.gone]) 3 5 rfl rfl (by simp [cAct,frz]) (by simp [cAct,PV.isPure]) rfl
        rw [put_mk] at e
        refine weak_eqD ?_ e
        simp [trim_mk,go_sem,subHeap,renObj,renCell,renLeaf,pos,List.range_succ,hWo,Wo.ss,cSi3,cSi,cAct]
      rintro st rfl
      refine WL_walk ?_
      simp only [go_sem,L126,R126,List.drop_succ_cons,List.drop_zero,hWo,Wo.ss,cSi3,cSi,cE,cAct,intS,Int.reduceLT,Int.reduceLE,Int.reduceToNat,Int.reduceAdd,frz,List.map_cons,List.map_nil,List.cons_append,List.nil_append,hn0]
      repeat refine ⟨rfl,?_⟩
      refine ret_keep [] (by simp) (by simp) (by simp [hx,hWo]) ?_ ?_
      · simp [go_sem,L126,R126,hx,pos,hWo]
      · simp [subHeap,renObj,renCell,renLeaf,hx,pos,go_sem,hWo,List.range_succ,Wo.ss,cSi3,cSi]
    by_cases hn1:(w.b.length:Int)≤n
    · refine ⟨va,vb,?_⟩
      rw [doErr0_n (by decide) (by decide) (.inr (by show (w.b.length:Int)≤n; exact hn1)),if_neg (by decide)]
      refine Meets.of_parts Tryz.func126 Tryz.ntmps126 low126 res126 (by simp) fun x hx=>?_
      simp only [LC.flat,L126,R126,List.cons_append,List.nil_append]
      refine WL_join 1 [0,3] 6 (fun st=>st=⟨mkE .top [(3,.rptr (cAct 4 1 n c t)),(0,.ptr 0 0),(3,.ptr 5 0)],hWo vs vy va vb w ++ [.gone]⟩) (by simp [hx,hWo]) (by simp) ?_ ?_
      · simp only [go_sem,L126,R126,List.take_succ_cons,List.take_zero,cAct]
        rw [join_normal]
        refine ⟨by simp [hWo],_,?_,rfl⟩
        have e:=weak_rptr (x:=x) (nt:=114) (st:=⟨mkE .top [(0,.ptr 0 0),(3,.ptr 5 0)],hWo vs vy va vb w ++ [.box (cAct 4 1 n c t)]⟩) (cells':=cAct 4 1 n c t) (H':=hWo vs vy va vb w ++ [.gone]) 3 5 rfl rfl (by simp [cAct,frz]) (by simp [cAct,PV.isPure]) rfl
        rw [put_mk] at e
        refine weak_eqD ?_ e
        simp [trim_mk,go_sem,subHeap,renObj,renCell,renLeaf,pos,List.range_succ,hWo,Wo.ss,cSi3,cSi,cAct]
      rintro st rfl
      refine WL_walk ?_
      simp only [go_sem,L126,R126,List.drop_succ_cons,List.drop_zero,hWo,Wo.ss,cSi3,cSi,cE,cAct,intS,Int.reduceLT,Int.reduceLE,Int.reduceToNat,Int.reduceAdd,frz,List.map_cons,List.map_nil,List.cons_append,List.nil_append,hn0]
      simp only [go_sem,hn1,List.length_map]
      repeat refine ⟨rfl,?_⟩
      refine ret_keep [] (by simp) (by simp) (by simp [hx,hWo]) ?_ ?_
      · simp [go_sem,L126,R126,hx,pos,hWo]
      · simp [subHeap,renObj,renCell,renLeaf,hx,pos,go_sem,hWo,List.range_succ,Wo.ss,cSi3,cSi]
    obtain ⟨q,rfl⟩:∃ q:Nat,n=q:=⟨n.toNat,by omega⟩
    have hq:q < w.b.length:=by omega
    have hnn:¬ ((q:Int) < 0∨((w.way 1).length:Int)≤(q:Int)):=by show ¬ ((q:Int) < 0∨(w.b.length:Int)≤(q:Int)); omega
    have hce:=h.cb _ (nthM hq)
    have hnN:¬ w.b.length≤q:=by omega
    have hgq:w.b[q]? = some (nth w.b q):=nth_get? _ _ hq
    have hls:=(check_fit hce).2
    obtain ⟨va',vb',hsd⟩:=send_meets vs vy va vb w 1 (nth w.b q) (by omega) (by show w.b.length≤30; omega) hls
    have hd:doErr0 w 4 1 q c t=if w.b.length=30 then 2 else 0:=by rw [doErr0,if_neg (by decide),if_neg (by decide),if_neg hnn,if_neg (by decide),if_neg (by decide)]; rfl
    have hdW:doW w 4 1 q c t=w.setY 1 ((w.way 1) ++ [nth w.b q]):=by rw [doW,if_neg (by decide),if_neg (by decide),if_neg (by decide),if_neg (by decide),Int.toNat_natCast]; rfl
    refine ⟨va',vb',?_⟩
    by_cases h30:w.b.length=30
    · have hs:sendW w 1 (nth w.b q)=w:=by rw [sendW,if_pos (show (w.way 1).length=30 from h30)]
      have hb:(!decide ((w.way 1).length=30))=false:=by show (!decide (w.b.length=30))=false; simp [h30]
      rw [hs,hb] at hsd
      rw [hd,if_pos h30,if_neg (by decide)]
      refine Meets.of_parts Tryz.func126 Tryz.ntmps126 low126 res126 (by simp) fun x hx=>?_
      simp only [LC.flat,L126,R126,List.cons_append,List.nil_append]
      refine WL_join 1 [0,3] 6 (fun st=>st=⟨mkE .top [(3,.rptr (cAct 4 1 (q:Int) c t)),(0,.ptr 0 0),(3,.ptr 5 0)],hWo vs vy va vb w ++ [.gone]⟩) (by simp [hx,hWo]) (by simp) ?_ ?_
      · simp only [go_sem,L126,R126,List.take_succ_cons,List.take_zero,cAct]
        rw [join_normal]
        refine ⟨by simp [hWo],_,?_,rfl⟩
        have e:=weak_rptr (x:=x) (nt:=114) (st:=⟨mkE .top [(0,.ptr 0 0),(3,.ptr 5 0)],hWo vs vy va vb w ++ [.box (cAct 4 1 (q:Int) c t)]⟩) (cells':=cAct 4 1 (q:Int) c t) (H':=hWo vs vy va vb w ++ [.gone]) 3 5 rfl rfl (by simp [cAct,frz]) (by simp [cAct,PV.isPure]) rfl
        rw [put_mk] at e
        refine weak_eqD ?_ e
        simp [trim_mk,go_sem,subHeap,renObj,renCell,renLeaf,pos,List.range_succ,hWo,Wo.ss,cSi3,cSi,cAct]
      rintro st rfl
      refine WL_walk ?_
      simp only [go_sem,L126,R126,List.drop_succ_cons,List.drop_zero,hWo,Wo.ss,cSi3,cSi,cE,cAct,intS,Int.reduceLT,Int.reduceLE,Int.reduceToNat,Int.reduceAdd,frz,List.map_cons,List.map_nil,List.cons_append,List.nil_append,hn0]
      simp only [go_sem,hn0,hnN,List.length_map,intS,Int.reduceLT,Int.reduceLE,Int.reduceToNat,Int.reduceAdd,frz]
      repeat refine ⟨rfl,?_⟩
      try simp only [go_sem,intS,Int.reduceLT,Int.reduceLE,Int.reduceToNat,Int.reduceAdd,frz,hq,hgq,cE]
      refine ops_call (.heapE [0,1,2,3,4] (r' := .bool false) (H':=hWo vs vy va' vb' w ++ [.gone]) hsd (by simp) (by simp) (by simp [go_sem,pos,cE]) ?_ ?_ ?_) ?_
      · skip
        simp [subHeap,renObj,renCell,renLeaf,pos,hWo,Wo.ss,cSi3,cSi]
      · simp [renT,ren,renCell,renLeaf]
      · skip
        simp [merge,mergeObj,callId,backF,backId,renObj,renCell,renLeaf,pos,List.range_succ,hWo,Wo.ss,cSi3,cSi,cE,cAct]
      simp only [go_sem,hWo,intS,Int.reduceLT,Int.reduceLE,Int.reduceToNat,Int.reduceAdd,frz]
      repeat refine ⟨rfl,?_⟩
      try simp only [go_sem,intS,Int.reduceLT,Int.reduceLE,Int.reduceToNat,Int.reduceAdd,frz]
      refine ret_keep [] (by simp) (by simp) (by simp [hx,hWo]) ?_ ?_
      · simp [go_sem,L126,R126,hx,pos,hWo]
      · simp [subHeap,renObj,renCell,renLeaf,hx,pos,go_sem,hWo,List.range_succ,Wo.ss,cSi3,cSi]
    · have hs:sendW w 1 (nth w.b q)=w.setY 1 ((w.way 1) ++ [nth w.b q]):=by rw [sendW,if_neg (show ¬ (w.way 1).length=30 from h30)]
      have hb:(!decide ((w.way 1).length=30))=true:=by show (!decide (w.b.length=30))=true; simp [h30]
      rw [hs,hb] at hsd
      rw [hd,if_neg h30,if_pos rfl,hdW]
      generalize w.setY 1 ((w.way 1) ++ [nth w.b q])=w2 at *
      refine Meets.of_parts Tryz.func126 Tryz.ntmps126 low126 res126 (by simp) fun x hx=>?_
      simp only [LC.flat,L126,R126,List.cons_append,List.nil_append]
      refine WL_join 1 [0,3] 6 (fun st=>st=⟨mkE .top [(3,.rptr (cAct 4 1 (q:Int) c t)),(0,.ptr 0 0),(3,.ptr 5 0)],hWo vs vy va vb w ++ [.gone]⟩) (by simp [hx,hWo]) (by simp) ?_ ?_
      · simp only [go_sem,L126,R126,List.take_succ_cons,List.take_zero,cAct]
        rw [join_normal]
        refine ⟨by simp [hWo],_,?_,rfl⟩
        have e:=weak_rptr (x:=x) (nt:=114) (st:=⟨mkE .top [(0,.ptr 0 0),(3,.ptr 5 0)],hWo vs vy va vb w ++ [.box (cAct 4 1 (q:Int) c t)]⟩) (cells':=cAct 4 1 (q:Int) c t) (H':=hWo vs vy va vb w ++ [.gone]) 3 5 rfl rfl (by simp [cAct,frz]) (by simp [cAct,PV.isPure]) rfl
        rw [put_mk] at e
        refine weak_eqD ?_ e
        simp [trim_mk,go_sem,subHeap,renObj,renCell,renLeaf,pos,List.range_succ,hWo,Wo.ss,cSi3,cSi,cAct]
      rintro st rfl
      refine WL_walk ?_
      simp only [go_sem,L126,R126,List.drop_succ_cons,List.drop_zero,hWo,Wo.ss,cSi3,cSi,cE,cAct,intS,Int.reduceLT,Int.reduceLE,Int.reduceToNat,Int.reduceAdd,frz,List.map_cons,List.map_nil,List.cons_append,List.nil_append,hn0]
      simp only [go_sem,hn0,hnN,List.length_map,intS,Int.reduceLT,Int.reduceLE,Int.reduceToNat,Int.reduceAdd,frz]
      repeat refine ⟨rfl,?_⟩
      try simp only [go_sem,intS,Int.reduceLT,Int.reduceLE,Int.reduceToNat,Int.reduceAdd,frz,hq,hgq,cE]
      refine ops_call (.heapE [0,1,2,3,4] (r' := .bool true) (H':=hWo vs vy va' vb' w2 ++ [.gone]) hsd (by simp) (by simp) (by simp [go_sem,pos,cE]) ?_ ?_ ?_) ?_
      · skip
        simp [subHeap,renObj,renCell,renLeaf,pos,hWo,Wo.ss,cSi3,cSi]
      · simp [renT,ren,renCell,renLeaf]
      · skip
        simp [merge,mergeObj,callId,backF,backId,renObj,renCell,renLeaf,pos,List.range_succ,hWo,Wo.ss,cSi3,cSi,cE,cAct]
      simp only [go_sem,hWo,intS,Int.reduceLT,Int.reduceLE,Int.reduceToNat,Int.reduceAdd,frz]
      repeat refine ⟨rfl,?_⟩
      try simp only [go_sem,intS,Int.reduceLT,Int.reduceLE,Int.reduceToNat,Int.reduceAdd,frz]
      refine end_keep [] (by simp) (by simp) (by simp [hx,hWo]) ?_ ?_
      · simp [go_sem,L126,R126,hx,pos,hWo]
      · simp [subHeap,renObj,renCell,renLeaf,hx,pos,go_sem,hWo,List.range_succ,Wo.ss,cSi3,cSi]
theorem do_meets (vs vy va vb : Nat) (w : Wo) (h : WoOk w) (k i n c : Int) (t : ByteArray) (hi : i = 0 ∨ i = 1) (hk : ¬ (k < 1 ∨ 5 < k)) :
    ∃ va' vb',Meets Tryz.prog 126 [.ptr 0 0,.agg (cAct k i n c t)] (hWo vs vy va vb w) (.int .i64 (doErr0 w k i n c t)) (hWo vs vy va' vb' (if doErr0 w k i n c t=0 then doW w k i n c t else w)):=by
  have:k=1∨k=2∨k=3∨k=4∨k=5:=by omega
  rcases this with rfl | rfl | rfl | rfl | rfl
  · exact do1_meets vs vy va vb w h i n c t hi
  · exact do2_meets vs vy va vb w h i n c t hi
  · exact do3_meets vs vy va vb w h i n c t hi
  · exact do4_meets vs vy va vb w h i n c t hi
  · have h0:doErr0 w 5 i n c t=0:=by rw [doErr0,if_neg (by decide),if_pos rfl]; exact (allW_ok h hi).1
    refine ⟨va,vb,?_⟩
    rw [h0,if_pos rfl]
    exact do5_meets vs vy va vb w h i n c t hi
theorem extra_meets (k i n c:Int) (t:ByteArray):Meets Tryz.prog 125 [.agg (cAct k i n c t)] [] (.bool (extraB k n c t)) []:=by
 have ht:decide (t=⟨#[]⟩)=decide (t.size=0):=by
  rw [Bool.eq_iff_iff,decide_eq_true_eq,decide_eq_true_eq]
  constructor
  ·
   intro h; rw [h]; rfl
  ·
   intro h; exact ByteArray.ext (Array.eq_empty_of_size_eq_zero h)
 refine Meets.of_walk Tryz.func125 Tryz.ntmps125 low125 res125 (by simp) fun x hx=>?_
 by_cases k1:k=1
 ·
  subst k1
  by_cases n0:n=0
  ·
   simp only [go_sem,L125,R125,cAct,intS,Int.reduceLT,Int.reduceLE,Int.reduceToNat,Int.reduceAdd,frz,n0]
   repeat refine ⟨rfl,?_⟩
   refine ret_pure hx ?_
   simp [go_sem,L125,R125,extraB,n0]
  ·
   simp only [go_sem,L125,R125,cAct,intS,Int.reduceLT,Int.reduceLE,Int.reduceToNat,Int.reduceAdd,frz,n0]
   repeat refine ⟨rfl,?_⟩
   refine ret_pure hx ?_
   simp [go_sem,L125,R125,extraB,n0]
 ·
  by_cases c0:c=0
  ·
   by_cases t0:t.size=0
   ·
    by_cases k5:k=5
    ·
     subst k5
     by_cases n0:n=0
     ·
      simp only [go_sem,L125,R125,cAct,intS,Int.reduceLT,Int.reduceLE,Int.reduceToNat,Int.reduceAdd,frz,n0,c0,ht,t0]
      repeat refine ⟨rfl,?_⟩
      refine ret_pure hx ?_
      simp [go_sem,L125,R125,extraB,n0,t0]
     ·
      simp only [go_sem,L125,R125,cAct,intS,Int.reduceLT,Int.reduceLE,Int.reduceToNat,Int.reduceAdd,frz,n0,c0,ht,t0]
      repeat refine ⟨rfl,?_⟩
      refine ret_pure hx ?_
      simp [go_sem,L125,R125,extraB,n0,t0]
    ·
     simp only [go_sem,L125,R125,cAct,intS,Int.reduceLT,Int.reduceLE,Int.reduceToNat,Int.reduceAdd,frz,k1,k5,c0,ht,t0]
     repeat refine ⟨rfl,?_⟩
     refine ret_pure hx ?_
     simp [go_sem,L125,R125,extraB,k1,k5,t0]
   ·
    simp only [go_sem,L125,R125,cAct,intS,Int.reduceLT,Int.reduceLE,Int.reduceToNat,Int.reduceAdd,frz,k1,c0,ht,t0]
    repeat refine ⟨rfl,?_⟩
    refine ret_pure hx ?_
    simp [go_sem,L125,R125,extraB,k1,t0]
  ·
   simp only [go_sem,L125,R125,cAct,intS,Int.reduceLT,Int.reduceLE,Int.reduceToNat,Int.reduceAdd,frz,k1,c0]
   repeat refine ⟨rfl,?_⟩
   refine ret_pure hx ?_
   simp [go_sem,L125,R125,extraB,k1,c0]
end Go.Proofs.YtfdolehffjmdmaaGreatDoor
/- Worlds: an act in a right world: a contract. -/
namespace Go.Proofs.YtfdolehffjmdmaaGreatDoor
set_option linter.unusedSimpArgs false
set_option linter.unusedVariables false
open Go.RowKit
def cWo (w:Wo):List PV:=cWd w.ss w.ys
def cWoN:List PV := [.list [],.list []]
def doC (w:Wo) (k i n c:Int) (t:ByteArray):List PV:=if doErr w k i n c t=0 then cWo (doW w k i n c t) else cWoN
set_option maxRecDepth 10000 in
set_option maxHeartbeats 4000000 in
theorem raw_meets (w:Wo) (h:WoOk w) (k i n c:Int) (t:ByteArray):Meets Tryz.prog 80 [.agg (cWo w),.agg (cAct k i n c t)] [] (.tup [.agg (doC w k i n c t),.int .i64 (doErr w k i n c t)]) []:=by
  refine Meets.of_walk Tryz.func80 Tryz.ntmps80 low80 res80 (by simp) fun x hx=>?_
  have hown:=woOwn_meets w h
  simp only [go_sem,L80,R80,cWo,cWd,cAct,intS,Int.reduceLT,Int.reduceLE,Int.reduceToNat,Int.reduceAdd,frz]
  refine ops_call (.heapE [] (r' := .ptr 3 0) (H' := [.box (cWo w),.box (cAct k i n c t),.box [.nilsl,.nilsl],.box [.arr 4 2,.arr 5 2],.arr 2 true false 49 3 (w.ss.map cSi3),.arr 2 true true 22 1 [[.arr 6 w.a.length],[.arr 7 w.b.length]],.arr w.a.length true false 46 5 (w.a.map cE),.arr w.b.length true false 46 5 (w.b.map cE)]) hown (by simp) (by simp) (by simp [go_sem,cWo,cWd]) rfl rfl rfl) ?_
  by_cases hk:k < 1∨5 < k
  · have e:doErr w k i n c t=7:=by rw [doErr,if_pos hk]
    rcases hk with hk | hk
    · simp only [go_sem,hk,intS,Int.reduceLT,Int.reduceLE,Int.reduceToNat,Int.reduceAdd,frz,cAct]
      refine ret_pure hx ?_
      simp [go_sem,L80,R80,doC,e,cWoN]
    · have hk1:¬ k < 1:=by omega
      simp only [go_sem,hk,hk1,intS,Int.reduceLT,Int.reduceLE,Int.reduceToNat,Int.reduceAdd,frz,cAct]
      refine ret_pure hx ?_
      simp [go_sem,L80,R80,doC,e,cWoN]
  · have hk1:¬ k < 1:=by omega
    have hk2:¬ 5 < k:=by omega
    simp only [go_sem,hk1,hk2,intS,Int.reduceLT,Int.reduceLE,Int.reduceToNat,Int.reduceAdd,frz,cAct]
    refine ops_call (.pureE (extra_meets k i n c t) (by simp [go_sem,cAct])) ?_
    cases hx2:extraB k n c t
    · by_cases hi:i=0∨i=1
      · have e:doErr w k i n c t=doErr0 w k i n c t:=by rw [doErr,if_neg hk,if_neg (by simp [hx2]),if_neg (by simp [hi])]
        obtain ⟨va',vb',hdo⟩:=do_meets 2 2 w.a.length w.b.length w h k i n c t hi hk
        have hi0:(¬ i=0∧¬ i=1)=False:=by simp; omega
        have hcall : CallTo Tryz.prog 126 [.ptr 3 0, .agg (cAct k i n c t)] ([.box (cWo w), .box (cAct k i n c t), .box [.nilsl, .nilsl], .box [.arr 4 2, .arr 5 2], .arr 2 true false 49 3 (w.ss.map cSi3), .arr 2 true true 22 1 [[.arr 6 w.a.length], [.arr 7 w.b.length]], .arr w.a.length true false 46 5 (w.a.map cE), .arr w.b.length true false 46 5 (w.b.map cE)]) true (.int .i64 (doErr0 w k i n c t))
            ([.box (cWo w),.box (cAct k i n c t),.box [.nilsl,.nilsl],.box [.arr 4 2,.arr 5 2],.arr 2 true false 49 3 ((if doErr0 w k i n c t=0 then doW w k i n c t else w).ss.map cSi3),.arr 2 true true 22 1 [[.arr 6 va'],[.arr 7 vb']],.arr va' true false 46 5 ((if doErr0 w k i n c t=0 then doW w k i n c t else w).a.map cE),.arr vb' true false 46 5 ((if doErr0 w k i n c t=0 then doW w k i n c t else w).b.map cE)]):=by
          refine .heapE [3,4,5,6,7] hdo (by simp) (by simp) (by simp [go_sem,pos,cAct]) ?_ ?_ ?_
          · simp [subHeap,renObj,renCell,renLeaf,pos,hWo]
          · simp [renT,ren,renCell,renLeaf]
          · simp [merge,mergeObj,callId,backF,backId,renObj,renCell,renLeaf,pos,List.range_succ,hWo,cAct]
        by_cases h0:doErr0 w k i n c t=0
        · rw [if_pos h0,h0] at hcall
          have eW:doC w k i n c t=cWo (doW w k i n c t):=by rw [doC,e,if_pos h0]
          rw [eW,e,h0]
          generalize doW w k i n c t=w2 at *
          rcases hi with rfl | rfl
          · skip
            simp only [go_sem,intS,Int.reduceLT,Int.reduceLE,Int.reduceToNat,Int.reduceAdd,frz,cAct]
            refine ops_call hcall ?_
            simp only [go_sem,intS,Int.reduceLT,Int.reduceLE,Int.reduceToNat,Int.reduceAdd,frz]
            refine ret_weak (weak_shut 6 rfl) ?_
            refine ret_weak (weak_shut 7 rfl) ?_
            refine ret_weak (weak_pu 5 rfl rfl (by simp [frz,PV.isPure])) ?_
            refine ret_weak (weak_shut 4 rfl) ?_
            refine ret_pure hx ?_
            simp [go_sem,L80,R80,cWo,cWd,cYs,Wo.ys,frzAt,pos,frz]
          · skip
            simp only [go_sem,intS,Int.reduceLT,Int.reduceLE,Int.reduceToNat,Int.reduceAdd,frz,cAct]
            refine ops_call hcall ?_
            simp only [go_sem,intS,Int.reduceLT,Int.reduceLE,Int.reduceToNat,Int.reduceAdd,frz]
            refine ret_weak (weak_shut 6 rfl) ?_
            refine ret_weak (weak_shut 7 rfl) ?_
            refine ret_weak (weak_pu 5 rfl rfl (by simp [frz,PV.isPure])) ?_
            refine ret_weak (weak_shut 4 rfl) ?_
            refine ret_pure hx ?_
            simp [go_sem,L80,R80,cWo,cWd,cYs,Wo.ys,frzAt,pos,frz]
        · rw [if_neg h0] at hcall
          have eW:doC w k i n c t=cWoN:=by rw [doC,e,if_neg h0]
          rw [eW,e]
          rcases hi with rfl | rfl
          · skip
            simp only [go_sem,intS,Int.reduceLT,Int.reduceLE,Int.reduceToNat,Int.reduceAdd,frz,cAct]
            refine ops_call hcall ?_
            simp only [go_sem,intS,Int.reduceLT,Int.reduceLE,Int.reduceToNat,Int.reduceAdd,frz,h0]
            refine ret_pure hx ?_
            simp [go_sem,L80,R80,cWoN]
          · skip
            simp only [go_sem,intS,Int.reduceLT,Int.reduceLE,Int.reduceToNat,Int.reduceAdd,frz,cAct]
            refine ops_call hcall ?_
            simp only [go_sem,intS,Int.reduceLT,Int.reduceLE,Int.reduceToNat,Int.reduceAdd,frz,h0]
            refine ret_pure hx ?_
            simp [go_sem,L80,R80,cWoN]
      · have e:doErr w k i n c t=3:=by rw [doErr,if_neg hk,if_neg (by simp [hx2]),if_pos hi]
        have hi0:¬ i=0:=by omega
        have hi1:¬ i=1:=by omega
        simp only [go_sem,hi0,hi1,intS,Int.reduceLT,Int.reduceLE,Int.reduceToNat,Int.reduceAdd,frz]
        refine ret_pure hx ?_
        simp [go_sem,L80,R80,doC,e,cWoN]
    · have e:doErr w k i n c t=1:=by rw [doErr,if_neg hk,if_pos hx2]
      simp only [go_sem,intS,Int.reduceLT,Int.reduceLE,Int.reduceToNat,Int.reduceAdd,frz]
      refine ret_pure hx ?_
      simp [go_sem,L80,R80,doC,e,cWoN]
end Go.Proofs.YtfdolehffjmdmaaGreatDoor
/- Worlds: Do,Settle,New: contracts. -/
namespace Go.Proofs.YtfdolehffjmdmaaGreatDoor
set_option linter.unusedSimpArgs false
set_option linter.unusedVariables false
open Go.RowKit
theorem okSs_of {w:Wo} (h:WoOk w):okSs w.ss∧okYs w.ys:=by
 have a:=(h.log (i:=0) (.inl rfl)).len
 have b:=(h.log (i:=1) (.inr rfl)).len
 have a:w.p.length≤40:=a
 have b:w.q.length≤40:=b
 obtain ⟨-,-,-,-,-,-,-,c⟩:=si_pre h.s0
 obtain ⟨-,-,-,-,-,-,-,d⟩:=si_pre h.s1
 have la:=h.la
 have lb:=h.lb
 refine ⟨fun s hs=>?_,fun l hl=>?_⟩
 ·
  simp only [Wo.ss,List.mem_cons,List.not_mem_nil,or_false] at hs
  rcases hs with rfl | rfl
  ·
   simp only; omega
  ·
   simp only; omega
 ·
  simp only [Wo.ys,List.mem_cons,List.not_mem_nil,or_false] at hl
  rcases hl with rfl | rfl
  ·
   omega
  ·
   omega
theorem doC_cWd (w:Wo) (k i n c:Int) (t:ByteArray):∃ ds dy,doC w k i n c t=cWd ds dy:=by
 unfold doC
 split
 ·
  exact ⟨_,_,rfl⟩
 ·
  exact ⟨[],[],rfl⟩
theorem woDo_ok (w : Wo) (h : WoOk w) (k i n c : Int) (t : ByteArray) :
    Meets Tryz.prog 36 [.agg (cWo w),.agg (cAct k i n c t)] [] (.tup [.agg (doC w k i n c t),.int .i64 (doErr w k i n c t)]) []:=by
  obtain ⟨o1,o2⟩:=okSs_of h
  refine Meets.of_walk Tryz.func36 Tryz.ntmps36 low36 res36 (by simp) fun x hx=>?_
  simp only [go_sem,L36,R36,cWo,cWd,cAct]
  refine ops_call (.pureE (worldCheck_meets w.ss w.ys (by simp [Wo.ss]) (by simp [Wo.ys]) o1 o2) (by simp [go_sem,cWd])) ?_
  rw [woErr_ok.2 h]
  simp only [go_sem,intS,Int.reduceLT,Int.reduceLE,Int.reduceToNat,Int.reduceAdd,frz,cWo,cWd,cAct]
  have hraw:=raw_meets w h k i n c t
  obtain ⟨ds,dy,hq⟩:=doC_cWd w k i n c t
  rw [hq] at hraw ⊢
  refine ops_call (.pureE hraw (by simp [go_sem,cWo,cWd,cAct])) ?_
  simp only [go_sem,cWd]
  refine ret_pure hx ?_
  simp [go_sem,L36,R36,cWd]
def hS2 (w0 w:Wo):List AObj := [.box (cWo w0),.box [.nilsl,.nilsl],.box [.arr 3 2,.arr 4 2],.arr 2 true false 49 3 (w.ss.map cSi3),.arr 2 true true 22 1 [[.arr 5 w0.a.length],[.arr 6 w0.b.length]],.arr w0.a.length true false 46 5 (w.a.map cE),.arr w0.b.length true false 46 5 (w.b.map cE)]
set_option maxHeartbeats 4000000 in
theorem settle_ok (w:Wo) (h:WoOk w):Meets Tryz.prog 34 [.agg (cWo w)] [] (.tup [.agg (cWo (stW w)),.int .i64 0]) []:=by
  obtain ⟨o1,o2⟩:=okSs_of h
  have hown:=woOwn_meets w h
  have k1:IntKind.i64.wrap 1=1:=by decide
  have k2:IntKind.i64.wrap 2=2:=by decide
  obtain ⟨-,a2,-,-,-⟩:=allW_ok h (.inl rfl)
  have hal0:=woAll_meets 2 2 w.a.length w.b.length w 0 (.inl rfl) h.s0 (h.log (.inr rfl))
  have hal1:Meets Tryz.prog 79 [.ptr 0 0,.int .i64 1] (hWo 2 2 w.a.length w.b.length (w.setS 0 (allW w 0).2)) (.int .i64 0) (hWo 2 2 w.a.length w.b.length (stW w)):=woAll_meets 2 2 w.a.length w.b.length (w.setS 0 (allW w 0).2) 1 (.inr rfl) (a2.si (.inr rfl)) (a2.log (.inl rfl))
  refine Meets.of_walk Tryz.func34 Tryz.ntmps34 low34 res34 (by simp) fun x hx=>?_
  simp only [go_sem,L34,R34,cWo,cWd]
  refine ops_call (.pureE (worldCheck_meets w.ss w.ys (by simp [Wo.ss]) (by simp [Wo.ys]) o1 o2) (by simp [go_sem,cWd])) ?_
  rw [woErr_ok.2 h]
  simp only [go_sem,intS,Int.reduceLT,Int.reduceLE,Int.reduceToNat,Int.reduceAdd,frz,cWo,cWd]
  refine ops_call (.heapE [] (r' := .ptr 2 0) (H':=hS2 w w) hown (by simp) (by simp) (by simp [go_sem,cWd]) rfl rfl rfl) ?_
  simp only [go_sem,intS,Int.reduceLT,Int.reduceLE,Int.reduceToNat,Int.reduceAdd,frz]
  refine loop_keep [2, 5, 16] (fun m st => (m = 2 ∧ st = ⟨mkE .top [(2, .ptr 1 0), (5, .ptr 2 0), (16, .int .i64 0)], hS2 w w⟩) ∨
      (m=1∧st=⟨mkE .top [(2,.ptr 1 0),(5,.ptr 2 0),(16,.int .i64 1)],hS2 w (w.setS 0 (allW w 0).2)⟩) ∨
      (m=0∧st=⟨mkE .top [(2,.ptr 1 0),(5,.ptr 2 0),(16,.int .i64 2)],hS2 w (stW w)⟩)) 2 ?_ ?_
  · refine .inl ⟨rfl,?_⟩
    simp [keep_mk,go_sem]
  · rintro m st (⟨rfl,rfl⟩ | ⟨rfl,rfl⟩ | ⟨rfl,rfl⟩)
    · skip
      have hcall:CallTo Tryz.prog 79 [.ptr 2 0,.int .i64 0] (hS2 w w) true (.int .i64 0) (hS2 w (w.setS 0 (allW w 0).2)):=by
        refine .heapE [2,3,4,5,6] (hal0) (by simp) (by simp [hS2]) (by simp [go_sem,pos]) ?_ ?_ ?_
        · simp [subHeap,renObj,renCell,renLeaf,pos,hWo,hS2]
        · simp [renT,ren,renCell,renLeaf]
        · simp [merge,mergeObj,callId,backF,backId,renObj,renCell,renLeaf,pos,List.range_succ,hWo,hS2]
      simp only [go_sem,hS2,intS,Int.reduceLT,Int.reduceLE,Int.reduceToNat,Int.reduceAdd,frz]
      refine ops_call hcall ?_
      simp only [go_sem,hS2,intS,Int.reduceLT,Int.reduceLE,Int.reduceToNat,Int.reduceAdd,frz,k1,k2]
      refine ⟨1,by omega,.inr (.inl ⟨rfl,?_⟩)⟩
      simp [keep_mk,go_sem,hS2]
    · skip
      have hcall:CallTo Tryz.prog 79 [.ptr 2 0,.int .i64 1] (hS2 w (w.setS 0 (allW w 0).2)) true (.int .i64 0) (hS2 w (stW w)):=by
        refine .heapE [2,3,4,5,6] (hal1) (by simp) (by simp [hS2]) (by simp [go_sem,pos]) ?_ ?_ ?_
        · simp [subHeap,renObj,renCell,renLeaf,pos,hWo,hS2]
        · simp [renT,ren,renCell,renLeaf]
        · simp [merge,mergeObj,callId,backF,backId,renObj,renCell,renLeaf,pos,List.range_succ,hWo,hS2]
      simp only [go_sem,hS2,intS,Int.reduceLT,Int.reduceLE,Int.reduceToNat,Int.reduceAdd,frz]
      refine ops_call hcall ?_
      simp only [go_sem,hS2,intS,Int.reduceLT,Int.reduceLE,Int.reduceToNat,Int.reduceAdd,frz,k1,k2]
      refine ⟨0,by omega,.inr (.inr ⟨rfl,?_⟩)⟩
      simp [keep_mk,go_sem,hS2]
    · generalize stW w=w2 at *
      simp only [go_sem,hS2,intS,Int.reduceLT,Int.reduceLE,Int.reduceToNat,Int.reduceAdd,frz]
      refine ret_weak (weak_shut 5 rfl) ?_
      refine ret_weak (weak_shut 6 rfl) ?_
      refine ret_weak (weak_pu 4 rfl rfl (by simp [frz,PV.isPure])) ?_
      refine ret_weak (weak_shut 3 rfl) ?_
      refine ret_pure hx ?_
      simp [go_sem,L34,R34,cWo,cWd,cYs,Wo.ys,frzAt,pos,frz]
def wNew:Wo:=⟨[],[],[],[],[],[]⟩
theorem woNew_meets:Meets Tryz.prog 35 [] [] (.agg (cWo wNew)) []:=by
 have h0:Meets Tryz.prog 35 [] [] (.agg [.list [[.int .i64 0,.nilsl,.nilsl],[.int .i64 1,.nilsl,.nilsl]],.list [[.nilsl],[.nilsl]]]) []:=by
  refine Meets.of_walk Tryz.func35 Tryz.ntmps35 low35 res35 (by simp) fun x hx=>?_
  simp only [go_sem,L35,R35,intS,Int.reduceLT,Int.reduceLE,Int.reduceToNat,Int.reduceAdd,frz,Int.reduceMul,Int.le_refl]
  change retQ _ _ _ _ _ .ret _
  refine ret_weak (weak_shut 1 rfl) ?_
  refine ret_pure hx ?_
  simp [go_sem,L35,R35,frzAt,pos]
 exact Meets.nl 4 h0 rfl
end Go.Proofs.YtfdolehffjmdmaaGreatDoor
/- Worlds,in the law text's words: SameWorld at one world twice,worldIs,CheckWorld: contracts. -/
namespace Go.Proofs.YtfdolehffjmdmaaGreatDoor
set_option linter.unusedSimpArgs false
set_option linter.unusedVariables false
open Go.RowKit
theorem cYs_get {ys:List (List Entry)} {k:Nat} (h:k < ys.length):(cYs ys)[k]? = some [.list ((nth ys k).map cE)]:=by
 unfold cYs; rw [List.getElem?_map,nth_get? _ _ h]; rfl
theorem cYs_len (ys:List (List Entry)):(cYs ys).length=ys.length:=by simp [cYs]
theorem sameWorld_meets (ss:List Si) (ys:List (List Entry)) (hs:ss.length≤1000000000000000) (hy:ys.length≤1000000000000000) (ho:okSs ss) (hoy:okYs ys):Meets Tryz.prog 37 [.agg (cWd ss ys),.agg (cWd ss ys)] [] (.bool true) []:=by
 refine Meets.of_walk Tryz.func37 Tryz.ntmps37 low37 res37 (by simp) fun x hx=>?_
 simp only [go_sem,L37,R37,cWd,cYs_len]
 refine loop_inv [2,3,5] 2 (fun m st=>∃ k:Nat,k + m=ss.length ∧
  st=⟨mkE .top [(2,.ptr 0 0),(3,.ptr 1 0),(5,.int .i64 k)],[.box (cWd ss ys),.box (cWd ss ys)]⟩) ss.length (by simp [hx]) (by simp) ?_ ?_
 ·
  refine ⟨0,by omega,?_⟩
  simp [trim_mk,go_sem,subHeap,renObj,pos,List.range_succ,cWd]
 ·
  rintro m st ⟨k,hk,rfl⟩
  by_cases hlt:k < ss.length
  ·
   have hg:ss[k]? = some (nth ss k):=nth_get? _ _ hlt
   have wk:=i64_up (k:=k) (by omega)
   obtain ⟨l1,l2⟩:=nthS hlt ho
   simp only [go_sem,hlt,hg,cSi3,cSi,cWd]
   refine ops_call (.pureE (sameSite_meets (nth ss k) (by omega) (by omega)) (by simp [go_sem,cSi3,cSi])) ?_
   simp only [go_sem,wk]
   repeat refine ⟨rfl,?_⟩
   refine ⟨by simp,m - 1,by omega,k + 1,by omega,?_⟩
   simp [trim_mk,go_sem,subHeap,renObj,pos,List.range_succ,cWd]
  ·
   simp only [go_sem,hlt,cWd]
   refine loop_inv [2,3,6] 2 (fun m st=>∃ k:Nat,k + m=ys.length ∧
    st=⟨mkE .top [(2,.ptr 0 0),(3,.ptr 1 0),(6,.int .i64 k)],[.box (cWd ss ys),.box (cWd ss ys)]⟩) ys.length (by simp [hx]) (by simp) ?_ ?_
   ·
    refine ⟨0,by omega,?_⟩
    simp [trim_mk,go_sem,subHeap,renObj,pos,List.range_succ,cWd]
   ·
    rintro m st ⟨k,hk,rfl⟩
    by_cases hlt:k < ys.length
    ·
     have wk:=i64_up (k:=k) (by omega)
     have l1:=nthY hlt hoy
     have hlt':k < (cYs ys).length:=by rw [cYs_len]; exact hlt
     simp only [go_sem,hlt,hlt',cYs_get hlt,cYs_len,cWd]
     refine ops_call (.pureE (sameLog_meets (nth ys k) (by omega)) (by simp [go_sem])) ?_
     simp only [go_sem,wk]
     repeat refine ⟨rfl,?_⟩
     refine ⟨by simp,m - 1,by omega,k + 1,by omega,?_⟩
     simp [trim_mk,go_sem,subHeap,renObj,pos,List.range_succ,cWd]
    ·
     simp only [go_sem,hlt,cYs_len,cWd]
     refine ret_pure hx ?_
     simp [go_sem,L37,R37]
end Go.Proofs.YtfdolehffjmdmaaGreatDoor
