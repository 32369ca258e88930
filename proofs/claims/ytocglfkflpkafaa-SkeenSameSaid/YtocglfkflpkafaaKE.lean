/- Joined texts of this claim: K20 K21 K22 L19 K23 L20 K24 K25 K26 K27 L21 Open Op1 Op2 Op6. -/
import Derived.Test.YtocglfkflpkafaaKD
import Derived.Test.YtocglfkflpkafaaProg
import Derived.Test.YtocglfkflpkafaaKB
import Derived.ProofKit
import Derived.OpenShut
import Derived.Carry
import Derived.SizedLaws
import Derived.Test.YtocglfkflpkafaaKC
set_option linter.unusedSimpArgs false
set_option linter.unusedVariables false
set_option linter.unusedSectionVars false
/- AllOf, in the law text's words: a contract. -/
namespace Go.Proofs.Ytocglfkflpkafaa
set_option linter.unusedSimpArgs false
set_option linter.unusedVariables false
open Go.RowKit
theorem rK_row (l : List KS) : ∀ row ∈ l.map rK, row.length = 3 := fun row h => by
  obtain ⟨w, -, rfl⟩ := List.mem_map.1 h; rfl
theorem allOf_other (l : List KS) (n c : Int) (h : l.length ≠ 3) : Meets Try.prog 12 [.list (l.map rK), .int .i64 n, .int .i64 c] [] (.tup [.list [], .int .i64 1]) [] := by
  refine Meets.of_walk Try.func12 Try.ntmps12 low12 res12 (by simp) fun x hx => ?_
  have h' : ¬ ((l.length : Int) = 3) := by omega
  simp only [go_sem, Nat.reduceLT, Nat.reduceAdd, Nat.reduceEqDiff, Nat.reduceLeDiff, Nat.reduceSub, Nat.reduceMul, Int.reduceEq, eq_self, reduceIte, L12, R12, h']
  refine ret_pure hx ?_
  simp [go_sem, Nat.reduceLT, Nat.reduceAdd, Nat.reduceEqDiff, Nat.reduceLeDiff, Nat.reduceSub, Nat.reduceMul, Int.reduceEq, eq_self, reduceIte, L12, R12]
theorem checkServerK_meets (s : KS) (hw : s.ws.length * 24 ≤ 140737488355328) (hd : s.ds.length * 8 ≤ 140737488355328) : Meets Try.prog 9 [.agg (rK s)] [] (.int .i64 (svErr s.c s.ws s.ds)) [] := checkServer_meets s.c s.ws s.ds (by omega) (by omega)
set_option maxHeartbeats 8000000 in
theorem allOf_meets (T : Nat → KS) (n c : Int) (hwl : ∀ j, (T j).ws.length * 24 ≤ 140737488355328 ∧ (T j).ds.length * 8 ≤ 140737488355328) :
    Meets Try.prog 12 [.list [rK (T 0), rK (T 1), rK (T 2)], .int .i64 n, .int .i64 c] [] (.tup [.list (allRows n c T), .int .i64 (allE n c T)]) [] := by
  refine Meets.of_walk Try.func12 Try.ntmps12 low12 res12 (by simp) fun x hx => ?_
  simp only [go_sem, Nat.reduceLT, Nat.reduceAdd, Nat.reduceEqDiff, Nat.reduceLeDiff, Nat.reduceSub, Nat.reduceMul, Int.reduceEq, eq_self, reduceIte, L12, R12, Int.cast_ofNat_Int, Int.natCast_zero]
  refine loop_inv [0, 1, 2, 8] 0 (fun m st => ∃ k : Nat, m + k = 3 ∧ (∀ j, j < k → okK (T j)) ∧
    st = ⟨mkE .top [(0, .list [rK (T 0), rK (T 1), rK (T 2)]), (1, .int .i64 n), (2, .int .i64 c), (8, .int .i64 k)], []⟩) 3 (by simp [hx]) (by simp) ?_ ?_
  · refine ⟨0, rfl, fun j hj => by omega, ?_⟩
    simp [trim_mk, go_sem, Nat.reduceLT, Nat.reduceAdd, Nat.reduceEqDiff, Nat.reduceLeDiff, Nat.reduceSub, Nat.reduceMul, Int.reduceEq, eq_self, reduceIte, subHeap, renObj, pos]
  · rintro m st ⟨k, hmk, hok, rfl⟩
    have hk : k = 0 ∨ k = 1 ∨ k = 2 ∨ k = 3 := by omega
    rcases hk with rfl | rfl | rfl | rfl
    · skip
      simp only [go_sem, Nat.reduceLT, Nat.reduceAdd, Nat.reduceEqDiff, Nat.reduceLeDiff, Nat.reduceSub, Nat.reduceMul, Int.reduceEq, eq_self, reduceIte, rK, cSv, Int.ofNat_zero, Int.natCast_one, Int.cast_ofNat_Int, Int.reduceLT, Int.reduceLE, Int.reduceToNat, Nat.reduceLT, Int.toNat_zero, Int.natCast_zero, Int.le_refl, Int.lt_irrefl, Int.reduceAdd, frz, false_or, or_true]
      refine ops_call (.pureE (checkServerK_meets (T 0) (hwl 0).1 (hwl 0).2) (by simp [go_sem, Nat.reduceLT, Nat.reduceAdd, Nat.reduceEqDiff, Nat.reduceLeDiff, Nat.reduceSub, Nat.reduceMul, Int.reduceEq, eq_self, reduceIte, rK, cSv])) ?_
      by_cases h0 : svErr (T 0).c (T 0).ws (T 0).ds = 0
      · simp only [go_sem, Nat.reduceLT, Nat.reduceAdd, Nat.reduceEqDiff, Nat.reduceLeDiff, Nat.reduceSub, Nat.reduceMul, Int.reduceEq, eq_self, reduceIte, h0, Int.ofNat_zero, Int.natCast_one, Int.cast_ofNat_Int, Int.reduceLT, Int.reduceLE, Int.reduceToNat, Nat.reduceLT, Int.toNat_zero, Int.natCast_zero, Int.le_refl, Int.lt_irrefl, Int.reduceAdd, frz, false_or, or_true, wr1, wr2, wr3]
        refine ⟨by simp, 2 - 0, by omega, 0 + 1, by omega, fun j hj => ?_, ?_⟩
        · by_cases e : j = 0
          · subst e; exact h0
          · exact hok j (by omega)
        · simp [trim_mk, go_sem, Nat.reduceLT, Nat.reduceAdd, Nat.reduceEqDiff, Nat.reduceLeDiff, Nat.reduceSub, Nat.reduceMul, Int.reduceEq, eq_self, reduceIte, subHeap, renObj, pos, wr1, wr2, wr3, rK, cSv]
      · have e : okE3 T = svErr (T 0).c (T 0).ws (T 0).ds := by
          unfold okE3
          rw [if_pos h0]
        have e2 : allE n c T = svErr (T 0).c (T 0).ws (T 0).ds := by rw [allE, if_pos (by rw [e]; exact h0), e]
        simp only [go_sem, Nat.reduceLT, Nat.reduceAdd, Nat.reduceEqDiff, Nat.reduceLeDiff, Nat.reduceSub, Nat.reduceMul, Int.reduceEq, eq_self, reduceIte, h0]
        refine ret_pure hx ?_
        simp [go_sem, Nat.reduceLT, Nat.reduceAdd, Nat.reduceEqDiff, Nat.reduceLeDiff, Nat.reduceSub, Nat.reduceMul, Int.reduceEq, eq_self, reduceIte, L12, R12, allRows, e2, h0]
    · skip
      simp only [go_sem, Nat.reduceLT, Nat.reduceAdd, Nat.reduceEqDiff, Nat.reduceLeDiff, Nat.reduceSub, Nat.reduceMul, Int.reduceEq, eq_self, reduceIte, rK, cSv, Int.ofNat_zero, Int.natCast_one, Int.cast_ofNat_Int, Int.reduceLT, Int.reduceLE, Int.reduceToNat, Nat.reduceLT, Int.toNat_zero, Int.natCast_zero, Int.le_refl, Int.lt_irrefl, Int.reduceAdd, frz, false_or, or_true]
      refine ops_call (.pureE (checkServerK_meets (T 1) (hwl 1).1 (hwl 1).2) (by simp [go_sem, Nat.reduceLT, Nat.reduceAdd, Nat.reduceEqDiff, Nat.reduceLeDiff, Nat.reduceSub, Nat.reduceMul, Int.reduceEq, eq_self, reduceIte, rK, cSv])) ?_
      by_cases h0 : svErr (T 1).c (T 1).ws (T 1).ds = 0
      · simp only [go_sem, Nat.reduceLT, Nat.reduceAdd, Nat.reduceEqDiff, Nat.reduceLeDiff, Nat.reduceSub, Nat.reduceMul, Int.reduceEq, eq_self, reduceIte, h0, Int.ofNat_zero, Int.natCast_one, Int.cast_ofNat_Int, Int.reduceLT, Int.reduceLE, Int.reduceToNat, Nat.reduceLT, Int.toNat_zero, Int.natCast_zero, Int.le_refl, Int.lt_irrefl, Int.reduceAdd, frz, false_or, or_true, wr1, wr2, wr3]
        refine ⟨by simp, 2 - 1, by omega, 1 + 1, by omega, fun j hj => ?_, ?_⟩
        · by_cases e : j = 1
          · subst e; exact h0
          · exact hok j (by omega)
        · simp [trim_mk, go_sem, Nat.reduceLT, Nat.reduceAdd, Nat.reduceEqDiff, Nat.reduceLeDiff, Nat.reduceSub, Nat.reduceMul, Int.reduceEq, eq_self, reduceIte, subHeap, renObj, pos, wr1, wr2, wr3, rK, cSv]
      · have e : okE3 T = svErr (T 1).c (T 1).ws (T 1).ds := by
          unfold okE3
          rw [if_neg (by have := hok 0 (by decide); simp [okK] at this; simp [this]), if_pos h0]
        have e2 : allE n c T = svErr (T 1).c (T 1).ws (T 1).ds := by rw [allE, if_pos (by rw [e]; exact h0), e]
        simp only [go_sem, Nat.reduceLT, Nat.reduceAdd, Nat.reduceEqDiff, Nat.reduceLeDiff, Nat.reduceSub, Nat.reduceMul, Int.reduceEq, eq_self, reduceIte, h0]
        refine ret_pure hx ?_
        simp [go_sem, Nat.reduceLT, Nat.reduceAdd, Nat.reduceEqDiff, Nat.reduceLeDiff, Nat.reduceSub, Nat.reduceMul, Int.reduceEq, eq_self, reduceIte, L12, R12, allRows, e2, h0]
    · skip
      simp only [go_sem, Nat.reduceLT, Nat.reduceAdd, Nat.reduceEqDiff, Nat.reduceLeDiff, Nat.reduceSub, Nat.reduceMul, Int.reduceEq, eq_self, reduceIte, rK, cSv, Int.ofNat_zero, Int.natCast_one, Int.cast_ofNat_Int, Int.reduceLT, Int.reduceLE, Int.reduceToNat, Nat.reduceLT, Int.toNat_zero, Int.natCast_zero, Int.le_refl, Int.lt_irrefl, Int.reduceAdd, frz, false_or, or_true]
      refine ops_call (.pureE (checkServerK_meets (T 2) (hwl 2).1 (hwl 2).2) (by simp [go_sem, Nat.reduceLT, Nat.reduceAdd, Nat.reduceEqDiff, Nat.reduceLeDiff, Nat.reduceSub, Nat.reduceMul, Int.reduceEq, eq_self, reduceIte, rK, cSv])) ?_
      by_cases h0 : svErr (T 2).c (T 2).ws (T 2).ds = 0
      · simp only [go_sem, Nat.reduceLT, Nat.reduceAdd, Nat.reduceEqDiff, Nat.reduceLeDiff, Nat.reduceSub, Nat.reduceMul, Int.reduceEq, eq_self, reduceIte, h0, Int.ofNat_zero, Int.natCast_one, Int.cast_ofNat_Int, Int.reduceLT, Int.reduceLE, Int.reduceToNat, Nat.reduceLT, Int.toNat_zero, Int.natCast_zero, Int.le_refl, Int.lt_irrefl, Int.reduceAdd, frz, false_or, or_true, wr1, wr2, wr3]
        refine ⟨by simp, 2 - 2, by omega, 2 + 1, by omega, fun j hj => ?_, ?_⟩
        · by_cases e : j = 2
          · subst e; exact h0
          · exact hok j (by omega)
        · simp [trim_mk, go_sem, Nat.reduceLT, Nat.reduceAdd, Nat.reduceEqDiff, Nat.reduceLeDiff, Nat.reduceSub, Nat.reduceMul, Int.reduceEq, eq_self, reduceIte, subHeap, renObj, pos, wr1, wr2, wr3, rK, cSv]
      · have e : okE3 T = svErr (T 2).c (T 2).ws (T 2).ds := by
          unfold okE3
          rw [if_neg (by have := hok 0 (by decide); simp [okK] at this; simp [this]), if_neg (by have := hok 1 (by decide); simp [okK] at this; simp [this])]
        have e2 : allE n c T = svErr (T 2).c (T 2).ws (T 2).ds := by rw [allE, if_pos (by rw [e]; exact h0), e]
        simp only [go_sem, Nat.reduceLT, Nat.reduceAdd, Nat.reduceEqDiff, Nat.reduceLeDiff, Nat.reduceSub, Nat.reduceMul, Int.reduceEq, eq_self, reduceIte, h0]
        refine ret_pure hx ?_
        simp [go_sem, Nat.reduceLT, Nat.reduceAdd, Nat.reduceEqDiff, Nat.reduceLeDiff, Nat.reduceSub, Nat.reduceMul, Int.reduceEq, eq_self, reduceIte, L12, R12, allRows, e2, h0]
    · have h0 : okE3 T = 0 := by
        have a := hok 0 (by decide)
        have b := hok 1 (by decide)
        have d := hok 2 (by decide)
        simp only [okK] at a b d
        rw [okE3, if_neg (by simp [a]), if_neg (by simp [b])]; exact d
      simp only [go_sem, Nat.reduceLT, Nat.reduceAdd, Nat.reduceEqDiff, Nat.reduceLeDiff, Nat.reduceSub, Nat.reduceMul, Int.reduceEq, eq_self, reduceIte, Int.cast_ofNat_Int, Int.reduceLT, Int.lt_irrefl]
      refine ops_call (.pureE (between_meets c 1 7) (by simp [go_sem, Nat.reduceLT, Nat.reduceAdd, Nat.reduceEqDiff, Nat.reduceLeDiff, Nat.reduceSub, Nat.reduceMul, Int.reduceEq, eq_self, reduceIte])) ?_
      cases hcol : wthn c 1 7
      · have e2 : allE n c T = 3 := by rw [allE, if_neg (by simp [h0]), if_pos hcol]
        simp only [go_sem, Nat.reduceLT, Nat.reduceAdd, Nat.reduceEqDiff, Nat.reduceLeDiff, Nat.reduceSub, Nat.reduceMul, Int.reduceEq, eq_self, reduceIte]
        refine ret_pure hx ?_
        simp [go_sem, Nat.reduceLT, Nat.reduceAdd, Nat.reduceEqDiff, Nat.reduceLeDiff, Nat.reduceSub, Nat.reduceMul, Int.reduceEq, eq_self, reduceIte, L12, R12, allRows, e2]
      · obtain ⟨hc1, hc7⟩ := wthn_iff.1 hcol
        have hc0 : 0 ≤ c := by omega
        simp only [go_sem, Nat.reduceLT, Nat.reduceAdd, Nat.reduceEqDiff, Nat.reduceLeDiff, Nat.reduceSub, Nat.reduceMul, Int.reduceEq, eq_self, reduceIte]
        rw [app_arr rfl rfl (by simp [rK, cSv]) (by simp)]
        simp only [go_sem, Nat.reduceLT, Nat.reduceAdd, Nat.reduceEqDiff, Nat.reduceLeDiff, Nat.reduceSub, Nat.reduceMul, Int.reduceEq, eq_self, reduceIte]
        refine loop_inv [1, 2, 10, 11, 12] 1 (fun m st => ∃ (k : Nat) (T' : Nat → KS) (t' : Int), m + k = 3 ∧ (∀ j, k ≤ j → T' j = T j) ∧
          runK (fun s _ => propErr s.c s.ws s.ds n) (fun s _ => propK s n) (fun s t => maxI t (propK s n).c) (bitB c) m T' t' = propA n c T ∧
          st = ⟨mkE .top [(1, .int .i64 n), (2, .int .i64 c), (10, .arr 0 1), (11, .int .i64 t'), (12, .int .i64 k)], [.arr 1 true false 25 3 [rK (T' 0), rK (T' 1), rK (T' 2)]]⟩) 3 (by simp [hx]) (by simp) ?_ ?_
        · refine ⟨0, T, 0, rfl, fun _ _ => rfl, rfl, ?_⟩
          simp [trim_mk, go_sem, Nat.reduceLT, Nat.reduceAdd, Nat.reduceEqDiff, Nat.reduceLeDiff, Nat.reduceSub, Nat.reduceMul, Int.reduceEq, eq_self, reduceIte, subHeap, renObj, pos, List.range_succ]
        · rintro m st ⟨k, T', t', hmk, hTe, hrun, rfl⟩
          have hk : k = 0 ∨ k = 1 ∨ k = 2 ∨ k = 3 := by omega
          rcases hk with rfl | rfl | rfl | rfl
          · skip
            have hTk : T' 0 = T 0 := hTe 0 (by decide)
            have hrun' := hrun
            rw [show m = 2 - 0 + 1 by omega, runK] at hrun'
            simp only [Nat.reduceSub] at hrun'
            simp only [go_sem, Nat.reduceLT, Nat.reduceAdd, Nat.reduceEqDiff, Nat.reduceLeDiff, Nat.reduceSub, Nat.reduceMul, Int.reduceEq, eq_self, reduceIte, rK, cSv, Int.ofNat_zero, Int.natCast_one, Int.cast_ofNat_Int, Int.reduceLT, Int.reduceLE, Int.reduceToNat, Nat.reduceLT, Int.toNat_zero, Int.natCast_zero, Int.le_refl, Int.lt_irrefl, Int.reduceAdd, frz, false_or, or_true]
            refine ops_call (.pureE (isOf_meets c 0 (by decide) hc0 hc7) (by simp [go_sem, Nat.reduceLT, Nat.reduceAdd, Nat.reduceEqDiff, Nat.reduceLeDiff, Nat.reduceSub, Nat.reduceMul, Int.reduceEq, eq_self, reduceIte])) ?_
            cases hbit : bitB c 0
            · rw [hbit, if_pos rfl] at hrun'
              simp only [go_sem, Nat.reduceLT, Nat.reduceAdd, Nat.reduceEqDiff, Nat.reduceLeDiff, Nat.reduceSub, Nat.reduceMul, Int.reduceEq, eq_self, reduceIte, Int.ofNat_zero, Int.natCast_one, Int.cast_ofNat_Int, Int.reduceLT, Int.reduceLE, Int.reduceToNat, Nat.reduceLT, Int.toNat_zero, Int.natCast_zero, Int.le_refl, Int.lt_irrefl, Int.reduceAdd, frz, false_or, or_true, wr1, wr2, wr3]
              refine ⟨by simp, 2 - 0, by omega, 0 + 1, T', t', by omega, fun j hj => hTe j (by omega), hrun', ?_⟩
              simp [trim_mk, go_sem, Nat.reduceLT, Nat.reduceAdd, Nat.reduceEqDiff, Nat.reduceLeDiff, Nat.reduceSub, Nat.reduceMul, Int.reduceEq, eq_self, reduceIte, subHeap, renObj, pos, rK, cSv, List.range_succ]
            · rw [hbit, if_neg (by decide), hTk] at hrun'
              simp only [go_sem, Nat.reduceLT, Nat.reduceAdd, Nat.reduceEqDiff, Nat.reduceLeDiff, Nat.reduceSub, Nat.reduceMul, Int.reduceEq, eq_self, reduceIte, rK, cSv, Int.ofNat_zero, Int.natCast_one, Int.cast_ofNat_Int, Int.reduceLT, Int.reduceLE, Int.reduceToNat, Nat.reduceLT, Int.toNat_zero, Int.natCast_zero, Int.le_refl, Int.lt_irrefl, Int.reduceAdd, frz, false_or, or_true, hTk]
              obtain ⟨o1, o2, o3, o4, o5⟩ := okK_in (hok 0 (by decide))
              refine ops_call (.pureE (proposeOf_meets (T 0).c (T 0).ws (T 0).ds n o4 o1 o2 o3) (by simp [go_sem, Nat.reduceLT, Nat.reduceAdd, Nat.reduceEqDiff, Nat.reduceLeDiff, Nat.reduceSub, Nat.reduceMul, Int.reduceEq, eq_self, reduceIte, cSv])) ?_
              by_cases he : propErr (T 0).c (T 0).ws (T 0).ds n = 0
              · rw [if_neg (by simp [he])] at hrun'
                have ep : propK (T 0) n = ⟨(T 0).a + 1, (T 0).b, (T 0).c + 1, (T 0).ws.insertIdx (posW (T 0).ws n) ⟨n, (T 0).c + 1, false⟩, (T 0).ds⟩ := by rw [propK, if_pos he]
                have es : propS (T 0).c (T 0).ws (T 0).ds n = rK (propK (T 0) n) := by rw [propS, if_pos he, ep]; rfl
                rw [es]
                obtain ⟨s', hs'⟩ : ∃ s', propK (T 0) n = s' := ⟨_, rfl⟩
                rw [hs'] at hrun' ⊢
                by_cases hm : t' < s'.c
                · have hmx : maxI t' s'.c = s'.c := by rw [maxI, if_pos hm]
                  rw [hmx] at hrun'
                  simp only [go_sem, Nat.reduceLT, Nat.reduceAdd, Nat.reduceEqDiff, Nat.reduceLeDiff, Nat.reduceSub, Nat.reduceMul, Int.reduceEq, eq_self, reduceIte, rK, cSv, he, hm, Int.ofNat_zero, Int.natCast_one, Int.cast_ofNat_Int, Int.reduceLT, Int.reduceLE, Int.reduceToNat, Nat.reduceLT, Int.toNat_zero, Int.natCast_zero, Int.le_refl, Int.lt_irrefl, Int.reduceAdd, frz, false_or, or_true, wr1, wr2, wr3]
                  refine ⟨by simp, 2 - 0, by omega, 0 + 1, upd T' 0 s', s'.c, by omega, fun j hj => ?_, hrun', ?_⟩
                  · rw [upd, if_neg (by omega)]; exact hTe j (by omega)
                  · simp [trim_mk, go_sem, Nat.reduceLT, Nat.reduceAdd, Nat.reduceEqDiff, Nat.reduceLeDiff, Nat.reduceSub, Nat.reduceMul, Int.reduceEq, eq_self, reduceIte, subHeap, renObj, pos, rK, cSv, List.range_succ, upd, hTk]
                · have hmx : maxI t' s'.c = t' := by rw [maxI, if_neg hm]
                  rw [hmx] at hrun'
                  simp only [go_sem, Nat.reduceLT, Nat.reduceAdd, Nat.reduceEqDiff, Nat.reduceLeDiff, Nat.reduceSub, Nat.reduceMul, Int.reduceEq, eq_self, reduceIte, rK, cSv, he, hm, Int.ofNat_zero, Int.natCast_one, Int.cast_ofNat_Int, Int.reduceLT, Int.reduceLE, Int.reduceToNat, Nat.reduceLT, Int.toNat_zero, Int.natCast_zero, Int.le_refl, Int.lt_irrefl, Int.reduceAdd, frz, false_or, or_true, wr1, wr2, wr3]
                  refine ⟨by simp, 2 - 0, by omega, 0 + 1, upd T' 0 s', t', by omega, fun j hj => ?_, hrun', ?_⟩
                  · rw [upd, if_neg (by omega)]; exact hTe j (by omega)
                  · simp [trim_mk, go_sem, Nat.reduceLT, Nat.reduceAdd, Nat.reduceEqDiff, Nat.reduceLeDiff, Nat.reduceSub, Nat.reduceMul, Int.reduceEq, eq_self, reduceIte, subHeap, renObj, pos, rK, cSv, List.range_succ, upd, hTk]
              · rw [if_pos he] at hrun'
                have e1 : (propA n c T).1 = propErr (T 0).c (T 0).ws (T 0).ds n := by rw [← hrun']
                have e2 : allE n c T = propErr (T 0).c (T 0).ws (T 0).ds n := by rw [allE, if_neg (by simp [h0]), if_neg (by simp [hcol]), if_pos (by rw [e1]; exact he), e1]
                have es : propS (T 0).c (T 0).ws (T 0).ds n = cSv 0 [] [] := by rw [propS, if_neg he]
                rw [es]
                simp only [go_sem, Nat.reduceLT, Nat.reduceAdd, Nat.reduceEqDiff, Nat.reduceLeDiff, Nat.reduceSub, Nat.reduceMul, Int.reduceEq, eq_self, reduceIte, rK, cSv, he]
                refine ret_pure hx ?_
                simp [go_sem, Nat.reduceLT, Nat.reduceAdd, Nat.reduceEqDiff, Nat.reduceLeDiff, Nat.reduceSub, Nat.reduceMul, Int.reduceEq, eq_self, reduceIte, L12, R12, allRows, e2, he]
          · skip
            have hTk : T' 1 = T 1 := hTe 1 (by decide)
            have hrun' := hrun
            rw [show m = 2 - 1 + 1 by omega, runK] at hrun'
            simp only [Nat.reduceSub] at hrun'
            simp only [go_sem, Nat.reduceLT, Nat.reduceAdd, Nat.reduceEqDiff, Nat.reduceLeDiff, Nat.reduceSub, Nat.reduceMul, Int.reduceEq, eq_self, reduceIte, rK, cSv, Int.ofNat_zero, Int.natCast_one, Int.cast_ofNat_Int, Int.reduceLT, Int.reduceLE, Int.reduceToNat, Nat.reduceLT, Int.toNat_zero, Int.natCast_zero, Int.le_refl, Int.lt_irrefl, Int.reduceAdd, frz, false_or, or_true]
            refine ops_call (.pureE (isOf_meets c 1 (by decide) hc0 hc7) (by simp [go_sem, Nat.reduceLT, Nat.reduceAdd, Nat.reduceEqDiff, Nat.reduceLeDiff, Nat.reduceSub, Nat.reduceMul, Int.reduceEq, eq_self, reduceIte])) ?_
            cases hbit : bitB c 1
            · rw [hbit, if_pos rfl] at hrun'
              simp only [go_sem, Nat.reduceLT, Nat.reduceAdd, Nat.reduceEqDiff, Nat.reduceLeDiff, Nat.reduceSub, Nat.reduceMul, Int.reduceEq, eq_self, reduceIte, Int.ofNat_zero, Int.natCast_one, Int.cast_ofNat_Int, Int.reduceLT, Int.reduceLE, Int.reduceToNat, Nat.reduceLT, Int.toNat_zero, Int.natCast_zero, Int.le_refl, Int.lt_irrefl, Int.reduceAdd, frz, false_or, or_true, wr1, wr2, wr3]
              refine ⟨by simp, 2 - 1, by omega, 1 + 1, T', t', by omega, fun j hj => hTe j (by omega), hrun', ?_⟩
              simp [trim_mk, go_sem, Nat.reduceLT, Nat.reduceAdd, Nat.reduceEqDiff, Nat.reduceLeDiff, Nat.reduceSub, Nat.reduceMul, Int.reduceEq, eq_self, reduceIte, subHeap, renObj, pos, rK, cSv, List.range_succ]
            · rw [hbit, if_neg (by decide), hTk] at hrun'
              simp only [go_sem, Nat.reduceLT, Nat.reduceAdd, Nat.reduceEqDiff, Nat.reduceLeDiff, Nat.reduceSub, Nat.reduceMul, Int.reduceEq, eq_self, reduceIte, rK, cSv, Int.ofNat_zero, Int.natCast_one, Int.cast_ofNat_Int, Int.reduceLT, Int.reduceLE, Int.reduceToNat, Nat.reduceLT, Int.toNat_zero, Int.natCast_zero, Int.le_refl, Int.lt_irrefl, Int.reduceAdd, frz, false_or, or_true, hTk]
              obtain ⟨o1, o2, o3, o4, o5⟩ := okK_in (hok 1 (by decide))
              refine ops_call (.pureE (proposeOf_meets (T 1).c (T 1).ws (T 1).ds n o4 o1 o2 o3) (by simp [go_sem, Nat.reduceLT, Nat.reduceAdd, Nat.reduceEqDiff, Nat.reduceLeDiff, Nat.reduceSub, Nat.reduceMul, Int.reduceEq, eq_self, reduceIte, cSv])) ?_
              by_cases he : propErr (T 1).c (T 1).ws (T 1).ds n = 0
              · rw [if_neg (by simp [he])] at hrun'
                have ep : propK (T 1) n = ⟨(T 1).a + 1, (T 1).b, (T 1).c + 1, (T 1).ws.insertIdx (posW (T 1).ws n) ⟨n, (T 1).c + 1, false⟩, (T 1).ds⟩ := by rw [propK, if_pos he]
                have es : propS (T 1).c (T 1).ws (T 1).ds n = rK (propK (T 1) n) := by rw [propS, if_pos he, ep]; rfl
                rw [es]
                obtain ⟨s', hs'⟩ : ∃ s', propK (T 1) n = s' := ⟨_, rfl⟩
                rw [hs'] at hrun' ⊢
                by_cases hm : t' < s'.c
                · have hmx : maxI t' s'.c = s'.c := by rw [maxI, if_pos hm]
                  rw [hmx] at hrun'
                  simp only [go_sem, Nat.reduceLT, Nat.reduceAdd, Nat.reduceEqDiff, Nat.reduceLeDiff, Nat.reduceSub, Nat.reduceMul, Int.reduceEq, eq_self, reduceIte, rK, cSv, he, hm, Int.ofNat_zero, Int.natCast_one, Int.cast_ofNat_Int, Int.reduceLT, Int.reduceLE, Int.reduceToNat, Nat.reduceLT, Int.toNat_zero, Int.natCast_zero, Int.le_refl, Int.lt_irrefl, Int.reduceAdd, frz, false_or, or_true, wr1, wr2, wr3]
                  refine ⟨by simp, 2 - 1, by omega, 1 + 1, upd T' 1 s', s'.c, by omega, fun j hj => ?_, hrun', ?_⟩
                  · rw [upd, if_neg (by omega)]; exact hTe j (by omega)
                  · simp [trim_mk, go_sem, Nat.reduceLT, Nat.reduceAdd, Nat.reduceEqDiff, Nat.reduceLeDiff, Nat.reduceSub, Nat.reduceMul, Int.reduceEq, eq_self, reduceIte, subHeap, renObj, pos, rK, cSv, List.range_succ, upd, hTk]
                · have hmx : maxI t' s'.c = t' := by rw [maxI, if_neg hm]
                  rw [hmx] at hrun'
                  simp only [go_sem, Nat.reduceLT, Nat.reduceAdd, Nat.reduceEqDiff, Nat.reduceLeDiff, Nat.reduceSub, Nat.reduceMul, Int.reduceEq, eq_self, reduceIte, rK, cSv, he, hm, Int.ofNat_zero, Int.natCast_one, Int.cast_ofNat_Int, Int.reduceLT, Int.reduceLE, Int.reduceToNat, Nat.reduceLT, Int.toNat_zero, Int.natCast_zero, Int.le_refl, Int.lt_irrefl, Int.reduceAdd, frz, false_or, or_true, wr1, wr2, wr3]
                  refine ⟨by simp, 2 - 1, by omega, 1 + 1, upd T' 1 s', t', by omega, fun j hj => ?_, hrun', ?_⟩
                  · rw [upd, if_neg (by omega)]; exact hTe j (by omega)
                  · simp [trim_mk, go_sem, Nat.reduceLT, Nat.reduceAdd, Nat.reduceEqDiff, Nat.reduceLeDiff, Nat.reduceSub, Nat.reduceMul, Int.reduceEq, eq_self, reduceIte, subHeap, renObj, pos, rK, cSv, List.range_succ, upd, hTk]
              · rw [if_pos he] at hrun'
                have e1 : (propA n c T).1 = propErr (T 1).c (T 1).ws (T 1).ds n := by rw [← hrun']
                have e2 : allE n c T = propErr (T 1).c (T 1).ws (T 1).ds n := by rw [allE, if_neg (by simp [h0]), if_neg (by simp [hcol]), if_pos (by rw [e1]; exact he), e1]
                have es : propS (T 1).c (T 1).ws (T 1).ds n = cSv 0 [] [] := by rw [propS, if_neg he]
                rw [es]
                simp only [go_sem, Nat.reduceLT, Nat.reduceAdd, Nat.reduceEqDiff, Nat.reduceLeDiff, Nat.reduceSub, Nat.reduceMul, Int.reduceEq, eq_self, reduceIte, rK, cSv, he]
                refine ret_pure hx ?_
                simp [go_sem, Nat.reduceLT, Nat.reduceAdd, Nat.reduceEqDiff, Nat.reduceLeDiff, Nat.reduceSub, Nat.reduceMul, Int.reduceEq, eq_self, reduceIte, L12, R12, allRows, e2, he]
          · skip
            have hTk : T' 2 = T 2 := hTe 2 (by decide)
            have hrun' := hrun
            rw [show m = 2 - 2 + 1 by omega, runK] at hrun'
            simp only [Nat.reduceSub] at hrun'
            simp only [go_sem, Nat.reduceLT, Nat.reduceAdd, Nat.reduceEqDiff, Nat.reduceLeDiff, Nat.reduceSub, Nat.reduceMul, Int.reduceEq, eq_self, reduceIte, rK, cSv, Int.ofNat_zero, Int.natCast_one, Int.cast_ofNat_Int, Int.reduceLT, Int.reduceLE, Int.reduceToNat, Nat.reduceLT, Int.toNat_zero, Int.natCast_zero, Int.le_refl, Int.lt_irrefl, Int.reduceAdd, frz, false_or, or_true]
            refine ops_call (.pureE (isOf_meets c 2 (by decide) hc0 hc7) (by simp [go_sem, Nat.reduceLT, Nat.reduceAdd, Nat.reduceEqDiff, Nat.reduceLeDiff, Nat.reduceSub, Nat.reduceMul, Int.reduceEq, eq_self, reduceIte])) ?_
            cases hbit : bitB c 2
            · rw [hbit, if_pos rfl] at hrun'
              simp only [go_sem, Nat.reduceLT, Nat.reduceAdd, Nat.reduceEqDiff, Nat.reduceLeDiff, Nat.reduceSub, Nat.reduceMul, Int.reduceEq, eq_self, reduceIte, Int.ofNat_zero, Int.natCast_one, Int.cast_ofNat_Int, Int.reduceLT, Int.reduceLE, Int.reduceToNat, Nat.reduceLT, Int.toNat_zero, Int.natCast_zero, Int.le_refl, Int.lt_irrefl, Int.reduceAdd, frz, false_or, or_true, wr1, wr2, wr3]
              refine ⟨by simp, 2 - 2, by omega, 2 + 1, T', t', by omega, fun j hj => hTe j (by omega), hrun', ?_⟩
              simp [trim_mk, go_sem, Nat.reduceLT, Nat.reduceAdd, Nat.reduceEqDiff, Nat.reduceLeDiff, Nat.reduceSub, Nat.reduceMul, Int.reduceEq, eq_self, reduceIte, subHeap, renObj, pos, rK, cSv, List.range_succ]
            · rw [hbit, if_neg (by decide), hTk] at hrun'
              simp only [go_sem, Nat.reduceLT, Nat.reduceAdd, Nat.reduceEqDiff, Nat.reduceLeDiff, Nat.reduceSub, Nat.reduceMul, Int.reduceEq, eq_self, reduceIte, rK, cSv, Int.ofNat_zero, Int.natCast_one, Int.cast_ofNat_Int, Int.reduceLT, Int.reduceLE, Int.reduceToNat, Nat.reduceLT, Int.toNat_zero, Int.natCast_zero, Int.le_refl, Int.lt_irrefl, Int.reduceAdd, frz, false_or, or_true, hTk]
              obtain ⟨o1, o2, o3, o4, o5⟩ := okK_in (hok 2 (by decide))
              refine ops_call (.pureE (proposeOf_meets (T 2).c (T 2).ws (T 2).ds n o4 o1 o2 o3) (by simp [go_sem, Nat.reduceLT, Nat.reduceAdd, Nat.reduceEqDiff, Nat.reduceLeDiff, Nat.reduceSub, Nat.reduceMul, Int.reduceEq, eq_self, reduceIte, cSv])) ?_
              by_cases he : propErr (T 2).c (T 2).ws (T 2).ds n = 0
              · rw [if_neg (by simp [he])] at hrun'
                have ep : propK (T 2) n = ⟨(T 2).a + 1, (T 2).b, (T 2).c + 1, (T 2).ws.insertIdx (posW (T 2).ws n) ⟨n, (T 2).c + 1, false⟩, (T 2).ds⟩ := by rw [propK, if_pos he]
                have es : propS (T 2).c (T 2).ws (T 2).ds n = rK (propK (T 2) n) := by rw [propS, if_pos he, ep]; rfl
                rw [es]
                obtain ⟨s', hs'⟩ : ∃ s', propK (T 2) n = s' := ⟨_, rfl⟩
                rw [hs'] at hrun' ⊢
                by_cases hm : t' < s'.c
                · have hmx : maxI t' s'.c = s'.c := by rw [maxI, if_pos hm]
                  rw [hmx] at hrun'
                  simp only [go_sem, Nat.reduceLT, Nat.reduceAdd, Nat.reduceEqDiff, Nat.reduceLeDiff, Nat.reduceSub, Nat.reduceMul, Int.reduceEq, eq_self, reduceIte, rK, cSv, he, hm, Int.ofNat_zero, Int.natCast_one, Int.cast_ofNat_Int, Int.reduceLT, Int.reduceLE, Int.reduceToNat, Nat.reduceLT, Int.toNat_zero, Int.natCast_zero, Int.le_refl, Int.lt_irrefl, Int.reduceAdd, frz, false_or, or_true, wr1, wr2, wr3]
                  refine ⟨by simp, 2 - 2, by omega, 2 + 1, upd T' 2 s', s'.c, by omega, fun j hj => ?_, hrun', ?_⟩
                  · rw [upd, if_neg (by omega)]; exact hTe j (by omega)
                  · simp [trim_mk, go_sem, Nat.reduceLT, Nat.reduceAdd, Nat.reduceEqDiff, Nat.reduceLeDiff, Nat.reduceSub, Nat.reduceMul, Int.reduceEq, eq_self, reduceIte, subHeap, renObj, pos, rK, cSv, List.range_succ, upd, hTk]
                · have hmx : maxI t' s'.c = t' := by rw [maxI, if_neg hm]
                  rw [hmx] at hrun'
                  simp only [go_sem, Nat.reduceLT, Nat.reduceAdd, Nat.reduceEqDiff, Nat.reduceLeDiff, Nat.reduceSub, Nat.reduceMul, Int.reduceEq, eq_self, reduceIte, rK, cSv, he, hm, Int.ofNat_zero, Int.natCast_one, Int.cast_ofNat_Int, Int.reduceLT, Int.reduceLE, Int.reduceToNat, Nat.reduceLT, Int.toNat_zero, Int.natCast_zero, Int.le_refl, Int.lt_irrefl, Int.reduceAdd, frz, false_or, or_true, wr1, wr2, wr3]
                  refine ⟨by simp, 2 - 2, by omega, 2 + 1, upd T' 2 s', t', by omega, fun j hj => ?_, hrun', ?_⟩
                  · rw [upd, if_neg (by omega)]; exact hTe j (by omega)
                  · simp [trim_mk, go_sem, Nat.reduceLT, Nat.reduceAdd, Nat.reduceEqDiff, Nat.reduceLeDiff, Nat.reduceSub, Nat.reduceMul, Int.reduceEq, eq_self, reduceIte, subHeap, renObj, pos, rK, cSv, List.range_succ, upd, hTk]
              · rw [if_pos he] at hrun'
                have e1 : (propA n c T).1 = propErr (T 2).c (T 2).ws (T 2).ds n := by rw [← hrun']
                have e2 : allE n c T = propErr (T 2).c (T 2).ws (T 2).ds n := by rw [allE, if_neg (by simp [h0]), if_neg (by simp [hcol]), if_pos (by rw [e1]; exact he), e1]
                have es : propS (T 2).c (T 2).ws (T 2).ds n = cSv 0 [] [] := by rw [propS, if_neg he]
                rw [es]
                simp only [go_sem, Nat.reduceLT, Nat.reduceAdd, Nat.reduceEqDiff, Nat.reduceLeDiff, Nat.reduceSub, Nat.reduceMul, Int.reduceEq, eq_self, reduceIte, rK, cSv, he]
                refine ret_pure hx ?_
                simp [go_sem, Nat.reduceLT, Nat.reduceAdd, Nat.reduceEqDiff, Nat.reduceLeDiff, Nat.reduceSub, Nat.reduceMul, Int.reduceEq, eq_self, reduceIte, L12, R12, allRows, e2, he]
          · obtain rfl : m = 0 := by omega
            have hpa : propA n c T = (0, T', t') := by rw [← hrun]; rfl
            have hfit : ∀ j, j < 3 → fitK (T' j) := fun j hj => by
              have := fit_propA (n := n) (c := c) hok j hj
              rw [hpa] at this; exact this
            have eE : allE n c T = (commA n c T' t').1 := by rw [allE, if_neg (by simp [h0]), if_neg (by simp [hcol]), if_neg (by simp [hpa]), hpa]
            have eT : allT n c T = (commA n c T' t').2.1 := by rw [allT, hpa]
            clear hrun hTe hmk
            simp only [go_sem, Nat.reduceLT, Nat.reduceAdd, Nat.reduceEqDiff, Nat.reduceLeDiff, Nat.reduceSub, Nat.reduceMul, Int.reduceEq, eq_self, reduceIte, Int.ofNat_zero, Int.natCast_one, Int.cast_ofNat_Int, Int.reduceLT, Int.reduceLE, Int.reduceToNat, Nat.reduceLT, Int.toNat_zero, Int.natCast_zero, Int.le_refl, Int.lt_irrefl, Int.reduceAdd, frz, false_or, or_true, Int.natCast_zero]
            refine loop_inv [1, 2, 10, 11, 15] 1 (fun m st => ∃ (k : Nat) (T2 : Nat → KS), m + k = 3 ∧ (∀ j, k ≤ j → T2 j = T' j) ∧
              runK (fun s t => commErr s.ws s.ds n t) (fun s t => commK s n t) (fun _ t => t) (bitB c) m T2 t' = commA n c T' t' ∧
              st = ⟨mkE .top [(1, .int .i64 n), (2, .int .i64 c), (10, .arr 0 1), (11, .int .i64 t'), (15, .int .i64 k)], [.arr 1 true false 25 3 [rK (T2 0), rK (T2 1), rK (T2 2)]]⟩) 3 (by simp [hx]) (by simp) ?_ ?_
            · refine ⟨0, T', rfl, fun _ _ => rfl, rfl, ?_⟩
              simp [trim_mk, go_sem, Nat.reduceLT, Nat.reduceAdd, Nat.reduceEqDiff, Nat.reduceLeDiff, Nat.reduceSub, Nat.reduceMul, Int.reduceEq, eq_self, reduceIte, subHeap, renObj, pos, List.range_succ]
            · rintro m st ⟨k, T2, hmk, hTe, hrun, rfl⟩
              have hk : k = 0 ∨ k = 1 ∨ k = 2 ∨ k = 3 := by omega
              rcases hk with rfl | rfl | rfl | rfl
              · skip
                have hTk : T2 0 = T' 0 := hTe 0 (by decide)
                have hrun' := hrun
                rw [show m = 2 - 0 + 1 by omega, runK] at hrun'
                simp only [Nat.reduceSub] at hrun'
                simp only [go_sem, Nat.reduceLT, Nat.reduceAdd, Nat.reduceEqDiff, Nat.reduceLeDiff, Nat.reduceSub, Nat.reduceMul, Int.reduceEq, eq_self, reduceIte, rK, cSv, Int.ofNat_zero, Int.natCast_one, Int.cast_ofNat_Int, Int.reduceLT, Int.reduceLE, Int.reduceToNat, Nat.reduceLT, Int.toNat_zero, Int.natCast_zero, Int.le_refl, Int.lt_irrefl, Int.reduceAdd, frz, false_or, or_true]
                refine ops_call (.pureE (isOf_meets c 0 (by decide) hc0 hc7) (by simp [go_sem, Nat.reduceLT, Nat.reduceAdd, Nat.reduceEqDiff, Nat.reduceLeDiff, Nat.reduceSub, Nat.reduceMul, Int.reduceEq, eq_self, reduceIte])) ?_
                cases hbit : bitB c 0
                · rw [hbit, if_pos rfl] at hrun'
                  simp only [go_sem, Nat.reduceLT, Nat.reduceAdd, Nat.reduceEqDiff, Nat.reduceLeDiff, Nat.reduceSub, Nat.reduceMul, Int.reduceEq, eq_self, reduceIte, Int.ofNat_zero, Int.natCast_one, Int.cast_ofNat_Int, Int.reduceLT, Int.reduceLE, Int.reduceToNat, Nat.reduceLT, Int.toNat_zero, Int.natCast_zero, Int.le_refl, Int.lt_irrefl, Int.reduceAdd, frz, false_or, or_true, wr1, wr2, wr3]
                  refine ⟨by simp, 2 - 0, by omega, 0 + 1, T2, by omega, fun j hj => hTe j (by omega), hrun', ?_⟩
                  simp [trim_mk, go_sem, Nat.reduceLT, Nat.reduceAdd, Nat.reduceEqDiff, Nat.reduceLeDiff, Nat.reduceSub, Nat.reduceMul, Int.reduceEq, eq_self, reduceIte, subHeap, renObj, pos, rK, cSv, List.range_succ]
                · rw [hbit, if_neg (by decide), hTk] at hrun'
                  simp only [go_sem, Nat.reduceLT, Nat.reduceAdd, Nat.reduceEqDiff, Nat.reduceLeDiff, Nat.reduceSub, Nat.reduceMul, Int.reduceEq, eq_self, reduceIte, rK, cSv, Int.ofNat_zero, Int.natCast_one, Int.cast_ofNat_Int, Int.reduceLT, Int.reduceLE, Int.reduceToNat, Nat.reduceLT, Int.toNat_zero, Int.natCast_zero, Int.le_refl, Int.lt_irrefl, Int.reduceAdd, frz, false_or, or_true, hTk]
                  obtain ⟨o2, o3, o4, o5⟩ := hfit 0 (by decide)
                  refine ops_call (.pureE (commitOf_meets (T' 0).c (T' 0).ws (T' 0).ds n t' o4 o5 o2 o3) (by simp [go_sem, Nat.reduceLT, Nat.reduceAdd, Nat.reduceEqDiff, Nat.reduceLeDiff, Nat.reduceSub, Nat.reduceMul, Int.reduceEq, eq_self, reduceIte, cSv])) ?_
                  by_cases he : commErr (T' 0).ws (T' 0).ds n t' = 0
                  · rw [if_neg (by simp [he])] at hrun'
                    have hce0 : commE0 (T' 0).ws n t' = 0 := by
                      rw [commErr] at he
                      split at he
                      · exact he
                      · rename_i h; simpa using h
                    have ep : rK (commK (T' 0) n t') = cSv (maxI (T' 0).c t') (swept (setW (T' 0).ws n t') (T' 0).ds).1 (swept (setW (T' 0).ws n t') (T' 0).ds).2 := by rw [rK, commK, if_neg (by simp [hce0])]
                    have es : commS (T' 0).c (T' 0).ws (T' 0).ds n t' = rK (commK (T' 0) n t') := by rw [commS, if_pos he, ep]
                    rw [es]
                    obtain ⟨s', hs'⟩ : ∃ s', commK (T' 0) n t' = s' := ⟨_, rfl⟩
                    rw [hs'] at hrun' ⊢
                    simp only [go_sem, Nat.reduceLT, Nat.reduceAdd, Nat.reduceEqDiff, Nat.reduceLeDiff, Nat.reduceSub, Nat.reduceMul, Int.reduceEq, eq_self, reduceIte, rK, cSv, he, Int.ofNat_zero, Int.natCast_one, Int.cast_ofNat_Int, Int.reduceLT, Int.reduceLE, Int.reduceToNat, Nat.reduceLT, Int.toNat_zero, Int.natCast_zero, Int.le_refl, Int.lt_irrefl, Int.reduceAdd, frz, false_or, or_true, wr1, wr2, wr3]
                    refine ⟨by simp, 2 - 0, by omega, 0 + 1, upd T2 0 s', by omega, fun j hj => ?_, hrun', ?_⟩
                    · rw [upd, if_neg (by omega)]; exact hTe j (by omega)
                    · simp [trim_mk, go_sem, Nat.reduceLT, Nat.reduceAdd, Nat.reduceEqDiff, Nat.reduceLeDiff, Nat.reduceSub, Nat.reduceMul, Int.reduceEq, eq_self, reduceIte, subHeap, renObj, pos, rK, cSv, List.range_succ, upd, hTk]
                  · rw [if_pos he] at hrun'
                    have e1 : (commA n c T' t').1 = commErr (T' 0).ws (T' 0).ds n t' := by rw [← hrun']
                    rw [e1] at eE
                    have es : commS (T' 0).c (T' 0).ws (T' 0).ds n t' = cSv 0 [] [] := by rw [commS, if_neg he]
                    rw [es]
                    simp only [go_sem, Nat.reduceLT, Nat.reduceAdd, Nat.reduceEqDiff, Nat.reduceLeDiff, Nat.reduceSub, Nat.reduceMul, Int.reduceEq, eq_self, reduceIte, rK, cSv, he]
                    refine ret_pure hx ?_
                    simp [go_sem, Nat.reduceLT, Nat.reduceAdd, Nat.reduceEqDiff, Nat.reduceLeDiff, Nat.reduceSub, Nat.reduceMul, Int.reduceEq, eq_self, reduceIte, L12, R12, allRows, eE, he]
              · skip
                have hTk : T2 1 = T' 1 := hTe 1 (by decide)
                have hrun' := hrun
                rw [show m = 2 - 1 + 1 by omega, runK] at hrun'
                simp only [Nat.reduceSub] at hrun'
                simp only [go_sem, Nat.reduceLT, Nat.reduceAdd, Nat.reduceEqDiff, Nat.reduceLeDiff, Nat.reduceSub, Nat.reduceMul, Int.reduceEq, eq_self, reduceIte, rK, cSv, Int.ofNat_zero, Int.natCast_one, Int.cast_ofNat_Int, Int.reduceLT, Int.reduceLE, Int.reduceToNat, Nat.reduceLT, Int.toNat_zero, Int.natCast_zero, Int.le_refl, Int.lt_irrefl, Int.reduceAdd, frz, false_or, or_true]
                refine ops_call (.pureE (isOf_meets c 1 (by decide) hc0 hc7) (by simp [go_sem, Nat.reduceLT, Nat.reduceAdd, Nat.reduceEqDiff, Nat.reduceLeDiff, Nat.reduceSub, Nat.reduceMul, Int.reduceEq, eq_self, reduceIte])) ?_
                cases hbit : bitB c 1
                · rw [hbit, if_pos rfl] at hrun'
                  simp only [go_sem, Nat.reduceLT, Nat.reduceAdd, Nat.reduceEqDiff, Nat.reduceLeDiff, Nat.reduceSub, Nat.reduceMul, Int.reduceEq, eq_self, reduceIte, Int.ofNat_zero, Int.natCast_one, Int.cast_ofNat_Int, Int.reduceLT, Int.reduceLE, Int.reduceToNat, Nat.reduceLT, Int.toNat_zero, Int.natCast_zero, Int.le_refl, Int.lt_irrefl, Int.reduceAdd, frz, false_or, or_true, wr1, wr2, wr3]
                  refine ⟨by simp, 2 - 1, by omega, 1 + 1, T2, by omega, fun j hj => hTe j (by omega), hrun', ?_⟩
                  simp [trim_mk, go_sem, Nat.reduceLT, Nat.reduceAdd, Nat.reduceEqDiff, Nat.reduceLeDiff, Nat.reduceSub, Nat.reduceMul, Int.reduceEq, eq_self, reduceIte, subHeap, renObj, pos, rK, cSv, List.range_succ]
                · rw [hbit, if_neg (by decide), hTk] at hrun'
                  simp only [go_sem, Nat.reduceLT, Nat.reduceAdd, Nat.reduceEqDiff, Nat.reduceLeDiff, Nat.reduceSub, Nat.reduceMul, Int.reduceEq, eq_self, reduceIte, rK, cSv, Int.ofNat_zero, Int.natCast_one, Int.cast_ofNat_Int, Int.reduceLT, Int.reduceLE, Int.reduceToNat, Nat.reduceLT, Int.toNat_zero, Int.natCast_zero, Int.le_refl, Int.lt_irrefl, Int.reduceAdd, frz, false_or, or_true, hTk]
                  obtain ⟨o2, o3, o4, o5⟩ := hfit 1 (by decide)
                  refine ops_call (.pureE (commitOf_meets (T' 1).c (T' 1).ws (T' 1).ds n t' o4 o5 o2 o3) (by simp [go_sem, Nat.reduceLT, Nat.reduceAdd, Nat.reduceEqDiff, Nat.reduceLeDiff, Nat.reduceSub, Nat.reduceMul, Int.reduceEq, eq_self, reduceIte, cSv])) ?_
                  by_cases he : commErr (T' 1).ws (T' 1).ds n t' = 0
                  · rw [if_neg (by simp [he])] at hrun'
                    have hce0 : commE0 (T' 1).ws n t' = 0 := by
                      rw [commErr] at he
                      split at he
                      · exact he
                      · rename_i h; simpa using h
                    have ep : rK (commK (T' 1) n t') = cSv (maxI (T' 1).c t') (swept (setW (T' 1).ws n t') (T' 1).ds).1 (swept (setW (T' 1).ws n t') (T' 1).ds).2 := by rw [rK, commK, if_neg (by simp [hce0])]
                    have es : commS (T' 1).c (T' 1).ws (T' 1).ds n t' = rK (commK (T' 1) n t') := by rw [commS, if_pos he, ep]
                    rw [es]
                    obtain ⟨s', hs'⟩ : ∃ s', commK (T' 1) n t' = s' := ⟨_, rfl⟩
                    rw [hs'] at hrun' ⊢
                    simp only [go_sem, Nat.reduceLT, Nat.reduceAdd, Nat.reduceEqDiff, Nat.reduceLeDiff, Nat.reduceSub, Nat.reduceMul, Int.reduceEq, eq_self, reduceIte, rK, cSv, he, Int.ofNat_zero, Int.natCast_one, Int.cast_ofNat_Int, Int.reduceLT, Int.reduceLE, Int.reduceToNat, Nat.reduceLT, Int.toNat_zero, Int.natCast_zero, Int.le_refl, Int.lt_irrefl, Int.reduceAdd, frz, false_or, or_true, wr1, wr2, wr3]
                    refine ⟨by simp, 2 - 1, by omega, 1 + 1, upd T2 1 s', by omega, fun j hj => ?_, hrun', ?_⟩
                    · rw [upd, if_neg (by omega)]; exact hTe j (by omega)
                    · simp [trim_mk, go_sem, Nat.reduceLT, Nat.reduceAdd, Nat.reduceEqDiff, Nat.reduceLeDiff, Nat.reduceSub, Nat.reduceMul, Int.reduceEq, eq_self, reduceIte, subHeap, renObj, pos, rK, cSv, List.range_succ, upd, hTk]
                  · rw [if_pos he] at hrun'
                    have e1 : (commA n c T' t').1 = commErr (T' 1).ws (T' 1).ds n t' := by rw [← hrun']
                    rw [e1] at eE
                    have es : commS (T' 1).c (T' 1).ws (T' 1).ds n t' = cSv 0 [] [] := by rw [commS, if_neg he]
                    rw [es]
                    simp only [go_sem, Nat.reduceLT, Nat.reduceAdd, Nat.reduceEqDiff, Nat.reduceLeDiff, Nat.reduceSub, Nat.reduceMul, Int.reduceEq, eq_self, reduceIte, rK, cSv, he]
                    refine ret_pure hx ?_
                    simp [go_sem, Nat.reduceLT, Nat.reduceAdd, Nat.reduceEqDiff, Nat.reduceLeDiff, Nat.reduceSub, Nat.reduceMul, Int.reduceEq, eq_self, reduceIte, L12, R12, allRows, eE, he]
              · skip
                have hTk : T2 2 = T' 2 := hTe 2 (by decide)
                have hrun' := hrun
                rw [show m = 2 - 2 + 1 by omega, runK] at hrun'
                simp only [Nat.reduceSub] at hrun'
                simp only [go_sem, Nat.reduceLT, Nat.reduceAdd, Nat.reduceEqDiff, Nat.reduceLeDiff, Nat.reduceSub, Nat.reduceMul, Int.reduceEq, eq_self, reduceIte, rK, cSv, Int.ofNat_zero, Int.natCast_one, Int.cast_ofNat_Int, Int.reduceLT, Int.reduceLE, Int.reduceToNat, Nat.reduceLT, Int.toNat_zero, Int.natCast_zero, Int.le_refl, Int.lt_irrefl, Int.reduceAdd, frz, false_or, or_true]
                refine ops_call (.pureE (isOf_meets c 2 (by decide) hc0 hc7) (by simp [go_sem, Nat.reduceLT, Nat.reduceAdd, Nat.reduceEqDiff, Nat.reduceLeDiff, Nat.reduceSub, Nat.reduceMul, Int.reduceEq, eq_self, reduceIte])) ?_
                cases hbit : bitB c 2
                · rw [hbit, if_pos rfl] at hrun'
                  simp only [go_sem, Nat.reduceLT, Nat.reduceAdd, Nat.reduceEqDiff, Nat.reduceLeDiff, Nat.reduceSub, Nat.reduceMul, Int.reduceEq, eq_self, reduceIte, Int.ofNat_zero, Int.natCast_one, Int.cast_ofNat_Int, Int.reduceLT, Int.reduceLE, Int.reduceToNat, Nat.reduceLT, Int.toNat_zero, Int.natCast_zero, Int.le_refl, Int.lt_irrefl, Int.reduceAdd, frz, false_or, or_true, wr1, wr2, wr3]
                  refine ⟨by simp, 2 - 2, by omega, 2 + 1, T2, by omega, fun j hj => hTe j (by omega), hrun', ?_⟩
                  simp [trim_mk, go_sem, Nat.reduceLT, Nat.reduceAdd, Nat.reduceEqDiff, Nat.reduceLeDiff, Nat.reduceSub, Nat.reduceMul, Int.reduceEq, eq_self, reduceIte, subHeap, renObj, pos, rK, cSv, List.range_succ]
                · rw [hbit, if_neg (by decide), hTk] at hrun'
                  simp only [go_sem, Nat.reduceLT, Nat.reduceAdd, Nat.reduceEqDiff, Nat.reduceLeDiff, Nat.reduceSub, Nat.reduceMul, Int.reduceEq, eq_self, reduceIte, rK, cSv, Int.ofNat_zero, Int.natCast_one, Int.cast_ofNat_Int, Int.reduceLT, Int.reduceLE, Int.reduceToNat, Nat.reduceLT, Int.toNat_zero, Int.natCast_zero, Int.le_refl, Int.lt_irrefl, Int.reduceAdd, frz, false_or, or_true, hTk]
                  obtain ⟨o2, o3, o4, o5⟩ := hfit 2 (by decide)
                  refine ops_call (.pureE (commitOf_meets (T' 2).c (T' 2).ws (T' 2).ds n t' o4 o5 o2 o3) (by simp [go_sem, Nat.reduceLT, Nat.reduceAdd, Nat.reduceEqDiff, Nat.reduceLeDiff, Nat.reduceSub, Nat.reduceMul, Int.reduceEq, eq_self, reduceIte, cSv])) ?_
                  by_cases he : commErr (T' 2).ws (T' 2).ds n t' = 0
                  · rw [if_neg (by simp [he])] at hrun'
                    have hce0 : commE0 (T' 2).ws n t' = 0 := by
                      rw [commErr] at he
                      split at he
                      · exact he
                      · rename_i h; simpa using h
                    have ep : rK (commK (T' 2) n t') = cSv (maxI (T' 2).c t') (swept (setW (T' 2).ws n t') (T' 2).ds).1 (swept (setW (T' 2).ws n t') (T' 2).ds).2 := by rw [rK, commK, if_neg (by simp [hce0])]
                    have es : commS (T' 2).c (T' 2).ws (T' 2).ds n t' = rK (commK (T' 2) n t') := by rw [commS, if_pos he, ep]
                    rw [es]
                    obtain ⟨s', hs'⟩ : ∃ s', commK (T' 2) n t' = s' := ⟨_, rfl⟩
                    rw [hs'] at hrun' ⊢
                    simp only [go_sem, Nat.reduceLT, Nat.reduceAdd, Nat.reduceEqDiff, Nat.reduceLeDiff, Nat.reduceSub, Nat.reduceMul, Int.reduceEq, eq_self, reduceIte, rK, cSv, he, Int.ofNat_zero, Int.natCast_one, Int.cast_ofNat_Int, Int.reduceLT, Int.reduceLE, Int.reduceToNat, Nat.reduceLT, Int.toNat_zero, Int.natCast_zero, Int.le_refl, Int.lt_irrefl, Int.reduceAdd, frz, false_or, or_true, wr1, wr2, wr3]
                    refine ⟨by simp, 2 - 2, by omega, 2 + 1, upd T2 2 s', by omega, fun j hj => ?_, hrun', ?_⟩
                    · rw [upd, if_neg (by omega)]; exact hTe j (by omega)
                    · simp [trim_mk, go_sem, Nat.reduceLT, Nat.reduceAdd, Nat.reduceEqDiff, Nat.reduceLeDiff, Nat.reduceSub, Nat.reduceMul, Int.reduceEq, eq_self, reduceIte, subHeap, renObj, pos, rK, cSv, List.range_succ, upd, hTk]
                  · rw [if_pos he] at hrun'
                    have e1 : (commA n c T' t').1 = commErr (T' 2).ws (T' 2).ds n t' := by rw [← hrun']
                    rw [e1] at eE
                    have es : commS (T' 2).c (T' 2).ws (T' 2).ds n t' = cSv 0 [] [] := by rw [commS, if_neg he]
                    rw [es]
                    simp only [go_sem, Nat.reduceLT, Nat.reduceAdd, Nat.reduceEqDiff, Nat.reduceLeDiff, Nat.reduceSub, Nat.reduceMul, Int.reduceEq, eq_self, reduceIte, rK, cSv, he]
                    refine ret_pure hx ?_
                    simp [go_sem, Nat.reduceLT, Nat.reduceAdd, Nat.reduceEqDiff, Nat.reduceLeDiff, Nat.reduceSub, Nat.reduceMul, Int.reduceEq, eq_self, reduceIte, L12, R12, allRows, eE, he]
              · obtain rfl : m = 0 := by omega
                have hca : commA n c T' t' = (0, T2, t') := by rw [← hrun]; rfl
                rw [hca] at eE eT
                simp only at eE eT
                simp only [go_sem, Nat.reduceLT, Nat.reduceAdd, Nat.reduceEqDiff, Nat.reduceLeDiff, Nat.reduceSub, Nat.reduceMul, Int.reduceEq, eq_self, reduceIte, Int.ofNat_zero, Int.natCast_one, Int.cast_ofNat_Int, Int.reduceLT, Int.reduceLE, Int.reduceToNat, Nat.reduceLT, Int.toNat_zero, Int.natCast_zero, Int.le_refl, Int.lt_irrefl, Int.reduceAdd, frz, false_or, or_true]
                refine ret_pure hx ?_
                simp [go_sem, Nat.reduceLT, Nat.reduceAdd, Nat.reduceEqDiff, Nat.reduceLeDiff, Nat.reduceSub, Nat.reduceMul, Int.reduceEq, eq_self, reduceIte, L12, R12, allRows, eE, eT, pos, frzAt]
end Go.Proofs.Ytocglfkflpkafaa
/- Servers: All: a contract. -/
namespace Go.Proofs.Ytocglfkflpkafaa
set_option linter.unusedSimpArgs false
set_option linter.unusedVariables false
open Go.RowKit
theorem skAll_other (l : List KS) (n c : Int) (h : l.length ≠ 3) : Meets Try.prog 8 [.list (l.map rK), .int .i64 n, .int .i64 c] [] (.tup [.list [], .int .i64 1]) [] := by
  refine Meets.of_walk Try.func8 Try.ntmps8 low8 res8 (by simp) fun x hx => ?_
  have h' : ¬ ((l.length : Int) = 3) := by omega
  simp only [go_sem, Nat.reduceLT, Nat.reduceAdd, Nat.reduceEqDiff, Nat.reduceLeDiff, Nat.reduceSub, Nat.reduceMul, Int.reduceEq, eq_self, reduceIte, L8, R8, h']
  refine ret_pure hx ?_
  simp [go_sem, Nat.reduceLT, Nat.reduceAdd, Nat.reduceEqDiff, Nat.reduceLeDiff, Nat.reduceSub, Nat.reduceMul, Int.reduceEq, eq_self, reduceIte, L8, R8]
theorem skCheckK_meets (s : KS) (hw : s.ws.length * 24 ≤ 140737488355328) (hd : s.ds.length * 8 ≤ 140737488355328) : Meets Try.prog 14 [.agg (rK s)] [] (.int .i64 (svErr s.c s.ws s.ds)) [] := skCheck_meets s.c s.ws s.ds (by omega) (by omega)
theorem skOwnK_meets (s : KS) (hw : s.ws.length * 24 ≤ 140737488355328) (hd : s.ds.length * 8 ≤ 140737488355328) : Meets Try.prog 20 [.agg (rK s)] [] (.ptr 0 0) (hSv 1 1 s.c s.ws s.ds) := skOwn_meets s.c s.ws s.ds hw hd
/-- a keeper of one's own -/
def ownK (s : KS) : KS := ⟨1, 1, s.c, s.ws, s.ds⟩
/-- while keepers are made -/
def stH (n : Int) (T : Nat → KS) : Nat → List AObj
  | 0 => [.box [.int .i64 n], .arr 0 true true 50 1 []]
  | 1 => [.box [.int .i64 n], .arr 1 true true 50 1 [[.ptr 2 0]]] ++ hKat 2 (ownK (T 0))
  | 2 => [.box [.int .i64 n], .arr 2 true true 50 1 [[.ptr 2 0], [.ptr 5 0]]] ++ (hKat 2 (ownK (T 0)) ++ hKat 5 (ownK (T 1)))
  | _ => [.box [.int .i64 n], .arr 3 true true 50 1 [[.ptr 2 0], [.ptr 5 0], [.ptr 8 0]]] ++ (hKat 2 (ownK (T 0)) ++ (hKat 5 (ownK (T 1)) ++ hKat 8 (ownK (T 2))))
/-- keepers whose arrays nobody writes any more -/
def hKs (i : Nat) (s : KS) : List AObj := [.box [.int .i64 s.c, .arr (i + 1) s.a, .arr (i + 2) s.b], .arr s.a false false 48 3 (s.ws.map cW), .arr s.b false false 3 1 (s.ds.map cN)]
def outH (n t : Int) (C : Nat → KS) (k : Nat) : List AObj := [.box [.int .i64 n], .arr 3 true true 50 1 [[.ptr 2 0], [.ptr 5 0], [.ptr 8 0]]] ++ (hKs 2 (C 0) ++ (hKs 5 (C 1) ++ (hKs 8 (C 2) ++ [.box [.int .i64 t], .arr k true false 25 3 ([rK (C 0), rK (C 1), rK (C 2)].take k)])))
set_option maxHeartbeats 8000000 in
theorem skAllX_meets (T : Nat → KS) (n c : Int) (hwl : ∀ j, (T j).ws.length * 24 ≤ 140737488355328 ∧ (T j).ds.length * 8 ≤ 140737488355328) (hone : ∀ j, ownK (T j) = T j) :
    Meets Try.prog 8 [.list [rK (T 0), rK (T 1), rK (T 2)], .int .i64 n, .int .i64 c] [] (.tup [.list (allRows n c T), .int .i64 (allE n c T)]) [] := by
  refine Meets.of_walk Try.func8 Try.ntmps8 low8 res8 (by simp) fun x hx => ?_
  simp only [go_sem, Nat.reduceLT, Nat.reduceAdd, Nat.reduceEqDiff, Nat.reduceLeDiff, Nat.reduceSub, Nat.reduceMul, Int.reduceEq, eq_self, reduceIte, L8, R8, Int.ofNat_zero, Int.natCast_one, Int.cast_ofNat_Int, Int.reduceLT, Int.reduceLE, Int.reduceToNat, Nat.reduceLT, Int.toNat_zero, Int.natCast_zero, Int.le_refl, Int.lt_irrefl, Int.reduceAdd, frz, false_or, or_true]
  refine W_weak (weak_own 8 0 50 1 true true rfl (by omega)) ?_
  rw [put_mk]
  refine loop_sel (fun m st => ∃ k : Nat, m + k = 3 ∧ (∀ j, j < k → okK (T j)) ∧
    st = ⟨mkE .top [(2, .int .i64 c), (4, .ptr 0 0), (8, .arr 1 k), (20, .list [rK (T 0), rK (T 1), rK (T 2)]), (21, .int .i64 3), (22, .int .i64 k)], stH n T k⟩) 3 ?_ ?_
  · refine ⟨_, weak_sel [2, 4, 8, 20, 21, 22] [0, 1] (by simp) (by simp) (by simp [hx]), 0, rfl, fun j hj => by omega, ?_⟩
    simp [sel_mk, go_sem, Nat.reduceLT, Nat.reduceAdd, Nat.reduceEqDiff, Nat.reduceLeDiff, Nat.reduceSub, Nat.reduceMul, Int.reduceEq, eq_self, reduceIte, subHeap, renObj, renCell, renLeaf, pos, stH]
  · rintro m st ⟨k, hmk, hok, rfl⟩
    have hk : k = 0 ∨ k = 1 ∨ k = 2 ∨ k = 3 := by omega
    rcases hk with rfl | rfl | rfl | rfl
    · skip
      simp only [go_sem, Nat.reduceLT, Nat.reduceAdd, Nat.reduceEqDiff, Nat.reduceLeDiff, Nat.reduceSub, Nat.reduceMul, Int.reduceEq, eq_self, reduceIte, rK, cSv, stH, hKat, Int.ofNat_zero, Int.natCast_one, Int.cast_ofNat_Int, Int.reduceLT, Int.reduceLE, Int.reduceToNat, Nat.reduceLT, Int.toNat_zero, Int.natCast_zero, Int.le_refl, Int.lt_irrefl, Int.reduceAdd, frz, false_or, or_true]
      refine ops_call (.pureE (skCheckK_meets (T 0) (hwl 0).1 (hwl 0).2) (by simp [go_sem, Nat.reduceLT, Nat.reduceAdd, Nat.reduceEqDiff, Nat.reduceLeDiff, Nat.reduceSub, Nat.reduceMul, Int.reduceEq, eq_self, reduceIte, rK, cSv])) ?_
      by_cases h0 : svErr (T 0).c (T 0).ws (T 0).ds = 0
      · simp only [go_sem, Nat.reduceLT, Nat.reduceAdd, Nat.reduceEqDiff, Nat.reduceLeDiff, Nat.reduceSub, Nat.reduceMul, Int.reduceEq, eq_self, reduceIte, h0, cSv, Int.ofNat_zero, Int.natCast_one, Int.cast_ofNat_Int, Int.reduceLT, Int.reduceLE, Int.reduceToNat, Nat.reduceLT, Int.toNat_zero, Int.natCast_zero, Int.le_refl, Int.lt_irrefl, Int.reduceAdd, frz, false_or, or_true]
        refine ops_call (.heapE [] (r' := .ptr (3 + 3 * 0) 0) (H' := stH n T 0 ++ [.box (rK (T 0))] ++ hKat (3 + 3 * 0) (ownK (T 0))) (skOwnK_meets (T 0) (hwl 0).1 (hwl 0).2) (by simp) (by simp) (by simp [go_sem, Nat.reduceLT, Nat.reduceAdd, Nat.reduceEqDiff, Nat.reduceLeDiff, Nat.reduceSub, Nat.reduceMul, Int.reduceEq, eq_self, reduceIte, rK, cSv]) rfl rfl rfl) ?_
        simp only [go_sem, Nat.reduceLT, Nat.reduceAdd, Nat.reduceEqDiff, Nat.reduceLeDiff, Nat.reduceSub, Nat.reduceMul, Int.reduceEq, eq_self, reduceIte, stH, hKat, rK, cSv]
        rw [app_arrI rfl rfl (by simp) (by simp)]
        simp only [go_sem, Nat.reduceLT, Nat.reduceAdd, Nat.reduceEqDiff, Nat.reduceLeDiff, Nat.reduceSub, Nat.reduceMul, Int.reduceEq, eq_self, reduceIte, Int.ofNat_zero, Int.natCast_one, Int.cast_ofNat_Int, Int.reduceLT, Int.reduceLE, Int.reduceToNat, Nat.reduceLT, Int.toNat_zero, Int.natCast_zero, Int.le_refl, Int.lt_irrefl, Int.reduceAdd, frz, false_or, or_true, wr1, wr2, wr3]
        refine ⟨2 - 0, _, by omega, weak_sel [2, 4, 8, 20, 21, 22] [0, 1, 3, 4, 5] (by simp) (by simp) (by simp [hx]), 0 + 1, by omega, fun j hj => ?_, ?_⟩
        · by_cases e : j = 0
          · subst e; exact h0
          · exact hok j (by omega)
        · simp [sel_mk, go_sem, Nat.reduceLT, Nat.reduceAdd, Nat.reduceEqDiff, Nat.reduceLeDiff, Nat.reduceSub, Nat.reduceMul, Int.reduceEq, eq_self, reduceIte, subHeap, renObj, renCell, renLeaf, pos, stH, hKat, rK, cSv, ownK]
      · have e : okE3 T = svErr (T 0).c (T 0).ws (T 0).ds := by
          unfold okE3
          rw [if_pos h0]
        have e2 : allE n c T = svErr (T 0).c (T 0).ws (T 0).ds := by rw [allE, if_pos (by rw [e]; exact h0), e]
        simp only [go_sem, Nat.reduceLT, Nat.reduceAdd, Nat.reduceEqDiff, Nat.reduceLeDiff, Nat.reduceSub, Nat.reduceMul, Int.reduceEq, eq_self, reduceIte, h0]
        refine ret_pure hx ?_
        simp [go_sem, Nat.reduceLT, Nat.reduceAdd, Nat.reduceEqDiff, Nat.reduceLeDiff, Nat.reduceSub, Nat.reduceMul, Int.reduceEq, eq_self, reduceIte, L8, R8, allRows, e2, h0]
    · skip
      simp only [go_sem, Nat.reduceLT, Nat.reduceAdd, Nat.reduceEqDiff, Nat.reduceLeDiff, Nat.reduceSub, Nat.reduceMul, Int.reduceEq, eq_self, reduceIte, rK, cSv, stH, hKat, Int.ofNat_zero, Int.natCast_one, Int.cast_ofNat_Int, Int.reduceLT, Int.reduceLE, Int.reduceToNat, Nat.reduceLT, Int.toNat_zero, Int.natCast_zero, Int.le_refl, Int.lt_irrefl, Int.reduceAdd, frz, false_or, or_true]
      refine ops_call (.pureE (skCheckK_meets (T 1) (hwl 1).1 (hwl 1).2) (by simp [go_sem, Nat.reduceLT, Nat.reduceAdd, Nat.reduceEqDiff, Nat.reduceLeDiff, Nat.reduceSub, Nat.reduceMul, Int.reduceEq, eq_self, reduceIte, rK, cSv])) ?_
      by_cases h0 : svErr (T 1).c (T 1).ws (T 1).ds = 0
      · simp only [go_sem, Nat.reduceLT, Nat.reduceAdd, Nat.reduceEqDiff, Nat.reduceLeDiff, Nat.reduceSub, Nat.reduceMul, Int.reduceEq, eq_self, reduceIte, h0, cSv, Int.ofNat_zero, Int.natCast_one, Int.cast_ofNat_Int, Int.reduceLT, Int.reduceLE, Int.reduceToNat, Nat.reduceLT, Int.toNat_zero, Int.natCast_zero, Int.le_refl, Int.lt_irrefl, Int.reduceAdd, frz, false_or, or_true]
        refine ops_call (.heapE [] (r' := .ptr (3 + 3 * 1) 0) (H' := stH n T 1 ++ [.box (rK (T 1))] ++ hKat (3 + 3 * 1) (ownK (T 1))) (skOwnK_meets (T 1) (hwl 1).1 (hwl 1).2) (by simp) (by simp) (by simp [go_sem, Nat.reduceLT, Nat.reduceAdd, Nat.reduceEqDiff, Nat.reduceLeDiff, Nat.reduceSub, Nat.reduceMul, Int.reduceEq, eq_self, reduceIte, rK, cSv]) rfl rfl rfl) ?_
        simp only [go_sem, Nat.reduceLT, Nat.reduceAdd, Nat.reduceEqDiff, Nat.reduceLeDiff, Nat.reduceSub, Nat.reduceMul, Int.reduceEq, eq_self, reduceIte, stH, hKat, rK, cSv]
        rw [app_arrI rfl rfl (by simp) (by simp)]
        simp only [go_sem, Nat.reduceLT, Nat.reduceAdd, Nat.reduceEqDiff, Nat.reduceLeDiff, Nat.reduceSub, Nat.reduceMul, Int.reduceEq, eq_self, reduceIte, Int.ofNat_zero, Int.natCast_one, Int.cast_ofNat_Int, Int.reduceLT, Int.reduceLE, Int.reduceToNat, Nat.reduceLT, Int.toNat_zero, Int.natCast_zero, Int.le_refl, Int.lt_irrefl, Int.reduceAdd, frz, false_or, or_true, wr1, wr2, wr3]
        refine ⟨2 - 1, _, by omega, weak_sel [2, 4, 8, 20, 21, 22] [0, 1, 2, 3, 4, 6, 7, 8] (by simp) (by simp) (by simp [hx]), 1 + 1, by omega, fun j hj => ?_, ?_⟩
        · by_cases e : j = 1
          · subst e; exact h0
          · exact hok j (by omega)
        · simp [sel_mk, go_sem, Nat.reduceLT, Nat.reduceAdd, Nat.reduceEqDiff, Nat.reduceLeDiff, Nat.reduceSub, Nat.reduceMul, Int.reduceEq, eq_self, reduceIte, subHeap, renObj, renCell, renLeaf, pos, stH, hKat, rK, cSv, ownK]
      · have e : okE3 T = svErr (T 1).c (T 1).ws (T 1).ds := by
          unfold okE3
          rw [if_neg (by have := hok 0 (by decide); simp [okK] at this; simp [this]), if_pos h0]
        have e2 : allE n c T = svErr (T 1).c (T 1).ws (T 1).ds := by rw [allE, if_pos (by rw [e]; exact h0), e]
        simp only [go_sem, Nat.reduceLT, Nat.reduceAdd, Nat.reduceEqDiff, Nat.reduceLeDiff, Nat.reduceSub, Nat.reduceMul, Int.reduceEq, eq_self, reduceIte, h0]
        refine ret_pure hx ?_
        simp [go_sem, Nat.reduceLT, Nat.reduceAdd, Nat.reduceEqDiff, Nat.reduceLeDiff, Nat.reduceSub, Nat.reduceMul, Int.reduceEq, eq_self, reduceIte, L8, R8, allRows, e2, h0]
    · skip
      simp only [go_sem, Nat.reduceLT, Nat.reduceAdd, Nat.reduceEqDiff, Nat.reduceLeDiff, Nat.reduceSub, Nat.reduceMul, Int.reduceEq, eq_self, reduceIte, rK, cSv, stH, hKat, Int.ofNat_zero, Int.natCast_one, Int.cast_ofNat_Int, Int.reduceLT, Int.reduceLE, Int.reduceToNat, Nat.reduceLT, Int.toNat_zero, Int.natCast_zero, Int.le_refl, Int.lt_irrefl, Int.reduceAdd, frz, false_or, or_true]
      refine ops_call (.pureE (skCheckK_meets (T 2) (hwl 2).1 (hwl 2).2) (by simp [go_sem, Nat.reduceLT, Nat.reduceAdd, Nat.reduceEqDiff, Nat.reduceLeDiff, Nat.reduceSub, Nat.reduceMul, Int.reduceEq, eq_self, reduceIte, rK, cSv])) ?_
      by_cases h0 : svErr (T 2).c (T 2).ws (T 2).ds = 0
      · simp only [go_sem, Nat.reduceLT, Nat.reduceAdd, Nat.reduceEqDiff, Nat.reduceLeDiff, Nat.reduceSub, Nat.reduceMul, Int.reduceEq, eq_self, reduceIte, h0, cSv, Int.ofNat_zero, Int.natCast_one, Int.cast_ofNat_Int, Int.reduceLT, Int.reduceLE, Int.reduceToNat, Nat.reduceLT, Int.toNat_zero, Int.natCast_zero, Int.le_refl, Int.lt_irrefl, Int.reduceAdd, frz, false_or, or_true]
        refine ops_call (.heapE [] (r' := .ptr (3 + 3 * 2) 0) (H' := stH n T 2 ++ [.box (rK (T 2))] ++ hKat (3 + 3 * 2) (ownK (T 2))) (skOwnK_meets (T 2) (hwl 2).1 (hwl 2).2) (by simp) (by simp) (by simp [go_sem, Nat.reduceLT, Nat.reduceAdd, Nat.reduceEqDiff, Nat.reduceLeDiff, Nat.reduceSub, Nat.reduceMul, Int.reduceEq, eq_self, reduceIte, rK, cSv]) rfl rfl rfl) ?_
        simp only [go_sem, Nat.reduceLT, Nat.reduceAdd, Nat.reduceEqDiff, Nat.reduceLeDiff, Nat.reduceSub, Nat.reduceMul, Int.reduceEq, eq_self, reduceIte, stH, hKat, rK, cSv]
        rw [app_arrI rfl rfl (by simp) (by simp)]
        simp only [go_sem, Nat.reduceLT, Nat.reduceAdd, Nat.reduceEqDiff, Nat.reduceLeDiff, Nat.reduceSub, Nat.reduceMul, Int.reduceEq, eq_self, reduceIte, Int.ofNat_zero, Int.natCast_one, Int.cast_ofNat_Int, Int.reduceLT, Int.reduceLE, Int.reduceToNat, Nat.reduceLT, Int.toNat_zero, Int.natCast_zero, Int.le_refl, Int.lt_irrefl, Int.reduceAdd, frz, false_or, or_true, wr1, wr2, wr3]
        refine ⟨2 - 2, _, by omega, weak_sel [2, 4, 8, 20, 21, 22] [0, 1, 2, 3, 4, 5, 6, 7, 9, 10, 11] (by simp) (by simp) (by simp [hx]), 2 + 1, by omega, fun j hj => ?_, ?_⟩
        · by_cases e : j = 2
          · subst e; exact h0
          · exact hok j (by omega)
        · simp [sel_mk, go_sem, Nat.reduceLT, Nat.reduceAdd, Nat.reduceEqDiff, Nat.reduceLeDiff, Nat.reduceSub, Nat.reduceMul, Int.reduceEq, eq_self, reduceIte, subHeap, renObj, renCell, renLeaf, pos, stH, hKat, rK, cSv, ownK]
      · have e : okE3 T = svErr (T 2).c (T 2).ws (T 2).ds := by
          unfold okE3
          rw [if_neg (by have := hok 0 (by decide); simp [okK] at this; simp [this]), if_neg (by have := hok 1 (by decide); simp [okK] at this; simp [this])]
        have e2 : allE n c T = svErr (T 2).c (T 2).ws (T 2).ds := by rw [allE, if_pos (by rw [e]; exact h0), e]
        simp only [go_sem, Nat.reduceLT, Nat.reduceAdd, Nat.reduceEqDiff, Nat.reduceLeDiff, Nat.reduceSub, Nat.reduceMul, Int.reduceEq, eq_self, reduceIte, h0]
        refine ret_pure hx ?_
        simp [go_sem, Nat.reduceLT, Nat.reduceAdd, Nat.reduceEqDiff, Nat.reduceLeDiff, Nat.reduceSub, Nat.reduceMul, Int.reduceEq, eq_self, reduceIte, L8, R8, allRows, e2, h0]
    · have h0 : okE3 T = 0 := by
        have a := hok 0 (by decide)
        have b := hok 1 (by decide)
        have d := hok 2 (by decide)
        simp only [okK] at a b d
        rw [okE3, if_neg (by simp [a]), if_neg (by simp [b])]; exact d
      simp only [go_sem, Nat.reduceLT, Nat.reduceAdd, Nat.reduceEqDiff, Nat.reduceLeDiff, Nat.reduceSub, Nat.reduceMul, Int.reduceEq, eq_self, reduceIte, Int.ofNat_zero, Int.natCast_one, Int.cast_ofNat_Int, Int.reduceLT, Int.reduceLE, Int.reduceToNat, Nat.reduceLT, Int.toNat_zero, Int.natCast_zero, Int.le_refl, Int.lt_irrefl, Int.reduceAdd, frz, false_or, or_true]
      refine ops_call (.pureE (colors_meets c) (by simp [go_sem, Nat.reduceLT, Nat.reduceAdd, Nat.reduceEqDiff, Nat.reduceLeDiff, Nat.reduceSub, Nat.reduceMul, Int.reduceEq, eq_self, reduceIte])) ?_
      cases hcol : wthn c 1 7
      · have e2 : allE n c T = 3 := by rw [allE, if_neg (by simp [h0]), if_pos hcol]
        simp only [go_sem, Nat.reduceLT, Nat.reduceAdd, Nat.reduceEqDiff, Nat.reduceLeDiff, Nat.reduceSub, Nat.reduceMul, Int.reduceEq, eq_self, reduceIte]
        refine ret_pure hx ?_
        simp [go_sem, Nat.reduceLT, Nat.reduceAdd, Nat.reduceEqDiff, Nat.reduceLeDiff, Nat.reduceSub, Nat.reduceMul, Int.reduceEq, eq_self, reduceIte, L8, R8, allRows, e2]
      · have hP : Meets Try.prog 24 [.arr 2 3, .int .i64 c, .clo 25 [.ptr 0 0, .ptr 1 0]] (hA 3 n 0 T) (.int .i64 (propA n c T).1) (hA 3 n (propA n c T).2.2 (propA n c T).2.1) :=
          skAll_meets 25 (by kernel_rfl) (fun s _ => propErr s.c s.ws s.ds n) (fun s _ => propK s n) (fun s t => maxI t (propK s n).c) T 3 n 0 c hcol fun k hk t => by
            obtain ⟨o1, o2, o3, o4, -⟩ := okK_in (hok k hk)
            exact skAll1_meets (T k) n t o4 o1 o2 o3
        have hfit := fun j hj => fit_propA (n := n) (c := c) hok j hj
        have eE : allE n c T = if (propA n c T).1 ≠ 0 then (propA n c T).1 else (commA n c (propA n c T).2.1 (propA n c T).2.2).1 := by rw [allE, if_neg (by simp [h0]), if_neg (by simp [hcol])]
        have eT : allT n c T = (commA n c (propA n c T).2.1 (propA n c T).2.2).2.1 := rfl
        obtain ⟨⟨e1, P, t1⟩, hp⟩ : ∃ p, propA n c T = p := ⟨_, rfl⟩
        rw [hp] at hP hfit eE eT
        simp only at hP hfit eE eT
        simp only [go_sem, Nat.reduceLT, Nat.reduceAdd, Nat.reduceEqDiff, Nat.reduceLeDiff, Nat.reduceSub, Nat.reduceMul, Int.reduceEq, eq_self, reduceIte, stH, hKat, hone, Int.ofNat_zero, Int.natCast_one, Int.cast_ofNat_Int, Int.reduceLT, Int.reduceLE, Int.reduceToNat, Nat.reduceLT, Int.toNat_zero, Int.natCast_zero, Int.le_refl, Int.lt_irrefl, Int.reduceAdd, frz, false_or, or_true]
        refine ops_call (.heapE [0, 11, 1, 2, 3, 4, 5, 6, 7, 8, 9, 10] (r' := .int .i64 e1) (H' := [.box [.int .i64 n], .arr 3 true true 50 1 [[.ptr 2 0], [.ptr 5 0], [.ptr 8 0]]] ++ (hKat 2 (P 0) ++ (hKat 5 (P 1) ++ (hKat 8 (P 2) ++ [.box [.int .i64 t1]])))) hP (by decide) (by simp) (by simp [go_sem, Nat.reduceLT, Nat.reduceAdd, Nat.reduceEqDiff, Nat.reduceLeDiff, Nat.reduceSub, Nat.reduceMul, Int.reduceEq, eq_self, reduceIte, pos]) rfl rfl rfl) ?_
        by_cases h1 : e1 = 0
        · have hC : Meets Try.prog 24 [.arr 2 3, .int .i64 c, .clo 26 [.ptr 0 0, .ptr 1 0]] (hA 3 n t1 P) (.int .i64 (commA n c P t1).1) (hA 3 n (commA n c P t1).2.2 (commA n c P t1).2.1) :=
            skAll_meets 26 (by kernel_rfl) (fun s t => commErr s.ws s.ds n t) (fun s t => commK s n t) (fun _ t => t) P 3 n t1 c hcol fun k hk t => by
              obtain ⟨o2, o3, o4, -⟩ := hfit k hk
              exact skAll2_meets (P k) n t o4 o2 o3
          rw [if_neg (by simp [h1])] at eE
          obtain ⟨⟨e2, C, t2⟩, hc2⟩ : ∃ p, commA n c P t1 = p := ⟨_, rfl⟩
          rw [hc2] at hC eE eT
          simp only at hC eE eT
          simp only [go_sem, Nat.reduceLT, Nat.reduceAdd, Nat.reduceEqDiff, Nat.reduceLeDiff, Nat.reduceSub, Nat.reduceMul, Int.reduceEq, eq_self, reduceIte, hKat, Int.ofNat_zero, Int.natCast_one, Int.cast_ofNat_Int, Int.reduceLT, Int.reduceLE, Int.reduceToNat, Nat.reduceLT, Int.toNat_zero, Int.natCast_zero, Int.le_refl, Int.lt_irrefl, Int.reduceAdd, frz, false_or, or_true, h1]
          refine ops_call (.heapE [0, 11, 1, 2, 3, 4, 5, 6, 7, 8, 9, 10] (r' := .int .i64 e2) (H' := [.box [.int .i64 n], .arr 3 true true 50 1 [[.ptr 2 0], [.ptr 5 0], [.ptr 8 0]]] ++ (hKat 2 (C 0) ++ (hKat 5 (C 1) ++ (hKat 8 (C 2) ++ [.box [.int .i64 t2]])))) hC (by decide) (by simp) (by simp [go_sem, Nat.reduceLT, Nat.reduceAdd, Nat.reduceEqDiff, Nat.reduceLeDiff, Nat.reduceSub, Nat.reduceMul, Int.reduceEq, eq_self, reduceIte, pos]) rfl rfl rfl) ?_
          by_cases h2 : e2 = 0
          · simp only [go_sem, Nat.reduceLT, Nat.reduceAdd, Nat.reduceEqDiff, Nat.reduceLeDiff, Nat.reduceSub, Nat.reduceMul, Int.reduceEq, eq_self, reduceIte, hKat, Int.ofNat_zero, Int.natCast_one, Int.cast_ofNat_Int, Int.reduceLT, Int.reduceLE, Int.reduceToNat, Nat.reduceLT, Int.toNat_zero, Int.natCast_zero, Int.le_refl, Int.lt_irrefl, Int.reduceAdd, frz, false_or, or_true, h2]
            refine W_weak (weak_shut 3 rfl) ?_
            refine W_weak (weak_shut 4 rfl) ?_
            refine W_weak (weak_shut 6 rfl) ?_
            refine W_weak (weak_shut 7 rfl) ?_
            refine W_weak (weak_shut 9 rfl) ?_
            refine W_weak (weak_shut 10 rfl) ?_
            refine W_weak (weak_own 14 0 25 3 true false rfl (by omega)) ?_
            simp only [go_sem, Nat.reduceLT, Nat.reduceAdd, Nat.reduceEqDiff, Nat.reduceLeDiff, Nat.reduceSub, Nat.reduceMul, Int.reduceEq, eq_self, reduceIte]
            refine loop_keep [14, 53, 54, 55] (fun m st => ∃ k : Nat, m + k = 3 ∧
              st = ⟨mkE .top [(14, .arr 12 k), (53, .arr 1 3), (54, .int .i64 3), (55, .int .i64 k)], outH n t2 C k⟩) 3 ?_ ?_
            · refine ⟨0, rfl, ?_⟩
              simp [keep_mk, mkE_cons, mkE_nil, outH, hKs]
            · rintro m st ⟨k, hmk, rfl⟩
              have hk : k = 0 ∨ k = 1 ∨ k = 2 ∨ k = 3 := by omega
              rcases hk with rfl | rfl | rfl | rfl
              · skip
                simp only [go_sem, Nat.reduceLT, Nat.reduceAdd, Nat.reduceEqDiff, Nat.reduceLeDiff, Nat.reduceSub, Nat.reduceMul, Int.reduceEq, eq_self, reduceIte, outH, hKs, Int.ofNat_zero, Int.natCast_one, Int.cast_ofNat_Int, Int.reduceLT, Int.reduceLE, Int.reduceToNat, Nat.reduceLT, Int.toNat_zero, Int.natCast_zero, Int.le_refl, Int.lt_irrefl, Int.reduceAdd, frz, false_or, or_true]
                rw [app_arrF rfl rfl (by simp) (by simp [go_sem, Nat.reduceLT, Nat.reduceAdd, Nat.reduceEqDiff, Nat.reduceLeDiff, Nat.reduceSub, Nat.reduceMul, Int.reduceEq, eq_self, reduceIte, frz, PV.isPure]) (by simp)]
                simp only [go_sem, Nat.reduceLT, Nat.reduceAdd, Nat.reduceEqDiff, Nat.reduceLeDiff, Nat.reduceSub, Nat.reduceMul, Int.reduceEq, eq_self, reduceIte, Int.ofNat_zero, Int.natCast_one, Int.cast_ofNat_Int, Int.reduceLT, Int.reduceLE, Int.reduceToNat, Nat.reduceLT, Int.toNat_zero, Int.natCast_zero, Int.le_refl, Int.lt_irrefl, Int.reduceAdd, frz, false_or, or_true, wr1, wr2, wr3]
                refine ⟨2 - 0, by omega, 0 + 1, by omega, ?_⟩
                simp [keep_mk, mkE_cons, mkE_nil, outH, hKs, frz, rK, cSv]
              · skip
                simp only [go_sem, Nat.reduceLT, Nat.reduceAdd, Nat.reduceEqDiff, Nat.reduceLeDiff, Nat.reduceSub, Nat.reduceMul, Int.reduceEq, eq_self, reduceIte, outH, hKs, Int.ofNat_zero, Int.natCast_one, Int.cast_ofNat_Int, Int.reduceLT, Int.reduceLE, Int.reduceToNat, Nat.reduceLT, Int.toNat_zero, Int.natCast_zero, Int.le_refl, Int.lt_irrefl, Int.reduceAdd, frz, false_or, or_true]
                rw [app_arrF rfl rfl (by simp) (by simp [go_sem, Nat.reduceLT, Nat.reduceAdd, Nat.reduceEqDiff, Nat.reduceLeDiff, Nat.reduceSub, Nat.reduceMul, Int.reduceEq, eq_self, reduceIte, frz, PV.isPure]) (by simp)]
                simp only [go_sem, Nat.reduceLT, Nat.reduceAdd, Nat.reduceEqDiff, Nat.reduceLeDiff, Nat.reduceSub, Nat.reduceMul, Int.reduceEq, eq_self, reduceIte, Int.ofNat_zero, Int.natCast_one, Int.cast_ofNat_Int, Int.reduceLT, Int.reduceLE, Int.reduceToNat, Nat.reduceLT, Int.toNat_zero, Int.natCast_zero, Int.le_refl, Int.lt_irrefl, Int.reduceAdd, frz, false_or, or_true, wr1, wr2, wr3]
                refine ⟨2 - 1, by omega, 1 + 1, by omega, ?_⟩
                simp [keep_mk, mkE_cons, mkE_nil, outH, hKs, frz, rK, cSv]
              · skip
                simp only [go_sem, Nat.reduceLT, Nat.reduceAdd, Nat.reduceEqDiff, Nat.reduceLeDiff, Nat.reduceSub, Nat.reduceMul, Int.reduceEq, eq_self, reduceIte, outH, hKs, Int.ofNat_zero, Int.natCast_one, Int.cast_ofNat_Int, Int.reduceLT, Int.reduceLE, Int.reduceToNat, Nat.reduceLT, Int.toNat_zero, Int.natCast_zero, Int.le_refl, Int.lt_irrefl, Int.reduceAdd, frz, false_or, or_true]
                rw [app_arrF rfl rfl (by simp) (by simp [go_sem, Nat.reduceLT, Nat.reduceAdd, Nat.reduceEqDiff, Nat.reduceLeDiff, Nat.reduceSub, Nat.reduceMul, Int.reduceEq, eq_self, reduceIte, frz, PV.isPure]) (by simp)]
                simp only [go_sem, Nat.reduceLT, Nat.reduceAdd, Nat.reduceEqDiff, Nat.reduceLeDiff, Nat.reduceSub, Nat.reduceMul, Int.reduceEq, eq_self, reduceIte, Int.ofNat_zero, Int.natCast_one, Int.cast_ofNat_Int, Int.reduceLT, Int.reduceLE, Int.reduceToNat, Nat.reduceLT, Int.toNat_zero, Int.natCast_zero, Int.le_refl, Int.lt_irrefl, Int.reduceAdd, frz, false_or, or_true, wr1, wr2, wr3]
                refine ⟨2 - 2, by omega, 2 + 1, by omega, ?_⟩
                simp [keep_mk, mkE_cons, mkE_nil, outH, hKs, frz, rK, cSv]
              · simp only [go_sem, Nat.reduceLT, Nat.reduceAdd, Nat.reduceEqDiff, Nat.reduceLeDiff, Nat.reduceSub, Nat.reduceMul, Int.reduceEq, eq_self, reduceIte, outH, hKs, Int.ofNat_zero, Int.natCast_one, Int.cast_ofNat_Int, Int.reduceLT, Int.reduceLE, Int.reduceToNat, Nat.reduceLT, Int.toNat_zero, Int.natCast_zero, Int.le_refl, Int.lt_irrefl, Int.reduceAdd, frz, false_or, or_true]
                refine ret_pure hx ?_
                simp [go_sem, Nat.reduceLT, Nat.reduceAdd, Nat.reduceEqDiff, Nat.reduceLeDiff, Nat.reduceSub, Nat.reduceMul, Int.reduceEq, eq_self, reduceIte, L8, R8, allRows, eE, eT, h2, pos, frzAt]
          · rw [h1] at *
            have e3 : allE n c T ≠ 0 := by rw [eE]; exact h2
            simp only [go_sem, Nat.reduceLT, Nat.reduceAdd, Nat.reduceEqDiff, Nat.reduceLeDiff, Nat.reduceSub, Nat.reduceMul, Int.reduceEq, eq_self, reduceIte, hKat, h2]
            refine ret_pure hx ?_
            simp [go_sem, Nat.reduceLT, Nat.reduceAdd, Nat.reduceEqDiff, Nat.reduceLeDiff, Nat.reduceSub, Nat.reduceMul, Int.reduceEq, eq_self, reduceIte, L8, R8, allRows, eE, h2]
        · rw [if_pos h1] at eE
          simp only [go_sem, Nat.reduceLT, Nat.reduceAdd, Nat.reduceEqDiff, Nat.reduceLeDiff, Nat.reduceSub, Nat.reduceMul, Int.reduceEq, eq_self, reduceIte, hKat, h1]
          refine ret_pure hx ?_
          simp [go_sem, Nat.reduceLT, Nat.reduceAdd, Nat.reduceEqDiff, Nat.reduceLeDiff, Nat.reduceSub, Nat.reduceMul, Int.reduceEq, eq_self, reduceIte, L8, R8, allRows, eE, h1]
end Go.Proofs.Ytocglfkflpkafaa
/- Servers: SameServers; what must be in any case: contracts. -/
namespace Go.Proofs.Ytocglfkflpkafaa
set_option linter.unusedSimpArgs false
set_option linter.unusedVariables false
open Go.RowKit
/-- arguments that say more -/
theorem Meets.nla {P : Program} {f : Nat} {args args' : List PV} {Hs Hs' : List AObj} {r : PV} (n : Nat) (h : Meets P f args' Hs r Hs') (he : args.map (nlN n) = args') : Meets P f args Hs r Hs' := by
  intro x vs hx h0 hp
  refine h x vs hx h0 ?_
  subst he
  refine ⟨by simpa using hp.1, fun j p v hj hv => ?_⟩
  obtain ⟨q, h4, rfl⟩ := map_get hj
  exact nlN_V n (hp.2 j q v h4 hv)
def nthK (l : List KS) (k : Nat) : KS := l.getD k ⟨1, 1, 0, [], []⟩
theorem sameServers_meets (l : List KS) (hl : l.length ≤ 9223372036854775806) (hwl : ∀ s ∈ l, s.ws.length ≤ 9223372036854775806 ∧ s.ds.length ≤ 9223372036854775806) : Meets Try.prog 16 [.list (l.map rK), .list (l.map rK)] [] (.bool true) [] := by
  refine Meets.of_walk Try.func16 Try.ntmps16 low16 res16 (by simp) fun x hx => ?_
  simp only [go_sem, Nat.reduceLT, Nat.reduceAdd, Nat.reduceEqDiff, Nat.reduceLeDiff, Nat.reduceSub, Nat.reduceMul, Int.reduceEq, eq_self, reduceIte, L16, R16]
  refine loop_inv [0, 1, 5] 0 (fun n st => ∃ k : Nat, k + n = l.length ∧
    st = ⟨mkE .top [(0, .list (l.map rK)), (1, .list (l.map rK)), (5, .int .i64 k)], []⟩) l.length (by simp [hx]) (by simp) ?_ ?_
  · refine ⟨0, by omega, ?_⟩
    simp [trim_mk, go_sem, Nat.reduceLT, Nat.reduceAdd, Nat.reduceEqDiff, Nat.reduceLeDiff, Nat.reduceSub, Nat.reduceMul, Int.reduceEq, eq_self, reduceIte, subHeap, renObj, pos]
  · rintro n st ⟨k, hk, rfl⟩
    by_cases hlt : k < l.length
    · have hg : l[k]? = some (nthK l k) := by rw [nthK, List.getD, List.getElem?_eq_getElem hlt]; rfl
      obtain ⟨a, b⟩ := hwl _ (List.mem_of_getElem? hg)
      have wk := i64_up (k := k) (by omega)
      simp only [go_sem, Nat.reduceLT, Nat.reduceAdd, Nat.reduceEqDiff, Nat.reduceLeDiff, Nat.reduceSub, Nat.reduceMul, Int.reduceEq, eq_self, reduceIte, hlt, hg, rK, cSv]
      refine ops_call (.pureE (sameServer_meets (nthK l k).c (nthK l k).ws (nthK l k).ds a b) (by simp [go_sem, Nat.reduceLT, Nat.reduceAdd, Nat.reduceEqDiff, Nat.reduceLeDiff, Nat.reduceSub, Nat.reduceMul, Int.reduceEq, eq_self, reduceIte, cSv])) ?_
      simp only [go_sem, Nat.reduceLT, Nat.reduceAdd, Nat.reduceEqDiff, Nat.reduceLeDiff, Nat.reduceSub, Nat.reduceMul, Int.reduceEq, eq_self, reduceIte, wk]
      refine ⟨by simp, n - 1, by omega, k + 1, by omega, ?_⟩
      simp [trim_mk, go_sem, Nat.reduceLT, Nat.reduceAdd, Nat.reduceEqDiff, Nat.reduceLeDiff, Nat.reduceSub, Nat.reduceMul, Int.reduceEq, eq_self, reduceIte, subHeap, renObj, pos]
    · simp only [go_sem, Nat.reduceLT, Nat.reduceAdd, Nat.reduceEqDiff, Nat.reduceLeDiff, Nat.reduceSub, Nat.reduceMul, Int.reduceEq, eq_self, reduceIte, hlt]
      refine ret_pure hx ?_
      simp [go_sem, Nat.reduceLT, Nat.reduceAdd, Nat.reduceEqDiff, Nat.reduceLeDiff, Nat.reduceSub, Nat.reduceMul, Int.reduceEq, eq_self, reduceIte, L16, R16]
def sbT : Nat → KS := fun j => ⟨1, 1, if j = 0 then 3 else if j = 1 then 0 else 1, [], []⟩
set_option maxRecDepth 10000 in
theorem skeenBegun_meets : Meets Try.prog 13 [] [] (.bool true) [] := by
  have e1 : propE 4 [] [] 7 = 0 := by decide +kernel
  have r1 : propR 4 [] [] 7 = (5, [⟨7, 5, false⟩], []) := by decide +kernel
  have e2 : commE 5 [⟨7, 5, false⟩] [] 7 9 = 0 := by decide +kernel
  have r2 : commR 5 [⟨7, 5, false⟩] [] 7 9 = (9, [], [7]) := by decide +kernel
  have e3 : allE 2 5 sbT = 0 := by decide +kernel
  have r3 : allRows 2 5 sbT = [cSv 4 [] [2], cSv 0 [] [], cSv 4 [] [2]] := by kernel_rfl
  have e4 : svErr 5 [⟨7, 5, false⟩] [] = 0 := by decide +kernel
  have hall := skAllX_meets sbT 2 5 (fun j => by simp [sbT]) (fun j => rfl)
  rw [e3, r3] at hall
  refine Meets.of_walk Try.func13 Try.ntmps13 low13 res13 (by simp) fun x hx => ?_
  simp only [go_sem, Nat.reduceLT, Nat.reduceAdd, Nat.reduceEqDiff, Nat.reduceLeDiff, Nat.reduceSub, Nat.reduceMul, Int.reduceEq, eq_self, reduceIte, L13, R13]
  refine ops_call (.pureE (skProposeX_meets 4 [] [] 7 (by simp) (by simp)) (by simp [go_sem, Nat.reduceLT, Nat.reduceAdd, Nat.reduceEqDiff, Nat.reduceLeDiff, Nat.reduceSub, Nat.reduceMul, Int.reduceEq, eq_self, reduceIte, cSv])) ?_
  rw [e1, r1]
  simp only [go_sem, Nat.reduceLT, Nat.reduceAdd, Nat.reduceEqDiff, Nat.reduceLeDiff, Nat.reduceSub, Nat.reduceMul, Int.reduceEq, eq_self, reduceIte, cSv3, cSv]
  refine ops_call (.pureE (skCommitX_meets 5 [⟨7, 5, false⟩] [] 7 9 (by simp) (by simp)) (by simp [go_sem, Nat.reduceLT, Nat.reduceAdd, Nat.reduceEqDiff, Nat.reduceLeDiff, Nat.reduceSub, Nat.reduceMul, Int.reduceEq, eq_self, reduceIte, cSv])) ?_
  rw [e2, r2]
  simp only [go_sem, Nat.reduceLT, Nat.reduceAdd, Nat.reduceEqDiff, Nat.reduceLeDiff, Nat.reduceSub, Nat.reduceMul, Int.reduceEq, eq_self, reduceIte, cSv3, cSv]
  refine ops_call (.pureE (hall.nla (args := [.list [[.int .i64 3, .nilsl, .nilsl], [.int .i64 0, .nilsl, .nilsl], [.int .i64 1, .nilsl, .nilsl]], .int .i64 2, .int .i64 5]) 3 rfl) (by simp [go_sem, Nat.reduceLT, Nat.reduceAdd, Nat.reduceEqDiff, Nat.reduceLeDiff, Nat.reduceSub, Nat.reduceMul, Int.reduceEq, eq_self, reduceIte])) ?_
  simp only [go_sem, Nat.reduceLT, Nat.reduceAdd, Nat.reduceEqDiff, Nat.reduceLeDiff, Nat.reduceSub, Nat.reduceMul, Int.reduceEq, eq_self, reduceIte, cSv]
  refine ops_call (.pureE (skCheck_meets 5 [⟨7, 5, false⟩] [] (by simp) (by simp)) (by simp [go_sem, Nat.reduceLT, Nat.reduceAdd, Nat.reduceEqDiff, Nat.reduceLeDiff, Nat.reduceSub, Nat.reduceMul, Int.reduceEq, eq_self, reduceIte, cSv])) ?_
  rw [e4]
  simp only [go_sem, Nat.reduceLT, Nat.reduceAdd, Nat.reduceEqDiff, Nat.reduceLeDiff, Nat.reduceSub, Nat.reduceMul, Int.reduceEq, eq_self, reduceIte, cSv, Int.ofNat_zero, Int.natCast_one, Int.cast_ofNat_Int, Int.reduceLT, Int.reduceLE, Int.reduceToNat, Nat.reduceLT, Int.toNat_zero, Int.natCast_zero, Int.le_refl, Int.lt_irrefl, Int.reduceAdd, frz, false_or, or_true]
  refine ret_pure hx ?_
  simp [go_sem, Nat.reduceLT, Nat.reduceAdd, Nat.reduceEqDiff, Nat.reduceLeDiff, Nat.reduceSub, Nat.reduceMul, Int.reduceEq, eq_self, reduceIte, L13, R13]
end Go.Proofs.Ytocglfkflpkafaa
/- SkeenTells, as a contract. -/
namespace Go.Proofs.Ytocglfkflpkafaa
set_option linter.unusedSimpArgs false
set_option linter.unusedVariables false
open Go.RowKit
theorem propR_if (c : Int) (ws : List Wt) (ds : List Int) (n : Int) : cSv3 (propR c ws ds n) = if propE c ws ds n = 0 then cSv (propR c ws ds n).1 (propR c ws ds n).2.1 (propR c ws ds n).2.2 else cSv 0 [] [] := by
  unfold propR cSv3
  split <;> rfl
theorem commR_if (c : Int) (ws : List Wt) (ds : List Int) (n t : Int) : cSv3 (commR c ws ds n t) = if commE c ws ds n t = 0 then cSv (commR c ws ds n t).1 (commR c ws ds n t).2.1 (commR c ws ds n t).2.2 else cSv 0 [] [] := by
  unfold commR cSv3
  split <;> rfl
theorem swept_len (ws : List Wt) (ds : List Int) : (swept ws ds).1.length ≤ ws.length ∧ (swept ws ds).2.length ≤ ws.length + ds.length := by
  have := sweepN_len ws.length ws ds
  unfold swept
  omega
theorem propR_len {c : Int} {ws : List Wt} {ds : List Int} {n : Int} : (propR c ws ds n).2.1.length ≤ 9 ∧ (propR c ws ds n).2.2.length ≤ 30 := by
  unfold propR
  split
  · rename_i h
    have h0 : svErr c ws ds = 0 := by
      unfold propE at h
      split at h
      · exact h
      · rename_i h2; simpa using h2
    obtain ⟨-, a, b, -⟩ := svErr_ok h0
    exact ⟨by simp only [ins_len ws _ (posW_le ws n)]; omega, b⟩
  · simp
theorem commR_len {c : Int} {ws : List Wt} {ds : List Int} {n t : Int} : (commR c ws ds n t).2.1.length ≤ 9 ∧ (commR c ws ds n t).2.2.length ≤ 39 := by
  unfold commR
  split
  · rename_i h
    have h0 : svErr c ws ds = 0 := by
      unfold commE at h
      split at h
      · exact h
      · rename_i h2; simpa using h2
    obtain ⟨-, a, b, -⟩ := svErr_ok h0
    have := swept_len (setW ws n t) ds
    have h2 : (setW ws n t).length = ws.length := by rw [setW, List.length_set]
    simp only
    omega
  · simp
/-- what All and AllOf answer, whatever they are handed -/
def allEL (n c : Int) (l : List KS) : Int := if l.length = 3 then allE n c (nthK l) else 1
def allRL (n c : Int) (l : List KS) : List KS := if l.length = 3 ∧ allE n c (nthK l) = 0 then [allT n c (nthK l) 0, allT n c (nthK l) 1, allT n c (nthK l) 2] else []
def szK (s : KS) : Prop := s.ws.length * 24 ≤ 140737488355328 ∧ s.ds.length * 8 ≤ 140737488355328
theorem all_rows {n c : Int} {l : List KS} (h : l.length = 3) : allRows n c (nthK l) = (allRL n c l).map rK := by
  unfold allRows allRL
  by_cases h0 : allE n c (nthK l) = 0
  · rw [if_neg (by simp [h0]), if_pos ⟨h, h0⟩]; rfl
  · rw [if_pos h0, if_neg (fun q => h0 q.2)]; rfl
theorem three_map {l : List KS} (h : l.length = 3) : l.map rK = [rK (nthK l 0), rK (nthK l 1), rK (nthK l 2)] := by
  obtain ⟨a, b, c, rfl⟩ : ∃ a b c, l = [a, b, c] := by
    match l, h with
    | [a, b, c], _ => exact ⟨a, b, c, rfl⟩
  rfl
theorem nthK_all {l : List KS} {p : KS → Prop} (h : ∀ s ∈ l, p s) (h0 : p ⟨1, 1, 0, [], []⟩) (j : Nat) : p (nthK l j) := by
  unfold nthK
  by_cases hj : j < l.length
  · rw [List.getD, List.getElem?_eq_getElem hj]; exact h _ (List.getElem_mem hj)
  · rw [List.getD, List.getElem?_eq_none (by omega)]; exact h0
theorem allX_meets (l : List KS) (n c : Int) (hs : ∀ s ∈ l, szK s ∧ ownK s = s) : Meets Try.prog 8 [.list (l.map rK), .int .i64 n, .int .i64 c] [] (.tup [.list ((allRL n c l).map rK), .int .i64 (allEL n c l)]) [] := by
  by_cases h : l.length = 3
  · have := skAllX_meets (nthK l) n c (nthK_all (fun s hm => (hs s hm).1) ⟨by decide, by decide⟩) (nthK_all (fun s hm => (hs s hm).2) rfl)
    rw [all_rows h, ← three_map h] at this
    rw [allEL, if_pos h]; exact this
  · have := skAll_other l n c h
    rw [allEL, if_neg h, allRL, if_neg (fun q => h q.1)]
    exact this
theorem allOfX_meets (l : List KS) (n c : Int) (hs : ∀ s ∈ l, szK s ∧ ownK s = s) : Meets Try.prog 12 [.list (l.map rK), .int .i64 n, .int .i64 c] [] (.tup [.list ((allRL n c l).map rK), .int .i64 (allEL n c l)]) [] := by
  by_cases h : l.length = 3
  · have := allOf_meets (nthK l) n c (nthK_all (fun s hm => (hs s hm).1) ⟨by decide, by decide⟩)
    rw [all_rows h, ← three_map h] at this
    rw [allEL, if_pos h]; exact this
  · have := allOf_other l n c h
    rw [allEL, if_neg h, allRL, if_neg (fun q => h q.1)]
    exact this
theorem commK_len (s : KS) (n t : Int) (h : fitK s) : (commK s n t).ws.length ≤ 9 ∧ (commK s n t).ds.length ≤ 39 := by
  obtain ⟨a, b, -⟩ := h
  unfold commK
  split
  · omega
  · have := swept_len (setW s.ws n t) s.ds
    have h2 : (setW s.ws n t).length = s.ws.length := by rw [setW, List.length_set]
    simp only; omega
theorem allRL_len {n c : Int} {l : List KS} : ∀ s ∈ allRL n c l, s.ws.length ≤ 9 ∧ s.ds.length ≤ 39 := by
  intro s hs
  unfold allRL at hs
  split at hs
  · rename_i h
    have h0 : okE3 (nthK l) = 0 := by
      have := h.2
      unfold allE at this
      split at this
      · exact this
      · rename_i h2; simpa using h2
    have hfit := fun j hj => fit_propA (n := n) (c := c) (okE3_ok h0) j hj
    have := runK_val (E := fun s t => commErr s.ws s.ds n t) (N := fun s t => commK s n t) (U := fun _ t => t) (bit := bitB c) (V := fitK) (V' := fun s => s.ws.length ≤ 9 ∧ s.ds.length ≤ 39) (fun s hs => by
      obtain ⟨a, b, -⟩ := hs; omega) (fun s t hs => commK_len s n t hs) 3 (propA n c (nthK l)).2.1 (propA n c (nthK l)).2.2 (Nat.le_refl _) (fun j hj => by omega) (fun j _ hj => hfit j hj)
    simp only [List.mem_cons, List.not_mem_nil, or_false] at hs
    rcases hs with rfl | rfl | rfl
    · exact this 0 (by decide)
    · exact this 1 (by decide)
    · exact this 2 (by decide)
  · simp at hs
theorem allRL_small {n c : Int} {l : List KS} : (allRL n c l).length ≤ 3 := by
  unfold allRL; split <;> simp
theorem serverIs_prop (c : Int) (ws : List Wt) (ds : List Int) (n : Int) : Meets Try.prog 15 [.agg (cSv3 (propR c ws ds n)), .int .i64 (propE c ws ds n), .int .i64 (propE c ws ds n), .agg (cSv3 (propR c ws ds n))] [] (.bool true) [] := by
  obtain ⟨a, b⟩ := propR_len (c := c) (ws := ws) (ds := ds) (n := n)
  have := serverIs_meets (propE c ws ds n) (propR c ws ds n).1 (propR c ws ds n).2.1 (propR c ws ds n).2.2 (by omega) (by omega)
  rw [← propR_if] at this
  exact this
theorem serverIs_comm (c : Int) (ws : List Wt) (ds : List Int) (n t : Int) : Meets Try.prog 15 [.agg (cSv3 (commR c ws ds n t)), .int .i64 (commE c ws ds n t), .int .i64 (commE c ws ds n t), .agg (cSv3 (commR c ws ds n t))] [] (.bool true) [] := by
  obtain ⟨a, b⟩ := commR_len (c := c) (ws := ws) (ds := ds) (n := n) (t := t)
  have := serverIs_meets (commE c ws ds n t) (commR c ws ds n t).1 (commR c ws ds n t).2.1 (commR c ws ds n t).2.2 (by omega) (by omega)
  rw [← commR_if] at this
  exact this
set_option maxHeartbeats 2000000 in
theorem skeenTells_meets (s : KS) (n t : Int) (l : List KS) (c : Int) (hsz : szK s) (hs : ∀ s ∈ l, szK s ∧ ownK s = s) :
    Meets Try.prog 3 [.agg (rK s), .int .i64 n, .int .i64 t, .list (l.map rK), .int .i64 c] [] (.bool true) [] := by
  obtain ⟨hw, hd⟩ := hsz
  have p1 := propR_if s.c s.ws s.ds n
  have p2 := commR_if s.c s.ws s.ds n t
  obtain ⟨pl1, pl2⟩ := propR_len (c := s.c) (ws := s.ws) (ds := s.ds) (n := n)
  obtain ⟨cl1, cl2⟩ := commR_len (c := s.c) (ws := s.ws) (ds := s.ds) (n := n) (t := t)
  refine Meets.of_walk Try.func3 Try.ntmps3 low3 res3 (by simp) fun x hx => ?_
  simp only [go_sem, Nat.reduceLT, Nat.reduceAdd, Nat.reduceEqDiff, Nat.reduceLeDiff, Nat.reduceSub, Nat.reduceMul, Int.reduceEq, eq_self, reduceIte, L3, R3, rK, cSv]
  refine ops_call (.pureE (skProposeX_meets s.c s.ws s.ds n hw hd) (by simp [go_sem, Nat.reduceLT, Nat.reduceAdd, Nat.reduceEqDiff, Nat.reduceLeDiff, Nat.reduceSub, Nat.reduceMul, Int.reduceEq, eq_self, reduceIte, cSv])) ?_
  simp only [go_sem, Nat.reduceLT, Nat.reduceAdd, Nat.reduceEqDiff, Nat.reduceLeDiff, Nat.reduceSub, Nat.reduceMul, Int.reduceEq, eq_self, reduceIte, cSv3, cSv]
  refine ops_call (.pureE (skCommitX_meets s.c s.ws s.ds n t hw hd) (by simp [go_sem, Nat.reduceLT, Nat.reduceAdd, Nat.reduceEqDiff, Nat.reduceLeDiff, Nat.reduceSub, Nat.reduceMul, Int.reduceEq, eq_self, reduceIte, cSv])) ?_
  simp only [go_sem, Nat.reduceLT, Nat.reduceAdd, Nat.reduceEqDiff, Nat.reduceLeDiff, Nat.reduceSub, Nat.reduceMul, Int.reduceEq, eq_self, reduceIte, cSv3, cSv]
  refine ops_call (.pureE (allX_meets l n c hs) (by simp [go_sem, Nat.reduceLT, Nat.reduceAdd, Nat.reduceEqDiff, Nat.reduceLeDiff, Nat.reduceSub, Nat.reduceMul, Int.reduceEq, eq_self, reduceIte])) ?_
  simp only [go_sem, Nat.reduceLT, Nat.reduceAdd, Nat.reduceEqDiff, Nat.reduceLeDiff, Nat.reduceSub, Nat.reduceMul, Int.reduceEq, eq_self, reduceIte, cSv3, cSv]
  refine ops_call (.pureE (checkServer_meets s.c s.ws s.ds (by omega) (by omega)) (by simp [go_sem, Nat.reduceLT, Nat.reduceAdd, Nat.reduceEqDiff, Nat.reduceLeDiff, Nat.reduceSub, Nat.reduceMul, Int.reduceEq, eq_self, reduceIte, cSv])) ?_
  by_cases h0 : svErr s.c s.ws s.ds = 0
  · obtain ⟨hc, hw8, hd30, hwk, hu, -⟩ := svErr_ok h0
    have ep : propE s.c s.ws s.ds n = propErr s.c s.ws s.ds n := by rw [propE, if_neg (by simp [h0])]
    have ec : commE s.c s.ws s.ds n t = commErr s.ws s.ds n t := by rw [commE, if_neg (by simp [h0])]
    have qp : propS s.c s.ws s.ds n = cSv3 (propR s.c s.ws s.ds n) := by
      unfold propS propR; rw [ep]; split <;> rfl
    have qc : commS s.c s.ws s.ds n t = cSv3 (commR s.c s.ws s.ds n t) := by
      unfold commS commR; rw [ec]; split <;> rfl
    simp only [go_sem, Nat.reduceLT, Nat.reduceAdd, Nat.reduceEqDiff, Nat.reduceLeDiff, Nat.reduceSub, Nat.reduceMul, Int.reduceEq, eq_self, reduceIte, h0, cSv]
    refine ops_call (.pureE (proposeOf_meets s.c s.ws s.ds n hu hc hw8 hd30) (by simp [go_sem, Nat.reduceLT, Nat.reduceAdd, Nat.reduceEqDiff, Nat.reduceLeDiff, Nat.reduceSub, Nat.reduceMul, Int.reduceEq, eq_self, reduceIte, cSv])) ?_
    rw [qp]
    simp only [go_sem, Nat.reduceLT, Nat.reduceAdd, Nat.reduceEqDiff, Nat.reduceLeDiff, Nat.reduceSub, Nat.reduceMul, Int.reduceEq, eq_self, reduceIte, cSv3, cSv]
    refine ops_call (.pureE (commitOf_meets s.c s.ws s.ds n t hu (waitK_in hc hwk) (by omega) hd30) (by simp [go_sem, Nat.reduceLT, Nat.reduceAdd, Nat.reduceEqDiff, Nat.reduceLeDiff, Nat.reduceSub, Nat.reduceMul, Int.reduceEq, eq_self, reduceIte, cSv])) ?_
    rw [qc]
    have er1 : True := trivial
    have er2 : True := trivial
    simp only [go_sem, Nat.reduceLT, Nat.reduceAdd, Nat.reduceEqDiff, Nat.reduceLeDiff, Nat.reduceSub, Nat.reduceMul, Int.reduceEq, eq_self, reduceIte, cSv3, cSv]
    refine ops_call (.pureE (allOfX_meets l n c hs) (by simp [go_sem, Nat.reduceLT, Nat.reduceAdd, Nat.reduceEqDiff, Nat.reduceLeDiff, Nat.reduceSub, Nat.reduceMul, Int.reduceEq, eq_self, reduceIte])) ?_
    simp only [go_sem, Nat.reduceLT, Nat.reduceAdd, Nat.reduceEqDiff, Nat.reduceLeDiff, Nat.reduceSub, Nat.reduceMul, Int.reduceEq, eq_self, reduceIte]
    refine ops_call (.pure skeenBegun_meets) ?_
    simp only [go_sem, Nat.reduceLT, Nat.reduceAdd, Nat.reduceEqDiff, Nat.reduceLeDiff, Nat.reduceSub, Nat.reduceMul, Int.reduceEq, eq_self, reduceIte, rK, cSv]
    refine ops_call (.pureE (skCheck_meets s.c s.ws s.ds (by omega) (by omega)) (by simp [go_sem, Nat.reduceLT, Nat.reduceAdd, Nat.reduceEqDiff, Nat.reduceLeDiff, Nat.reduceSub, Nat.reduceMul, Int.reduceEq, eq_self, reduceIte, cSv])) ?_
    simp only [go_sem, Nat.reduceLT, Nat.reduceAdd, Nat.reduceEqDiff, Nat.reduceLeDiff, Nat.reduceSub, Nat.reduceMul, Int.reduceEq, eq_self, reduceIte, cSv]
    refine ops_call (.pureE (checkServer_meets s.c s.ws s.ds (by omega) (by omega)) (by simp [go_sem, Nat.reduceLT, Nat.reduceAdd, Nat.reduceEqDiff, Nat.reduceLeDiff, Nat.reduceSub, Nat.reduceMul, Int.reduceEq, eq_self, reduceIte, cSv])) ?_
    simp only [go_sem, Nat.reduceLT, Nat.reduceAdd, Nat.reduceEqDiff, Nat.reduceLeDiff, Nat.reduceSub, Nat.reduceMul, Int.reduceEq, eq_self, reduceIte, cSv, h0]
    refine ops_call (.pureE (serverIs_prop s.c s.ws s.ds n) (by simp [go_sem, Nat.reduceLT, Nat.reduceAdd, Nat.reduceEqDiff, Nat.reduceLeDiff, Nat.reduceSub, Nat.reduceMul, Int.reduceEq, eq_self, reduceIte, cSv3, cSv, ep, er1])) ?_
    simp only [go_sem, Nat.reduceLT, Nat.reduceAdd, Nat.reduceEqDiff, Nat.reduceLeDiff, Nat.reduceSub, Nat.reduceMul, Int.reduceEq, eq_self, reduceIte, cSv, ep]
    refine ops_call (.pureE (serverIs_comm s.c s.ws s.ds n t) (by simp [go_sem, Nat.reduceLT, Nat.reduceAdd, Nat.reduceEqDiff, Nat.reduceLeDiff, Nat.reduceSub, Nat.reduceMul, Int.reduceEq, eq_self, reduceIte, cSv3, cSv, ec, er2])) ?_
    simp only [go_sem, Nat.reduceLT, Nat.reduceAdd, Nat.reduceEqDiff, Nat.reduceLeDiff, Nat.reduceSub, Nat.reduceMul, Int.reduceEq, eq_self, reduceIte, cSv, ep]
    refine ops_call (.pureE (sameServers_meets (allRL n c l) (by have := allRL_small (n := n) (c := c) (l := l); omega) (fun s hs => by have := allRL_len s hs; omega)) (by simp [go_sem, Nat.reduceLT, Nat.reduceAdd, Nat.reduceEqDiff, Nat.reduceLeDiff, Nat.reduceSub, Nat.reduceMul, Int.reduceEq, eq_self, reduceIte])) ?_
    simp only [go_sem, Nat.reduceLT, Nat.reduceAdd, Nat.reduceEqDiff, Nat.reduceLeDiff, Nat.reduceSub, Nat.reduceMul, Int.reduceEq, eq_self, reduceIte]
    refine ret_pure hx ?_
    simp [go_sem, Nat.reduceLT, Nat.reduceAdd, Nat.reduceEqDiff, Nat.reduceLeDiff, Nat.reduceSub, Nat.reduceMul, Int.reduceEq, eq_self, reduceIte, L3, R3]
  · have ep : propE s.c s.ws s.ds n = svErr s.c s.ws s.ds := by rw [propE, if_pos h0]
    have ec : commE s.c s.ws s.ds n t = svErr s.c s.ws s.ds := by rw [commE, if_pos h0]
    have er1 : propR s.c s.ws s.ds n = (0, [], []) := by rw [propR, if_neg (by rw [ep]; exact h0)]
    have er2 : commR s.c s.ws s.ds n t = (0, [], []) := by rw [commR, if_neg (by rw [ec]; exact h0)]
    rw [er1, er2]
    simp only [go_sem, Nat.reduceLT, Nat.reduceAdd, Nat.reduceEqDiff, Nat.reduceLeDiff, Nat.reduceSub, Nat.reduceMul, Int.reduceEq, eq_self, reduceIte, h0, cSv]
    refine ops_call (.pureE (allOfX_meets l n c hs) (by simp [go_sem, Nat.reduceLT, Nat.reduceAdd, Nat.reduceEqDiff, Nat.reduceLeDiff, Nat.reduceSub, Nat.reduceMul, Int.reduceEq, eq_self, reduceIte])) ?_
    simp only [go_sem, Nat.reduceLT, Nat.reduceAdd, Nat.reduceEqDiff, Nat.reduceLeDiff, Nat.reduceSub, Nat.reduceMul, Int.reduceEq, eq_self, reduceIte]
    refine ops_call (.pure skeenBegun_meets) ?_
    simp only [go_sem, Nat.reduceLT, Nat.reduceAdd, Nat.reduceEqDiff, Nat.reduceLeDiff, Nat.reduceSub, Nat.reduceMul, Int.reduceEq, eq_self, reduceIte, rK, cSv]
    refine ops_call (.pureE (skCheck_meets s.c s.ws s.ds (by omega) (by omega)) (by simp [go_sem, Nat.reduceLT, Nat.reduceAdd, Nat.reduceEqDiff, Nat.reduceLeDiff, Nat.reduceSub, Nat.reduceMul, Int.reduceEq, eq_self, reduceIte, cSv])) ?_
    simp only [go_sem, Nat.reduceLT, Nat.reduceAdd, Nat.reduceEqDiff, Nat.reduceLeDiff, Nat.reduceSub, Nat.reduceMul, Int.reduceEq, eq_self, reduceIte, cSv]
    refine ops_call (.pureE (checkServer_meets s.c s.ws s.ds (by omega) (by omega)) (by simp [go_sem, Nat.reduceLT, Nat.reduceAdd, Nat.reduceEqDiff, Nat.reduceLeDiff, Nat.reduceSub, Nat.reduceMul, Int.reduceEq, eq_self, reduceIte, cSv])) ?_
    simp only [go_sem, Nat.reduceLT, Nat.reduceAdd, Nat.reduceEqDiff, Nat.reduceLeDiff, Nat.reduceSub, Nat.reduceMul, Int.reduceEq, eq_self, reduceIte, cSv, h0]
    refine ops_call (.pureE (serverIs_prop s.c s.ws s.ds n) (by simp [go_sem, Nat.reduceLT, Nat.reduceAdd, Nat.reduceEqDiff, Nat.reduceLeDiff, Nat.reduceSub, Nat.reduceMul, Int.reduceEq, eq_self, reduceIte, cSv3, cSv, ep, er1])) ?_
    simp only [go_sem, Nat.reduceLT, Nat.reduceAdd, Nat.reduceEqDiff, Nat.reduceLeDiff, Nat.reduceSub, Nat.reduceMul, Int.reduceEq, eq_self, reduceIte, cSv, ep]
    refine ops_call (.pureE (serverIs_comm s.c s.ws s.ds n t) (by simp [go_sem, Nat.reduceLT, Nat.reduceAdd, Nat.reduceEqDiff, Nat.reduceLeDiff, Nat.reduceSub, Nat.reduceMul, Int.reduceEq, eq_self, reduceIte, cSv3, cSv, ec, er2])) ?_
    simp only [go_sem, Nat.reduceLT, Nat.reduceAdd, Nat.reduceEqDiff, Nat.reduceLeDiff, Nat.reduceSub, Nat.reduceMul, Int.reduceEq, eq_self, reduceIte, cSv, ep]
    refine ops_call (.pureE (sameServers_meets (allRL n c l) (by have := allRL_small (n := n) (c := c) (l := l); omega) (fun s hs => by have := allRL_len s hs; omega)) (by simp [go_sem, Nat.reduceLT, Nat.reduceAdd, Nat.reduceEqDiff, Nat.reduceLeDiff, Nat.reduceSub, Nat.reduceMul, Int.reduceEq, eq_self, reduceIte])) ?_
    simp only [go_sem, Nat.reduceLT, Nat.reduceAdd, Nat.reduceEqDiff, Nat.reduceLeDiff, Nat.reduceSub, Nat.reduceMul, Int.reduceEq, eq_self, reduceIte]
    refine ret_pure hx ?_
    simp [go_sem, Nat.reduceLT, Nat.reduceAdd, Nat.reduceEqDiff, Nat.reduceLeDiff, Nat.reduceSub, Nat.reduceMul, Int.reduceEq, eq_self, reduceIte, L3, R3]
end Go.Proofs.Ytocglfkflpkafaa
/- Servers: plain laws: what is right stays right. No program in sight. -/
namespace Go.Proofs.Ytocglfkflpkafaa
open Go
/-- a right server -/
structure RightS (c : Int) (ws : List Wt) (ds : List Int) : Prop where
  c0 : 0 ≤ c
  c1 : c ≤ 999
  wl : ws.length ≤ 8
  dl : ds.length ≤ 30
  wt : ∀ w ∈ ws, 1 ≤ w.n ∧ w.n ≤ 20 ∧ 1 ≤ w.t ∧ w.t ≤ c
  up : upW ws
  dr : ∀ d ∈ ds, 1 ≤ d ∧ d ≤ 20
  dw : ∀ d ∈ ds, ∀ w ∈ ws, w.n ≠ d
  nd : ds.Nodup
  rd : readyW ws = false
theorem found_iff {ws : List Wt} {d : Int} : foundW ws d = true ↔ ∃ w ∈ ws, w.n = d := by
  unfold foundW
  rw [List.any_eq_true]
  exact ⟨fun ⟨w, h1, h2⟩ => ⟨w, h1, by simpa using h2⟩, fun ⟨w, h1, h2⟩ => ⟨w, h1, by simpa using h2⟩⟩
theorem found_not {ws : List Wt} {d : Int} : foundW ws d = false ↔ ∀ w ∈ ws, w.n ≠ d := by
  rw [← Bool.not_eq_true, found_iff]
  exact ⟨fun h w hw e => h ⟨w, hw, e⟩, fun h ⟨w, hw, e⟩ => h w hw e⟩
theorem waitK_zero {c : Int} {ws : List Wt} (h : ∀ w ∈ ws, 1 ≤ w.n ∧ w.n ≤ 20 ∧ 1 ≤ w.t ∧ w.t ≤ c) (hu : upW ws) : ∀ m, m ≤ ws.length → waitK c ws m = 0
  | 0, _ => rfl
  | m + 1, hm => by
    have ih := waitK_zero h hu m (by omega)
    have hw := h _ (nthM (l := ws) (k := m) (by omega))
    have a : wthn (nth ws m).n 1 20 = true := wthn_iff.2 (by omega)
    have b : wthn (nth ws m).t 1 c = true := wthn_iff.2 (by omega)
    rw [waitK, if_neg (by simp [ih]), if_neg (by simp [a, b]), if_neg]
    rintro ⟨h1, h2⟩
    have := hu (m - 1) m (by omega) (by omega)
    omega
theorem take_any {ds : List Int} (hn : ds.Nodup) {k : Nat} (hk : k < ds.length) : ((ds.take k).any fun y => decide (y = nth ds k)) = false := by
  rw [← Bool.not_eq_true, List.any_eq_true]
  rintro ⟨y, hy, e⟩
  obtain ⟨i, hi, rfl⟩ := List.getElem_of_mem hy
  rw [List.length_take] at hi
  rw [decide_eq_true_eq, List.getElem_take, nth_eq _ _ hk] at e
  have := (List.pairwise_iff_getElem.1 hn) i k (by omega) hk (by omega)
  exact this e
theorem doneK_zero {ws : List Wt} {ds : List Int} (dr : ∀ d ∈ ds, 1 ≤ d ∧ d ≤ 20) (dw : ∀ d ∈ ds, ∀ w ∈ ws, w.n ≠ d) (nd : ds.Nodup) : ∀ m, m ≤ ds.length → doneK ws ds m = 0
  | 0, _ => rfl
  | m + 1, hm => by
    have ih := doneK_zero dr dw nd m (by omega)
    have hmem := nthM (l := ds) (k := m) (by omega)
    have a : wthn (nth ds m) 1 20 = true := wthn_iff.2 (dr _ hmem)
    have b : foundW ws (nth ds m) = false := found_not.2 (dw _ hmem)
    rw [doneK, if_neg (by simp [ih]), if_neg (by simp [a]), if_neg (by rw [b, take_any nd (by omega)]; simp)]
theorem doneK_all {ws : List Wt} {ds : List Int} : ∀ m, doneK ws ds m = 0 → ∀ k, k < m → wthn (nth ds k) 1 20 = true ∧ foundW ws (nth ds k) = false ∧ ((ds.take k).any fun y => decide (y = nth ds k)) = false
  | 0, _ => fun k h => by omega
  | m + 1, h => fun k hk => by
    rw [doneK] at h
    split at h
    · rename_i h0; exact (h0 h).elim
    · rename_i h0
      split at h
      · cases h
      · rename_i h1
        split at h
        · cases h
        · rename_i h2
          simp only [Bool.or_eq_true, not_or, Bool.not_eq_true] at h2
          by_cases e : k = m
          · subst e; exact ⟨by simpa using h1, h2.1, h2.2⟩
          · exact doneK_all m (by simpa using h0) k (by omega)
theorem right_of {c : Int} {ws : List Wt} {ds : List Int} (h : svErr c ws ds = 0) : RightS c ws ds := by
  obtain ⟨a, b, d, e, u, f⟩ := svErr_ok h
  rw [wthn_iff] at a
  have hd := doneK_all ds.length f
  refine ⟨a.1, a.2, b, d, fun w hw => ?_, u, fun x hx => ?_, fun x hx => ?_, ?_, ?_⟩
  · obtain ⟨k, hk, rfl⟩ := List.getElem_of_mem hw
    obtain ⟨h1, h2, -⟩ := waitK_all _ e k hk
    rw [wthn_iff] at h1 h2
    rw [← nth_eq _ _ hk]; omega
  · obtain ⟨k, hk, rfl⟩ := List.getElem_of_mem hx
    have := (hd k hk).1
    rw [wthn_iff, nth_eq _ _ hk] at this; exact this
  · obtain ⟨k, hk, rfl⟩ := List.getElem_of_mem hx
    have := (hd k hk).2.1
    rw [nth_eq _ _ hk] at this
    exact found_not.1 this
  · show List.Pairwise _ _
    rw [List.pairwise_iff_getElem]
    intro i j hi hj hij e
    have := (hd j hj).2.2
    rw [← Bool.not_eq_true] at this
    exact this (List.any_eq_true.2 ⟨ds[i], List.mem_iff_getElem.2 ⟨i, by rw [List.length_take]; omega, List.getElem_take⟩, by rw [nth_eq _ _ hj]; simpa using e⟩)
  · unfold svErr at h
    rw [if_neg (by simp [wthn_iff.2 a]), if_neg (by omega), if_neg (by simp [e]), if_neg (by simp [f])] at h
    unfold readyW
    split at h
    · cases h
    · rename_i h1
      rw [← Bool.not_eq_true, Bool.and_eq_true, decide_eq_true_eq]
      exact h1
theorem of_right {c : Int} {ws : List Wt} {ds : List Int} (h : RightS c ws ds) : svErr c ws ds = 0 := by
  have e := waitK_zero h.wt h.up ws.length (Nat.le_refl _)
  have f := doneK_zero h.dr h.dw h.nd ds.length (Nat.le_refl _)
  have := h.wl
  have := h.dl
  rw [svErr, if_neg (by simp [wthn_iff.2 ⟨h.c0, h.c1⟩]), if_neg (by omega), if_neg (by simp [e]), if_neg (by rw [doneErr, f]; simp), if_neg]
  intro q
  have := h.rd
  unfold readyW at this
  rw [← Bool.not_eq_true, Bool.and_eq_true, decide_eq_true_eq] at this
  exact this q
/-- one stands before another, or is it -/
def leW (w u : Wt) : Prop := w.t < u.t ∨ (w.t = u.t ∧ w.n ≤ u.n)
theorem RightS.inW {c : Int} {ws : List Wt} {ds : List Int} (h : RightS c ws ds) : inW ws := fun k hk => by
  have := h.wt _ (nthM hk)
  have := h.c1
  omega
theorem ready_iff {ws : List Wt} (hu : upW ws) (hb : inW ws) : readyW ws = true ↔ ∃ w ∈ ws, w.f = true ∧ ∀ u ∈ ws, leW w u := by
  constructor
  · intro h
    obtain ⟨h1, h2, h3⟩ := ready_lt h
    obtain ⟨m, g1, g2, g3⟩ := firstK_spec hu hb ws.length (by omega) (Nat.le_refl _)
    have hm : firstW ws = m := g1
    rw [hm, Int.toNat_natCast] at h2 h3
    refine ⟨_, nthM h2, h3, fun u hu' => ?_⟩
    obtain ⟨j, hj, rfl⟩ := List.getElem_of_mem hu'
    rw [← nth_eq _ _ hj]
    rcases g3 j hj with g | ⟨g, g'⟩
    · exact .inl g
    · refine .inr ⟨g, ?_⟩
      by_cases e : m = j
      · subst e; exact Int.le_refl _
      · have := hu m j (by omega) hj; omega
  · rintro ⟨w, hw, hf, hle⟩
    obtain ⟨k, hk, rfl⟩ := List.getElem_of_mem hw
    rw [← nth_eq _ _ hk] at hf hle
    obtain ⟨m, g1, g2, g3⟩ := firstK_spec hu hb ws.length (by omega) (Nat.le_refl _)
    have hm : firstW ws = m := g1
    have h1 := hle _ (nthM g2)
    have h2 := g3 k hk
    have e : k = m := by
      unfold leW at h1
      rcases Nat.lt_trichotomy k m with g | g | g
      · have := hu k m g g2; omega
      · exact g
      · have := hu m k g hk; omega
    subst e
    simp [readyW, hm, hf]
theorem mem_ins {ws : List Wt} {w u : Wt} {i : Nat} (hi : i ≤ ws.length) : u ∈ ws.insertIdx i w ↔ u = w ∨ u ∈ ws := List.mem_insertIdx hi
/-- Propose keeps what is right -/
theorem right_prop {c : Int} {ws : List Wt} {ds : List Int} {n : Int} (h : RightS c ws ds) (he : propErr c ws ds n = 0) : RightS (c + 1) (ws.insertIdx (posW ws n) ⟨n, c + 1, false⟩) ds := by
  obtain ⟨q1, q2, q3, q4, q5⟩ := propErr_ok he
  rw [wthn_iff] at q1
  have hp := posW_le ws n
  have hu' := upW_ins (w := ⟨n, c + 1, false⟩) h.up q2
  have a := h.c0
  have b := h.c1
  have hl := ins_len ws ⟨n, c + 1, false⟩ hp
  have := h.wl
  have hwt : ∀ w ∈ ws.insertIdx (posW ws n) ⟨n, c + 1, false⟩, 1 ≤ w.n ∧ w.n ≤ 20 ∧ 1 ≤ w.t ∧ w.t ≤ c + 1 := fun w hw => by
    rcases (mem_ins hp).1 hw with rfl | hw
    · simp only; omega
    · have := h.wt w hw; omega
  have hin : inW (ws.insertIdx (posW ws n) ⟨n, c + 1, false⟩) := fun k hk => by
    have := hwt _ (nthM hk); omega
  refine ⟨by omega, by omega, by omega, h.dl, hwt, hu', h.dr, fun d hd w hw => ?_, h.nd, ?_⟩
  · rcases (mem_ins hp).1 hw with rfl | hw
    · rintro rfl
      rw [← Bool.not_eq_true] at q3
      exact q3 (List.any_eq_true.2 ⟨_, hd, by simp⟩)
    · exact h.dw d hd w hw
  · rw [← Bool.not_eq_true, ready_iff hu' hin]
    rintro ⟨w, hw, hf, hle⟩
    rcases (mem_ins hp).1 hw with rfl | hw
    · cases hf
    · have : readyW ws = true := (ready_iff h.up h.inW).2 ⟨w, hw, hf, fun u hu => hle u ((mem_ins hp).2 (.inr hu))⟩
      rw [h.rd] at this; cases this
/-- what holds of a server while those that are first go -/
structure MidS (c : Int) (ws : List Wt) (ds : List Int) : Prop where
  wt : ∀ w ∈ ws, 1 ≤ w.n ∧ w.n ≤ 20 ∧ 1 ≤ w.t ∧ w.t ≤ c
  up : upW ws
  dr : ∀ d ∈ ds, 1 ≤ d ∧ d ≤ 20
  dw : ∀ d ∈ ds, ∀ w ∈ ws, w.n ≠ d
  nd : ds.Nodup
theorem MidS.step {c : Int} {ws : List Wt} {ds : List Int} (h : MidS c ws ds) {i : Nat} (hi : i < ws.length) : MidS c (ws.eraseIdx i) (ds ++ [(nth ws i).n]) := by
  have hmem : ∀ w ∈ ws.eraseIdx i, w ∈ ws := fun w hw => List.mem_of_mem_eraseIdx hw
  have hne : ∀ w ∈ ws.eraseIdx i, w.n ≠ (nth ws i).n := fun w hw => by
    obtain ⟨k, hk, rfl⟩ := List.getElem_of_mem hw
    have hl : (ws.eraseIdx i).length = if i < ws.length then ws.length - 1 else ws.length := List.length_eraseIdx
    rw [hl, if_pos hi] at hk
    rw [List.getElem_eraseIdx]
    split
    · rw [← nth_eq _ _ (by omega)]
      have := h.up k i (by omega) hi; omega
    · rw [← nth_eq _ _ (by omega)]
      have := h.up i (k + 1) (by omega) (by omega); omega
  have hm := nthM hi
  refine ⟨fun w hw => h.wt w (hmem w hw), upW_erase h.up i, fun d hd => ?_, fun d hd w hw => ?_, ?_⟩
  · rcases List.mem_append.1 hd with hd | hd
    · exact h.dr d hd
    · simp only [List.mem_singleton] at hd
      subst hd; have := h.wt _ hm; omega
  · rcases List.mem_append.1 hd with hd | hd
    · exact h.dw d hd w (hmem w hw)
    · simp only [List.mem_singleton] at hd
      subst hd; exact hne w hw
  · rw [List.nodup_append]
    refine ⟨h.nd, by simp, fun a ha b hb e => ?_⟩
    simp only [List.mem_singleton] at hb
    subst hb; subst e
    exact h.dw _ ha _ hm rfl
theorem sweepN_mid {c : Int} : ∀ (k : Nat) (ws : List Wt) (ds : List Int), MidS c ws ds → ws.length ≤ k → MidS c (sweepN k ws ds).1 (sweepN k ws ds).2 ∧ readyW (sweepN k ws ds).1 = false ∧ (∀ w ∈ (sweepN k ws ds).1, w ∈ ws) ∧ ∃ l, (sweepN k ws ds).2 = ds ++ l
  | 0, ws, ds, h, hk => by
    have : ws = [] := List.length_eq_zero_iff.1 (by omega)
    subst this
    exact ⟨h, by rfl, fun _ h => h, [], by simp [sweepN]⟩
  | k + 1, ws, ds, h, hk => by
    rw [sweepN]
    split
    · rename_i hr
      have hl := (ready_lt hr).2.1
      obtain ⟨a, b, d, l, e⟩ := sweepN_mid k _ _ (h.step hl) (by rw [List.length_eraseIdx, if_pos hl]; omega)
      exact ⟨a, b, fun w hw => List.mem_of_mem_eraseIdx (d w hw), _ :: l, by rw [e, List.append_assoc]; rfl⟩
    · rename_i hr
      exact ⟨h, by simpa using hr, fun _ h => h, [], by simp⟩
theorem mid_set {c : Int} {ws : List Wt} {ds : List Int} {n t : Int} (h : RightS c ws ds) (hf : foundW ws n = true) (ht : 1 ≤ t) : MidS (maxI c t) (setW ws n t) ds := by
  obtain ⟨g1, g2⟩ := found_pos h.up hf
  have hm : ∀ w ∈ setW ws n t, (w = ⟨(nth ws (posW ws n)).n, t, true⟩) ∨ w ∈ ws := fun w hw => by
    rcases List.mem_or_eq_of_mem_set hw with h | h
    · exact .inr h
    · exact .inl h
  have hmx : c ≤ maxI c t ∧ t ≤ maxI c t := by unfold maxI; split <;> omega
  have h0 := h.wt _ (nthM g1)
  refine ⟨fun w hw => ?_, upW_set h.up g1 rfl, h.dr, fun d hd w hw => ?_, h.nd⟩
  · rcases hm w hw with rfl | hw
    · simp only; omega
    · have := h.wt w hw; omega
  · rcases hm w hw with rfl | hw
    · show (nth ws (posW ws n)).n ≠ d
      exact h.dw d hd _ (nthM g1)
    · exact h.dw d hd w hw
theorem commE0_ok {ws : List Wt} {n t : Int} (h : commE0 ws n t = 0) : (1 ≤ n ∧ n ≤ 20) ∧ (1 ≤ t ∧ t ≤ 999) ∧ foundW ws n = true ∧ (nth ws (posW ws n)).f = false ∧ (nth ws (posW ws n)).t ≤ t := by
  unfold commE0 at h
  split at h
  · cases h
  · rename_i h1
    split at h
    · cases h
    · rename_i h2
      split at h
      · cases h
      · rename_i h3
        simp only [Bool.not_eq_false, Bool.and_eq_true, wthn_iff] at h1
        simp only [not_or, Bool.not_eq_true] at h3
        exact ⟨h1.1, h1.2, by simpa using h2, h3.1, by omega⟩
theorem commErr_ok {ws : List Wt} {ds : List Int} {n t : Int} (h : commErr ws ds n t = 0) : commE0 ws n t = 0 ∧ (swept (setW ws n t) ds).2.length ≤ 30 := by
  unfold commErr at h
  split at h
  · rename_i h1; exact (h1 h).elim
  · rename_i h1
    split at h
    · cases h
    · exact ⟨by simpa using h1, by omega⟩
/-- Commit keeps what is right -/
theorem right_comm {c : Int} {ws : List Wt} {ds : List Int} {n t : Int} (h : RightS c ws ds) (he : commErr ws ds n t = 0) : RightS (maxI c t) (swept (setW ws n t) ds).1 (swept (setW ws n t) ds).2 := by
  obtain ⟨h0, hl⟩ := commErr_ok he
  obtain ⟨-, q2, q3, -, -⟩ := commE0_ok h0
  obtain ⟨a, b, -, -⟩ := sweepN_mid _ _ _ (mid_set h q3 q2.1) (Nat.le_refl _)
  have hm : (swept (setW ws n t) ds).1.length ≤ (setW ws n t).length := (sweepN_len _ _ _).2
  rw [show (setW ws n t).length = ws.length by rw [setW, List.length_set]] at hm
  have := h.wl
  have := h.c0
  have := h.c1
  refine ⟨by unfold maxI; split <;> omega, by unfold maxI; split <;> omega, by omega, hl, a.wt, a.up, a.dr, a.dw, a.nd, b⟩
theorem swept_pre {c : Int} {ws : List Wt} {ds : List Int} {n t : Int} (h : RightS c ws ds) (h0 : commE0 ws n t = 0) : ∃ l, (swept (setW ws n t) ds).2 = ds ++ l := by
  obtain ⟨-, q2, q3, -, -⟩ := commE0_ok h0
  exact (sweepN_mid _ _ _ (mid_set h q3 q2.1) (Nat.le_refl _)).2.2.2
theorem swept_sum (ws : List Wt) (ds : List Int) (n t : Int) : (swept (setW ws n t) ds).1.length + (swept (setW ws n t) ds).2.length = ws.length + ds.length := by
  have := (sweepN_len (setW ws n t).length (setW ws n t) ds).1
  rw [show (setW ws n t).length = ws.length by rw [setW, List.length_set]] at this
  unfold swept
  rw [show (setW ws n t).length = ws.length by rw [setW, List.length_set]]
  exact this
end Go.Proofs.Ytocglfkflpkafaa
/- SkeenAfter, as a contract. -/
namespace Go.Proofs.Ytocglfkflpkafaa
set_option linter.unusedSimpArgs false
set_option linter.unusedVariables false
open Go.RowKit
theorem propE_ok {c : Int} {ws : List Wt} {ds : List Int} {n : Int} (h : propE c ws ds n = 0) : RightS c ws ds ∧ propErr c ws ds n = 0 := by
  unfold propE at h
  split at h
  · rename_i h1; exact (h1 h).elim
  · rename_i h1; exact ⟨right_of (by simpa using h1), h⟩
theorem commE_ok {c : Int} {ws : List Wt} {ds : List Int} {n t : Int} (h : commE c ws ds n t = 0) : RightS c ws ds ∧ commErr ws ds n t = 0 := by
  unfold commE at h
  split at h
  · rename_i h1; exact (h1 h).elim
  · rename_i h1; exact ⟨right_of (by simpa using h1), h⟩
/-- a number that was proposed is committed at its time, but for room -/
theorem comm_prop {c : Int} {ws : List Wt} {ds : List Int} {n : Int} (h : RightS c ws ds) (he : propErr c ws ds n = 0) :
    commE (c + 1) (ws.insertIdx (posW ws n) ⟨n, c + 1, false⟩) ds n (c + 1) = 0 ∨ commE (c + 1) (ws.insertIdx (posW ws n) ⟨n, c + 1, false⟩) ds n (c + 1) = 2 := by
  have hr := right_prop h he
  obtain ⟨q1, q2, q3, q4, q5⟩ := propErr_ok he
  have hp := posW_le ws n
  have hf : foundW (ws.insertIdx (posW ws n) ⟨n, c + 1, false⟩) n = true := found_iff.2 ⟨_, (mem_ins hp).2 (.inl rfl), rfl⟩
  obtain ⟨g1, g2⟩ := found_pos hr.up hf
  have hw : nth (ws.insertIdx (posW ws n) ⟨n, c + 1, false⟩) (posW (ws.insertIdx (posW ws n) ⟨n, c + 1, false⟩) n) = ⟨n, c + 1, false⟩ := by
    rcases (mem_ins hp).1 (nthM g1) with e | e
    · exact e
    · exact (found_not.1 q2 _ e g2).elim
  have h0 : commE0 (ws.insertIdx (posW ws n) ⟨n, c + 1, false⟩) n (c + 1) = 0 := by
    have a := h.c0
    have b := h.c1
    have d : wthn (c + 1) 1 999 = true := wthn_iff.2 (by omega)
    rw [commE0, if_neg (by simp [q1, d]), if_neg (by simp [hf]), hw, if_neg (by simp)]
  rw [commE, if_neg (by simp [of_right hr]), commErr, if_neg (by simp [h0])]
  split
  · exact .inr rfl
  · exact .inl rfl
/-- who is alone is done at once -/
theorem comm_alone {c : Int} {ds : List Int} {n : Int} : swept (setW [⟨n, c + 1, false⟩] n (c + 1)) ds = ([], ds ++ [n]) := by
  have e : setW [⟨n, c + 1, false⟩] n (c + 1) = [⟨n, c + 1, true⟩] := by simp [setW, posW, nth]
  have e2 : firstW [⟨n, c + 1, true⟩] = 0 := by simp [firstW, firstK, stepF]
  have hr : readyW [⟨n, c + 1, true⟩] = true := by simp [readyW, e2, nth]
  rw [e, swept_step hr, e2]
  simp only [Int.toNat_zero, List.eraseIdx_cons_zero]
  rw [swept_end (by rfl)]
  simp [nth]
set_option maxHeartbeats 4000000 in
theorem skeenAfter_meets (s : KS) (n t : Int) (hsz : szK s) : Meets Try.prog 5 [.agg (rK s), .int .i64 n, .int .i64 t] [] (.bool true) [] := by
  obtain ⟨hw, hd⟩ := hsz
  refine Meets.of_parts Try.func5 Try.ntmps5 low5 res5 (by simp) fun x hx => ?_
  simp only [L5, R5, LC.flat, List.cons_append, List.nil_append]
  refine WL_join 6 [1, 2, 3] 1 (fun st => st = ⟨mkE .top [(1, .int .i64 n), (2, .int .i64 t), (3, .ptr 0 0)], [.box (rK s)]⟩) (by simp [hx]) (by simp) ?_ ?_
  · simp only [List.take_succ_cons, List.take_zero]
    simp only [go_sem, Nat.reduceLT, Nat.reduceAdd, Nat.reduceEqDiff, Nat.reduceLeDiff, Nat.reduceSub, Nat.reduceMul, Int.reduceEq, eq_self, reduceIte]
    refine ops_call (.pure skeenBegun_meets) ?_
    simp only [go_sem, Nat.reduceLT, Nat.reduceAdd, Nat.reduceEqDiff, Nat.reduceLeDiff, Nat.reduceSub, Nat.reduceMul, Int.reduceEq, eq_self, reduceIte, rK, cSv]
    refine ops_call (.pureE (skProposeX_meets s.c s.ws s.ds n hw hd) (by simp [go_sem, Nat.reduceLT, Nat.reduceAdd, Nat.reduceEqDiff, Nat.reduceLeDiff, Nat.reduceSub, Nat.reduceMul, Int.reduceEq, eq_self, reduceIte, cSv])) ?_
    by_cases he : propE s.c s.ws s.ds n = 0
    · obtain ⟨hr, he1⟩ := propE_ok he
      obtain ⟨-, q2, -, -, q5⟩ := propErr_ok he1
      have er : propR s.c s.ws s.ds n = (s.c + 1, s.ws.insertIdx (posW s.ws n) ⟨n, s.c + 1, false⟩, s.ds) := by rw [propR, if_pos he]
      have hp := posW_le s.ws n
      have hil := ins_len s.ws ⟨n, s.c + 1, false⟩ hp
      have hwl := hr.wl
      have hdl := hr.dl
      have hrp := right_prop hr he1
      have hcp := comm_prop hr he1
      rw [he, er]
      simp only [go_sem, Nat.reduceLT, Nat.reduceAdd, Nat.reduceEqDiff, Nat.reduceLeDiff, Nat.reduceSub, Nat.reduceMul, Int.reduceEq, eq_self, reduceIte, cSv3, cSv, rK]
      refine loop_inv [1, 2, 3, 7, 8, 10] 2 (fun m st => ∃ k : Nat, k + m = s.ws.length ∧
        st = ⟨mkE .top [(1, .int .i64 n), (2, .int .i64 t), (3, .ptr 0 0), (7, .ptr 1 0), (8, .int .i64 (s.c + 1)), (10, .int .i64 k)], [.box (rK s), .box (cSv (s.c + 1) (s.ws.insertIdx (posW s.ws n) ⟨n, s.c + 1, false⟩) s.ds)]⟩) s.ws.length (by simp [hx]) (by simp) ?_ ?_
      · refine ⟨0, by omega, ?_⟩
        simp [trim_mk, go_sem, Nat.reduceLT, Nat.reduceAdd, Nat.reduceEqDiff, Nat.reduceLeDiff, Nat.reduceSub, Nat.reduceMul, Int.reduceEq, eq_self, reduceIte, subHeap, renObj, pos, List.range_succ, cSv, rK]
      · rintro m st ⟨k, hk, rfl⟩
        by_cases hlt : k < s.ws.length
        · have hg : s.ws[k]? = some (nth s.ws k) := nth_get? _ _ hlt
          have wk := i64_up (k := k) (by omega)
          have hwt := hr.wt _ (nthM hlt)
          have hge : ¬ (s.c + 1 ≤ (nth s.ws k).t) := by omega
          simp only [go_sem, Nat.reduceLT, Nat.reduceAdd, Nat.reduceEqDiff, Nat.reduceLeDiff, Nat.reduceSub, Nat.reduceMul, Int.reduceEq, eq_self, reduceIte, rK, cSv, hlt, hg, cW, hge, wk]
          refine ⟨by simp, m - 1, by omega, k + 1, by omega, ?_⟩
          simp [trim_mk, go_sem, Nat.reduceLT, Nat.reduceAdd, Nat.reduceEqDiff, Nat.reduceLeDiff, Nat.reduceSub, Nat.reduceMul, Int.reduceEq, eq_self, reduceIte, subHeap, renObj, pos, List.range_succ, cSv, rK]
        · simp only [go_sem, Nat.reduceLT, Nat.reduceAdd, Nat.reduceEqDiff, Nat.reduceLeDiff, Nat.reduceSub, Nat.reduceMul, Int.reduceEq, eq_self, reduceIte, rK, cSv, hlt]
          refine ops_call (.pureE (skCommitX_meets (s.c + 1) (s.ws.insertIdx (posW s.ws n) ⟨n, s.c + 1, false⟩) s.ds n (s.c + 1) (by omega) (by omega)) (by simp [go_sem, Nat.reduceLT, Nat.reduceAdd, Nat.reduceEqDiff, Nat.reduceLeDiff, Nat.reduceSub, Nat.reduceMul, Int.reduceEq, eq_self, reduceIte, cSv])) ?_
          rcases hcp with h0 | h0
          · have hcr : commR (s.c + 1) (s.ws.insertIdx (posW s.ws n) ⟨n, s.c + 1, false⟩) s.ds n (s.c + 1) = (maxI (s.c + 1) (s.c + 1), swept (setW (s.ws.insertIdx (posW s.ws n) ⟨n, s.c + 1, false⟩) n (s.c + 1)) s.ds) := by rw [commR, if_pos h0]
            rw [h0, hcr]
            by_cases hz : (s.ws.length : Int) = 0
            · have hnil : s.ws = [] := List.length_eq_zero_iff.1 (by omega)
              have hpz : posW s.ws n = 0 := by omega
              rw [hpz, hnil]
              rw [show ([] : List Wt).insertIdx 0 ⟨n, s.c + 1, false⟩ = [⟨n, s.c + 1, false⟩] from rfl, comm_alone]
              have wd := i64_up (k := s.ds.length) (by omega)
              simp only [go_sem, Nat.reduceLT, Nat.reduceAdd, Nat.reduceEqDiff, Nat.reduceLeDiff, Nat.reduceSub, Nat.reduceMul, Int.reduceEq, eq_self, reduceIte, cSv3, cSv, rK, Int.ofNat_zero, Int.natCast_one, Int.cast_ofNat_Int, Int.reduceLT, Int.reduceLE, Int.reduceToNat, Nat.reduceLT, Int.toNat_zero, Int.natCast_zero, Int.le_refl, Int.lt_irrefl, Int.reduceAdd, frz, false_or, or_true, hnil, List.length_append, wd]
              refine ⟨by simp, _, Weak.refl _ _ _, ?_⟩
              simp [trim_mk, go_sem, Nat.reduceLT, Nat.reduceAdd, Nat.reduceEqDiff, Nat.reduceLeDiff, Nat.reduceSub, Nat.reduceMul, Int.reduceEq, eq_self, reduceIte, subHeap, renObj, pos, List.range_succ, rK, cSv]
            · simp only [go_sem, Nat.reduceLT, Nat.reduceAdd, Nat.reduceEqDiff, Nat.reduceLeDiff, Nat.reduceSub, Nat.reduceMul, Int.reduceEq, eq_self, reduceIte, cSv3, cSv, rK, hz]
              refine ⟨by simp, _, Weak.refl _ _ _, ?_⟩
              simp [trim_mk, go_sem, Nat.reduceLT, Nat.reduceAdd, Nat.reduceEqDiff, Nat.reduceLeDiff, Nat.reduceSub, Nat.reduceMul, Int.reduceEq, eq_self, reduceIte, subHeap, renObj, pos, List.range_succ, rK, cSv]
          · rw [h0]
            simp only [go_sem, Nat.reduceLT, Nat.reduceAdd, Nat.reduceEqDiff, Nat.reduceLeDiff, Nat.reduceSub, Nat.reduceMul, Int.reduceEq, eq_self, reduceIte, cSv3, cSv, rK]
            refine ⟨by simp, _, Weak.refl _ _ _, ?_⟩
            simp [trim_mk, go_sem, Nat.reduceLT, Nat.reduceAdd, Nat.reduceEqDiff, Nat.reduceLeDiff, Nat.reduceSub, Nat.reduceMul, Int.reduceEq, eq_self, reduceIte, subHeap, renObj, pos, List.range_succ, rK, cSv]
    · simp only [go_sem, Nat.reduceLT, Nat.reduceAdd, Nat.reduceEqDiff, Nat.reduceLeDiff, Nat.reduceSub, Nat.reduceMul, Int.reduceEq, eq_self, reduceIte, cSv3, cSv, rK, he]
      refine ⟨by simp, _, Weak.refl _ _ _, ?_⟩
      simp [trim_mk, go_sem, Nat.reduceLT, Nat.reduceAdd, Nat.reduceEqDiff, Nat.reduceLeDiff, Nat.reduceSub, Nat.reduceMul, Int.reduceEq, eq_self, reduceIte, subHeap, renObj, pos, List.range_succ, rK, cSv]
  · rintro st rfl
    simp only [List.drop_succ_cons, List.drop_zero]
    refine WL_walk ?_
    simp only [go_sem, Nat.reduceLT, Nat.reduceAdd, Nat.reduceEqDiff, Nat.reduceLeDiff, Nat.reduceSub, Nat.reduceMul, Int.reduceEq, eq_self, reduceIte, rK, cSv]
    refine ops_call (.pureE (skCommitX_meets s.c s.ws s.ds n t hw hd) (by simp [go_sem, Nat.reduceLT, Nat.reduceAdd, Nat.reduceEqDiff, Nat.reduceLeDiff, Nat.reduceSub, Nat.reduceMul, Int.reduceEq, eq_self, reduceIte, cSv])) ?_
    by_cases he : commE s.c s.ws s.ds n t = 0
    · obtain ⟨hr, he1⟩ := commE_ok he
      have er : commR s.c s.ws s.ds n t = (maxI s.c t, swept (setW s.ws n t) s.ds) := by rw [commR, if_pos he]
      have hrc := right_comm hr he1
      obtain ⟨l, hl⟩ := swept_pre hr (commErr_ok he1).1
      have hsum := swept_sum s.ws s.ds n t
      have hwl := hr.wl
      have hdl := hr.dl
      rw [he, er]
      have hmx : s.c ≤ maxI s.c t := by unfold maxI; split <;> omega
      generalize maxI s.c t = c' at *
      generalize swept (setW s.ws n t) s.ds = R at *
      obtain ⟨us, es⟩ := R
      simp only at hl hsum hrc
      have hes : es.length = s.ds.length + l.length := by rw [hl, List.length_append]
      have hdl2 := hrc.dl
      have hwl2 := hrc.wl
      have d1 : ¬ ((es.length : Int) < (s.ds.length : Int)) := by omega
      have d2 : ¬ (c' < s.c) := by omega
      simp only [go_sem, Nat.reduceLT, Nat.reduceAdd, Nat.reduceEqDiff, Nat.reduceLeDiff, Nat.reduceSub, Nat.reduceMul, Int.reduceEq, eq_self, reduceIte, cSv3, cSv, rK, Int.ofNat_zero, Int.natCast_one, Int.cast_ofNat_Int, Int.reduceLT, Int.reduceLE, Int.reduceToNat, Nat.reduceLT, Int.toNat_zero, Int.natCast_zero, Int.le_refl, Int.lt_irrefl, Int.reduceAdd, frz, false_or, or_true, d1, d2]
      refine ops_call (.pureE (skCheck_meets c' us es (by omega) (by omega)) (by simp [go_sem, Nat.reduceLT, Nat.reduceAdd, Nat.reduceEqDiff, Nat.reduceLeDiff, Nat.reduceSub, Nat.reduceMul, Int.reduceEq, eq_self, reduceIte, cSv])) ?_
      rw [of_right hrc]
      simp only [go_sem, Nat.reduceLT, Nat.reduceAdd, Nat.reduceEqDiff, Nat.reduceLeDiff, Nat.reduceSub, Nat.reduceMul, Int.reduceEq, eq_self, reduceIte, cSv3, cSv, rK, Int.ofNat_zero, Int.natCast_one, Int.cast_ofNat_Int, Int.reduceLT, Int.reduceLE, Int.reduceToNat, Nat.reduceLT, Int.toNat_zero, Int.natCast_zero, Int.le_refl, Int.lt_irrefl, Int.reduceAdd, frz, false_or, or_true]
      refine loop_inv [3, 13, 14] 2 (fun m st => ∃ k : Nat, k + m = s.ds.length ∧
        st = ⟨mkE .top [(3, .ptr 0 0), (13, .ptr 1 0), (14, .int .i64 k)], [.box (rK s), .box (cSv c' us es)]⟩) s.ds.length (by simp [hx]) (by simp) ?_ ?_
      · refine ⟨0, by omega, ?_⟩
        simp [trim_mk, go_sem, Nat.reduceLT, Nat.reduceAdd, Nat.reduceEqDiff, Nat.reduceLeDiff, Nat.reduceSub, Nat.reduceMul, Int.reduceEq, eq_self, reduceIte, subHeap, renObj, pos, List.range_succ, cSv, rK]
      · rintro m st ⟨k, hk, rfl⟩
        by_cases hlt : k < s.ds.length
        · have hg : s.ds[k]? = some (nth s.ds k) := nth_get? _ _ hlt
          have hlt2 : k < es.length := by omega
          have hg2 : es[k]? = some (nth s.ds k) := by rw [hl, List.getElem?_append_left hlt]; exact hg
          have wk := i64_up (k := k) (by omega)
          simp only [go_sem, Nat.reduceLT, Nat.reduceAdd, Nat.reduceEqDiff, Nat.reduceLeDiff, Nat.reduceSub, Nat.reduceMul, Int.reduceEq, eq_self, reduceIte, rK, cSv, hlt, hg, hlt2, hg2, cN, wk]
          repeat refine ⟨rfl, ?_⟩
          refine ⟨by simp, m - 1, by omega, k + 1, by omega, ?_⟩
          simp [trim_mk, go_sem, Nat.reduceLT, Nat.reduceAdd, Nat.reduceEqDiff, Nat.reduceLeDiff, Nat.reduceSub, Nat.reduceMul, Int.reduceEq, eq_self, reduceIte, subHeap, renObj, pos, List.range_succ, cSv, rK]
        · have ws1 : IntKind.i64.wrap ((es.length : Int) + (us.length : Int)) = (es.length : Int) + (us.length : Int) := by rw [IntKind.wrap_i64]; omega
          have ws2 : IntKind.i64.wrap ((s.ds.length : Int) + (s.ws.length : Int)) = (s.ds.length : Int) + (s.ws.length : Int) := by rw [IntKind.wrap_i64]; omega
          have heq : ((es.length : Int) + (us.length : Int) = (s.ds.length : Int) + (s.ws.length : Int)) := by omega
          simp only [go_sem, Nat.reduceLT, Nat.reduceAdd, Nat.reduceEqDiff, Nat.reduceLeDiff, Nat.reduceSub, Nat.reduceMul, Int.reduceEq, eq_self, reduceIte, rK, cSv, hlt, ws1, ws2, heq]
          refine ret_pure hx ?_
          simp [go_sem, Nat.reduceLT, Nat.reduceAdd, Nat.reduceEqDiff, Nat.reduceLeDiff, Nat.reduceSub, Nat.reduceMul, Int.reduceEq, eq_self, reduceIte, L5, R5]
    · have er : commR s.c s.ws s.ds n t = (0, [], []) := by rw [commR, if_neg he]
      rw [er]
      have w0 : IntKind.i64.wrap 0 = 0 := by decide +kernel
      simp only [go_sem, Nat.reduceLT, Nat.reduceAdd, Nat.reduceEqDiff, Nat.reduceLeDiff, Nat.reduceSub, Nat.reduceMul, Int.reduceEq, eq_self, reduceIte, cSv3, cSv, rK, he, Int.ofNat_zero, Int.natCast_one, Int.cast_ofNat_Int, Int.reduceLT, Int.reduceLE, Int.reduceToNat, Nat.reduceLT, Int.toNat_zero, Int.natCast_zero, Int.le_refl, Int.lt_irrefl, Int.reduceAdd, frz, false_or, or_true, w0]
      refine ret_pure hx ?_
      simp [go_sem, Nat.reduceLT, Nat.reduceAdd, Nat.reduceEqDiff, Nat.reduceLeDiff, Nat.reduceSub, Nat.reduceMul, Int.reduceEq, eq_self, reduceIte, L5, R5]
end Go.Proofs.Ytocglfkflpkafaa
/- Servers: plain laws: three servers and what is proposed and committed there, step by step: all that is done stands in one order. No program in sight. -/
namespace Go.Proofs.Ytocglfkflpkafaa
open Go
/-- lists that rise, of the same members, are the same -/
theorem rise_eq {α : Type} {lt : α → α → Prop} (irr : ∀ a, ¬ lt a a) (tr : ∀ a b c, lt a b → lt b c → lt a c) : ∀ (l1 l2 : List α), l1.Pairwise lt → l2.Pairwise lt → (∀ x, x ∈ l1 ↔ x ∈ l2) → l1 = l2
  | [], [], _, _, _ => rfl
  | [], b :: l2, _, _, h => by have := (h b).2 (by simp); simp at this
  | a :: l1, [], _, _, h => by have := (h a).1 (by simp); simp at this
  | a :: l1, b :: l2, h1, h2, h => by
    obtain ⟨a1, a2⟩ := List.pairwise_cons.1 h1
    obtain ⟨b1, b2⟩ := List.pairwise_cons.1 h2
    have hab : a = b := by
      rcases List.mem_cons.1 ((h a).1 (by simp)) with e | e
      · exact e
      · rcases List.mem_cons.1 ((h b).2 (by simp)) with e2 | e2
        · exact e2.symm
        · exact (irr a (tr a b a (a1 b e2) (b1 a e))).elim
    subst hab
    congr 1
    refine rise_eq irr tr l1 l2 a2 b2 fun x => ⟨fun hx => ?_, fun hx => ?_⟩
    · rcases List.mem_cons.1 ((h x).1 (List.mem_cons_of_mem _ hx)) with e | e
      · subst e; exact (irr x (a1 x hx)).elim
      · exact e
    · rcases List.mem_cons.1 ((h x).2 (List.mem_cons_of_mem _ hx)) with e | e
      · subst e; exact (irr x (b1 x hx)).elim
      · exact e
theorem few {N : Nat} : ∀ (l : List Int), l.Nodup → (∀ d ∈ l, 1 ≤ d ∧ d ≤ (N : Int)) → l.length ≤ N := by
  induction N with
  | zero =>
    intro l _ h
    cases l with
    | nil => simp
    | cons a l => have := h a (by simp); omega
  | succ N ih =>
    intro l hn h
    have h1 := ih (l.erase ((N + 1 : Nat) : Int)) (hn.erase _) (fun d hd => by
      have hm := List.mem_of_mem_erase hd
      have := h d hm
      have : d ≠ ((N + 1 : Nat) : Int) := by
        rintro rfl
        exact (List.Nodup.not_mem_erase hn) hd
      omega)
    rw [List.length_erase] at h1
    split at h1 <;> omega
theorem few_up {ws : List Wt} (hu : upW ws) {N : Nat} (h : ∀ w ∈ ws, 1 ≤ w.n ∧ w.n ≤ (N : Int)) : ws.length ≤ N := by
  have key : ∀ k, k < ws.length → (k : Int) + 1 ≤ (nth ws k).n := by
    intro k
    induction k with
    | zero => intro hk; have := h _ (nthM hk); omega
    | succ k ih =>
      intro hk
      have := ih (by omega)
      have := hu k (k + 1) (by omega) hk
      omega
  rcases Nat.eq_zero_or_pos ws.length with e | e
  · omega
  · have := key (ws.length - 1) (by omega)
    have := h _ (nthM (l := ws) (k := ws.length - 1) (by omega))
    omega
/-- a table's number -/
def tAt (tab : List Int) (n : Int) (i : Nat) : Int := nth tab (3 * n.toNat + i)
def tSet (tab : List Int) (n : Int) (i : Nat) (v : Int) : List Int := tab.set (3 * n.toNat + i) v
theorem tAt_set {tab : List Int} (hl : tab.length = 24) {n m : Int} {i j : Nat} {v : Int} (hn : 1 ≤ n ∧ n ≤ 7) (hm : 1 ≤ m ∧ m ≤ 7) (hi : i < 3) (hj : j < 3) : tAt (tSet tab n i v) m j = if m = n ∧ j = i then v else tAt tab m j := by
  unfold tAt tSet
  have hb : 3 * m.toNat + j < tab.length := by omega
  rw [nth_eq _ _ (by simpa using hb), List.getElem_set, nth_eq _ _ hb]
  by_cases e : m = n ∧ j = i
  · rw [if_pos e, if_pos (by rw [e.1, e.2])]
  · rw [if_neg e, if_neg (by omega)]
/-- the most of an entry's times, of the first k servers -/
def mostS (tab : List Int) (n c : Int) : Nat → Option Int
  | 0 => some 0
  | k + 1 => match mostS tab n c k with
    | none => none
    | some m => if bitB c k = true then (if tAt tab n k = 0 then none else some (maxI m (tAt tab n k))) else some m
theorem mostS_congr {tab tab' : List Int} {n c : Int} (h : ∀ i, i < 3 → tAt tab' n i = tAt tab n i) : ∀ k, k ≤ 3 → mostS tab' n c k = mostS tab n c k
  | 0, _ => rfl
  | k + 1, hk => by
    rw [mostS, mostS, mostS_congr h k (by omega), h k (by omega)]
theorem mostS_some {tab : List Int} {n c : Int} : ∀ k m, mostS tab n c k = some m → 0 ≤ m ∧ (∀ i, i < k → bitB c i = true → tAt tab n i ≠ 0 ∧ tAt tab n i ≤ m) ∧ ∀ B, 0 ≤ B → (∀ i, i < k → tAt tab n i ≤ B) → m ≤ B
  | 0, m, h => by cases h; exact ⟨by omega, fun i hi => by omega, fun B h _ => h⟩
  | k + 1, m, h => by
    rw [mostS] at h
    split at h
    · cases h
    · rename_i m0 h0
      obtain ⟨a, b, d⟩ := mostS_some k m0 h0
      split at h
      · rename_i hb
        split at h
        · cases h
        · rename_i hne
          cases h
          have hmx : m0 ≤ maxI m0 (tAt tab n k) ∧ tAt tab n k ≤ maxI m0 (tAt tab n k) := by unfold maxI; split <;> omega
          refine ⟨by omega, fun i hi hbi => ?_, fun B hB h' => ?_⟩
          · by_cases e : i = k
            · subst e; exact ⟨hne, hmx.2⟩
            · have := b i (by omega) hbi
              exact ⟨this.1, by omega⟩
          · have h1 := d B hB fun i hi => h' i (by omega)
            have h2 := h' k (by omega)
            unfold maxI; split <;> omega
      · rename_i hb
        cases h
        refine ⟨a, fun i hi hbi => ?_, fun B hB h' => d B hB fun i hi => h' i (by omega)⟩
        by_cases e : i = k
        · subst e; exact (hb hbi).elim
        · exact b i (by omega) hbi
/-- the order of what is done -/
def ltD (F : Int → Int) (a b : Int) : Prop := F a < F b ∨ (F a = F b ∧ a < b)
/-- one server, in a system: N entries of colors col, a table of times, times for good at this server -/
structure OneI (N : Nat) (col : Int → Int) (tab : List Int) (F : Int → Int) (i : Nat) (c : Int) (ws : List Wt) (ds : List Int) : Prop where
  wt : ∀ w ∈ ws, (1 ≤ w.n ∧ w.n ≤ (N : Int)) ∧ w.t ≤ c ∧ 1 ≤ w.t ∧ bitB (col w.n) i = true ∧ 0 < tAt tab w.n i ∧ (w.f = false → F w.n = 0 ∧ w.t = tAt tab w.n i) ∧ (w.f = true → F w.n = w.t ∧ mostS tab w.n (col w.n) 3 = some w.t)
  up : upW ws
  dr : ∀ d ∈ ds, (1 ≤ d ∧ d ≤ (N : Int)) ∧ 1 ≤ F d ∧ F d ≤ c ∧ 0 < tAt tab d i ∧ mostS tab d (col d) 3 = some (F d)
  dw : ∀ d ∈ ds, ∀ w ∈ ws, w.n ≠ d
  nd : ds.Nodup
  so : ds.Pairwise (ltD F)
  dl : ∀ d ∈ ds, ∀ w ∈ ws, F d < w.t ∨ (F d = w.t ∧ d < w.n)
  all : ∀ n : Int, 1 ≤ n → n ≤ (N : Int) → tAt tab n i ≠ 0 → F n = 0 → ∃ w ∈ ws, w.n = n ∧ w.f = false
theorem OneI.mid {N : Nat} {col : Int → Int} {tab : List Int} {F : Int → Int} {i : Nat} {c : Int} {ws : List Wt} {ds : List Int} (hN : N ≤ 7) (h : OneI N col tab F i c ws ds) : MidS c ws ds :=
  ⟨fun w hw => by have := h.wt w hw; omega, h.up, fun d hd => by have := h.dr d hd; omega, h.dw, h.nd⟩
/-- the one that is first goes -/
theorem OneI.step {N : Nat} {col : Int → Int} {tab : List Int} {F : Int → Int} {i : Nat} {c : Int} {ws : List Wt} {ds : List Int} (hN : N ≤ 7) (hc : c ≤ 999) (h : OneI N col tab F i c ws ds) (hr : readyW ws = true) :
    OneI N col tab F i c (ws.eraseIdx (firstW ws).toNat) (ds ++ [(nth ws (firstW ws).toNat).n]) := by
  have hmid := h.mid hN
  have hb : inW ws := fun k hk => by have := hmid.wt _ (nthM hk); omega
  obtain ⟨r1, r2, r3⟩ := ready_lt hr
  obtain ⟨m, g1, g2, g3⟩ := firstK_spec h.up hb ws.length (by omega) (Nat.le_refl _)
  have hm : firstW ws = m := g1
  rw [hm, Int.toNat_natCast] at r2 r3 ⊢
  have hst := hmid.step r2
  have hmem : ∀ w ∈ ws.eraseIdx m, w ∈ ws := fun w hw => List.mem_of_mem_eraseIdx hw
  have h0 := h.wt _ (nthM r2)
  obtain ⟨e1, e2⟩ := h0.2.2.2.2.2.2 r3
  have hle : ∀ u ∈ ws, u.n ≠ (nth ws m).n → (nth ws m).t < u.t ∨ ((nth ws m).t = u.t ∧ (nth ws m).n < u.n) := fun u hu hne => by
    obtain ⟨j, hj, rfl⟩ := List.getElem_of_mem hu
    rw [← nth_eq _ _ hj] at hne ⊢
    rcases g3 j hj with g | ⟨g, g'⟩
    · exact .inl g
    · refine .inr ⟨g, ?_⟩
      by_cases e : m = j
      · subst e; exact (hne rfl).elim
      · exact h.up m j (by omega) hj
  refine ⟨fun w hw => h.wt w (hmem w hw), hst.up, fun d hd => ?_, hst.dw, hst.nd, ?_, fun d hd w hw => ?_, fun n n1 n2 n3 n4 => ?_⟩
  · rcases List.mem_append.1 hd with hd | hd
    · exact h.dr d hd
    · simp only [List.mem_singleton] at hd
      subst hd
      rw [e1]
      exact ⟨h0.1, h0.2.2.1, h0.2.1, h0.2.2.2.2.1, e2⟩
  · rw [List.pairwise_append]
    refine ⟨h.so, by simp, fun a ha b hb' => ?_⟩
    simp only [List.mem_singleton] at hb'
    subst hb'
    unfold ltD
    rw [e1]
    exact h.dl a ha _ (nthM r2)
  · rcases List.mem_append.1 hd with hd | hd
    · exact h.dl d hd w (hmem w hw)
    · have hne := hst.dw d (List.mem_append.2 (.inr hd)) w hw
      simp only [List.mem_singleton] at hd
      subst hd
      rw [e1]
      exact hle w (hmem w hw) hne
  · obtain ⟨w, w1, w2, w3⟩ := h.all n n1 n2 n3 n4
    refine ⟨w, ?_, w2, w3⟩
    obtain ⟨k, hk, rfl⟩ := List.getElem_of_mem w1
    have hkm : k ≠ m := by
      rintro rfl
      rw [← nth_eq _ _ hk, r3] at w3
      cases w3
    rw [List.mem_iff_getElem]
    have hl : (ws.eraseIdx m).length = ws.length - 1 := by rw [List.length_eraseIdx, if_pos r2]
    by_cases hlt : k < m
    · exact ⟨k, by omega, by rw [List.getElem_eraseIdx, dif_pos hlt]⟩
    · exact ⟨k - 1, by omega, by
        rw [List.getElem_eraseIdx, dif_neg (by omega)]
        congr 1; omega⟩
theorem OneI.sweep {N : Nat} {col : Int → Int} {tab : List Int} {F : Int → Int} {i : Nat} {c : Int} (hN : N ≤ 7) (hc : c ≤ 999) : ∀ (k : Nat) (ws : List Wt) (ds : List Int), OneI N col tab F i c ws ds → OneI N col tab F i c (sweepN k ws ds).1 (sweepN k ws ds).2
  | 0, _, _, h => h
  | k + 1, ws, ds, h => by
    rw [sweepN]
    split
    · rename_i hr; exact OneI.sweep hN hc k _ _ (h.step hN hc hr)
    · exact h
end Go.Proofs.Ytocglfkflpkafaa
/- Servers: plain laws: a system of three keeps what holds of it. No program in sight. -/
namespace Go.Proofs.Ytocglfkflpkafaa
open Go
theorem up_inj {ws : List Wt} (hu : upW ws) {w u : Wt} (hw : w ∈ ws) (hv : u ∈ ws) (e : w.n = u.n) : w = u := by
  obtain ⟨i, hi, rfl⟩ := List.getElem_of_mem hw
  obtain ⟨j, hj, rfl⟩ := List.getElem_of_mem hv
  rw [← nth_eq _ _ hi, ← nth_eq _ _ hj] at e ⊢
  rcases Nat.lt_trichotomy i j with g | g | g
  · have := hu i j g hj; omega
  · rw [g]
  · have := hu j i g hi; omega
theorem OneI.congrF {N : Nat} {col : Int → Int} {tab : List Int} {F F' : Int → Int} {i : Nat} {c : Int} {ws : List Wt} {ds : List Int} (h : OneI N col tab F i c ws ds) (hF : ∀ m : Int, 1 ≤ m → m ≤ (N : Int) → F' m = F m) : OneI N col tab F' i c ws ds := by
  refine ⟨fun w hw => ?_, h.up, fun d hd => ?_, h.dw, h.nd, ?_, fun d hd w hw => ?_, fun n n1 n2 n3 n4 => ?_⟩
  · have := h.wt w hw
    rw [hF _ this.1.1 this.1.2]; exact this
  · have := h.dr d hd
    rw [hF _ this.1.1 this.1.2]; exact this
  · refine h.so.imp_of_mem fun {a b} ha hb hab => ?_
    have h1 := h.dr a ha
    have h2 := h.dr b hb
    unfold ltD at hab ⊢
    rw [hF _ h1.1.1 h1.1.2, hF _ h2.1.1 h2.1.2]; exact hab
  · have h1 := h.dr d hd
    rw [hF _ h1.1.1 h1.1.2]; exact h.dl d hd w hw
  · rw [hF _ n1 n2] at n4
    exact h.all n n1 n2 n3 n4
def cntT (tab : List Int) : Int := (tab.countP fun v => decide (v ≠ 0) : Nat)
/-- three servers, times, times for good -/
structure Sys (N : Nat) (col : Int → Int) (S : Nat → KS) (tab fin : List Int) : Prop where
  tl : tab.length = 24
  fl : fin.length = 24
  one : ∀ i, i < 3 → OneI N col tab (fun n => tAt fin n i) i (S i).c (S i).ws (S i).ds
  rd : ∀ i, i < 3 → readyW (S i).ws = false
  ck : ∀ i, i < 3 → 0 ≤ (S i).c ∧ (S i).c ≤ cntT tab
  tb : ∀ (n : Int) (i : Nat), 1 ≤ n → n ≤ 7 → i < 3 → 0 ≤ tAt tab n i ∧ tAt tab n i ≤ cntT tab
  fb : ∀ (n : Int) (i : Nat), 1 ≤ n → n ≤ 7 → i < 3 → 0 ≤ tAt fin n i
  fz : ∀ (n : Int) (i : Nat), 1 ≤ n → n ≤ 7 → i < 3 → tAt tab n i = 0 → tAt fin n i = 0
theorem cntT_le {tab : List Int} (h : tab.length = 24) : 0 ≤ cntT tab ∧ cntT tab ≤ 24 := by
  unfold cntT
  have : tab.countP (fun v => decide (v ≠ 0)) ≤ tab.length := List.countP_le_length
  omega
theorem cntT_set {tab : List Int} (h : tab.length = 24) {n : Int} {i : Nat} {v : Int} (hn : 1 ≤ n ∧ n ≤ 7) (hi : i < 3) (h0 : tAt tab n i = 0) (hv : v ≠ 0) : cntT (tSet tab n i v) = cntT tab + 1 := by
  have hb : 3 * n.toNat + i < tab.length := by omega
  unfold cntT tSet
  rw [List.countP_set hb]
  unfold tAt at h0
  rw [nth_eq _ _ hb] at h0
  simp [h0, hv]
theorem Sys.right {N : Nat} {col : Int → Int} {S : Nat → KS} {tab fin : List Int} (hN : N ≤ 7) (h : Sys N col S tab fin) {i : Nat} (hi : i < 3) : RightS (S i).c (S i).ws (S i).ds ∧ (S i).ws.length ≤ 7 ∧ (S i).ds.length ≤ 7 ∧ (S i).c ≤ 24 := by
  have o := h.one i hi
  have m := o.mid hN
  have k := h.ck i hi
  have := cntT_le h.tl
  have a := few_up o.up (N := N) fun w hw => (o.wt w hw).1
  have b := few (N := N) (S i).ds o.nd fun d hd => (o.dr d hd).1
  exact ⟨⟨k.1, by omega, by omega, by omega, m.wt, m.up, m.dr, m.dw, m.nd, h.rd i hi⟩, by omega, by omega, by omega⟩
theorem upd_same {α : Type} (T : Nat → α) (k : Nat) (s : α) : upd T k s k = s := if_pos rfl
theorem upd_ne {α : Type} (T : Nat → α) {k j : Nat} (s : α) (h : j ≠ k) : upd T k s j = T j := if_neg h
/-- a number is proposed at a server that knows nothing of it -/
theorem Sys.prop {N : Nat} {col : Int → Int} {S : Nat → KS} {tab fin : List Int} (hN : N ≤ 7) (h : Sys N col S tab fin) {n : Int} {i : Nat} (hn : 1 ≤ n ∧ n ≤ (N : Int)) (hi : i < 3) (hb : bitB (col n) i = true) (h0 : tAt tab n i = 0) :
    propErr (S i).c (S i).ws (S i).ds n = 0 ∧ Sys N col (upd S i (propK (S i) n)) (tSet tab n i ((S i).c + 1)) fin := by
  have o := h.one i hi
  obtain ⟨hr, hw7, hd7, hc24⟩ := h.right hN hi
  have hc0 := hr.c0
  have nw : ∀ w ∈ (S i).ws, w.n ≠ n := fun w hw e => by have := (o.wt w hw).2.2.2.2.1; rw [e, h0] at this; omega
  have nd : ∀ d ∈ (S i).ds, d ≠ n := fun d hd e => by have := (o.dr d hd).2.2.2.1; rw [e, h0] at this; omega
  have hf : foundW (S i).ws n = false := found_not.2 nw
  have hda : ((S i).ds.any fun y => decide (y = n)) = false := by
    rw [← Bool.not_eq_true, List.any_eq_true]
    rintro ⟨y, hy, e⟩
    exact nd y hy (by simpa using e)
  have he : propErr (S i).c (S i).ws (S i).ds n = 0 := by
    rw [propErr, if_neg (by simp [wthn_iff]; omega), if_neg (by simp [hf, hda]), if_neg (by omega)]
  refine ⟨he, ?_⟩
  have ep : propK (S i) n = ⟨(S i).a + 1, (S i).b, (S i).c + 1, (S i).ws.insertIdx (posW (S i).ws n) ⟨n, (S i).c + 1, false⟩, (S i).ds⟩ := by rw [propK, if_pos he]
  have hT : ∀ (m : Int) (j : Nat), 1 ≤ m → m ≤ 7 → j < 3 → tAt (tSet tab n i ((S i).c + 1)) m j = if m = n ∧ j = i then (S i).c + 1 else tAt tab m j := fun m j h1 h2 h3 => tAt_set h.tl ⟨hn.1, by omega⟩ ⟨h1, h2⟩ hi h3
  have hM : ∀ (m v : Int), 1 ≤ m → m ≤ 7 → mostS tab m (col m) 3 = some v → mostS (tSet tab n i ((S i).c + 1)) m (col m) 3 = some v := fun m v h1 h2 hm => by
    by_cases e : m = n
    · subst e
      have := ((mostS_some 3 v hm).2.1 i hi hb).1
      exact (this h0).elim
    · rw [mostS_congr (tab := tab) (fun j hj => by rw [hT m j h1 h2 hj, if_neg (fun q => e q.1)]) 3 (Nat.le_refl _)]; exact hm
  have hcnt := cntT_set h.tl ⟨hn.1, by omega⟩ hi h0 (v := (S i).c + 1) (by omega)
  have hck := h.ck i hi
  have hp := posW_le (S i).ws n
  have hrp := right_prop hr he
  refine ⟨by simp [tSet, h.tl], h.fl, fun j hj => ?_, fun j hj => ?_, fun j hj => ?_, fun m j h1 h2 h3 => ?_, h.fb, fun m j h1 h2 h3 h4 => ?_⟩
  · by_cases e : j = i
    · subst e
      rw [upd_same, ep]
      refine ⟨fun w hw => ?_, hrp.up, fun d hd => ?_, hrp.dw, o.nd, o.so, fun d hd w hw => ?_, fun m m1 m2 m3 m4 => ?_⟩
      · rcases (mem_ins hp).1 hw with rfl | hw
        · simp only
          rw [hT n j hn.1 (by omega) hj, if_pos ⟨rfl, rfl⟩]
          refine ⟨hn, by omega, by omega, hb, by omega, fun _ => ⟨?_, rfl⟩, fun q => by cases q⟩
          exact h.fz n j hn.1 (by omega) hj h0
        · have q := o.wt w hw
          rw [hT w.n j q.1.1 (by omega) hj, if_neg (fun z => nw w hw z.1)]
          exact ⟨q.1, by simp only; omega, q.2.2.1, q.2.2.2.1, q.2.2.2.2.1, q.2.2.2.2.2.1, fun z => ⟨(q.2.2.2.2.2.2 z).1, hM _ _ q.1.1 (by omega) (q.2.2.2.2.2.2 z).2⟩⟩
      · have q := o.dr d hd
        rw [hT d j q.1.1 (by omega) hj, if_neg (fun z => nd d hd z.1)]
        exact ⟨q.1, q.2.1, by simp only; omega, q.2.2.2.1, hM _ _ q.1.1 (by omega) q.2.2.2.2⟩
      · rcases (mem_ins hp).1 hw with rfl | hw
        · have q := o.dr d hd
          exact .inl (by simp only; omega)
        · exact o.dl d hd w hw
      · by_cases em : m = n
        · exact ⟨_, (mem_ins hp).2 (.inl rfl), em.symm, rfl⟩
        · rw [hT m j m1 (by omega) hj, if_neg (fun z => em z.1)] at m3
          obtain ⟨w, w1, w2⟩ := o.all m m1 m2 m3 m4
          exact ⟨w, (mem_ins hp).2 (.inr w1), w2⟩
    · rw [upd_ne _ _ e]
      have oj := h.one j hj
      have hTj : ∀ m : Int, 1 ≤ m → m ≤ (N : Int) → tAt (tSet tab n i ((S i).c + 1)) m j = tAt tab m j := fun m h1 h2 => by rw [hT m j h1 (by omega) hj, if_neg (fun z => e z.2)]
      refine ⟨fun w hw => ?_, oj.up, fun d hd => ?_, oj.dw, oj.nd, oj.so, oj.dl, fun m m1 m2 m3 m4 => ?_⟩
      · have q := oj.wt w hw
        rw [hTj _ q.1.1 q.1.2]
        exact ⟨q.1, q.2.1, q.2.2.1, q.2.2.2.1, q.2.2.2.2.1, q.2.2.2.2.2.1, fun z => ⟨(q.2.2.2.2.2.2 z).1, hM _ _ q.1.1 (by omega) (q.2.2.2.2.2.2 z).2⟩⟩
      · have q := oj.dr d hd
        rw [hTj _ q.1.1 q.1.2]
        exact ⟨q.1, q.2.1, q.2.2.1, q.2.2.2.1, hM _ _ q.1.1 (by omega) q.2.2.2.2⟩
      · rw [hTj m m1 m2] at m3
        exact oj.all m m1 m2 m3 m4
  · by_cases e : j = i
    · subst e; rw [upd_same, ep]; exact hrp.rd
    · rw [upd_ne _ _ e]; exact h.rd j hj
  · rw [hcnt]
    by_cases e : j = i
    · subst e; rw [upd_same, ep]; simp only; omega
    · rw [upd_ne _ _ e]; have := h.ck j hj; omega
  · rw [hT m j h1 h2 h3, hcnt]
    have := h.tb m j h1 h2 h3
    split <;> omega
  · rw [hT m j h1 h2 h3] at h4
    split at h4
    · omega
    · exact h.fz m j h1 h2 h3 h4
end Go.Proofs.Ytocglfkflpkafaa
/- Servers: plain laws: a commit keeps what holds of a system; two servers are done in one order. No program in sight. -/
namespace Go.Proofs.Ytocglfkflpkafaa
open Go
theorem set_other {ws : List Wt} {p : Nat} {w0 w : Wt} (hp : p < ws.length) (hw : w ∈ ws) (hne : w.n ≠ (nth ws p).n) : w ∈ ws.set p w0 := by
  obtain ⟨k, hk, rfl⟩ := List.getElem_of_mem hw
  have hkp : p ≠ k := by
    rintro rfl
    exact hne (by rw [nth_eq _ _ hk])
  rw [List.mem_iff_getElem]
  exact ⟨k, by simpa using hk, by rw [List.getElem_set_ne hkp]⟩
/-- a number that every server of its has proposed is committed at one of them -/
theorem Sys.comm {N : Nat} {col : Int → Int} {S : Nat → KS} {tab fin : List Int} (hN : N ≤ 7) (h : Sys N col S tab fin) {n tm : Int} {i : Nat} (hn : 1 ≤ n ∧ n ≤ (N : Int)) (hi : i < 3) (hb : bitB (col n) i = true) (h0 : tAt tab n i ≠ 0) (hz : tAt fin n i = 0)
    (hm : mostS tab n (col n) 3 = some tm) : commErr (S i).ws (S i).ds n tm = 0 ∧ Sys N col (upd S i (commK (S i) n tm)) tab (tSet fin n i tm) := by
  have o := h.one i hi
  obtain ⟨hr, hw7, hd7, hc24⟩ := h.right hN hi
  obtain ⟨w0, m1, m2, m3⟩ := o.all n hn.1 hn.2 h0 hz
  have hw0 := o.wt w0 m1
  have ht0 : w0.t = tAt tab n i := by rw [← m2]; exact (hw0.2.2.2.2.2.1 m3).2
  have hf : foundW (S i).ws n = true := found_iff.2 ⟨w0, m1, m2⟩
  obtain ⟨g1, g2⟩ := found_pos o.up hf
  have e0 : nth (S i).ws (posW (S i).ws n) = w0 := up_inj o.up (nthM g1) m1 (by rw [g2, m2])
  obtain ⟨hM0, hM1, hM2⟩ := mostS_some 3 tm hm
  have hMi := hM1 i hi hb
  have hcnt := cntT_le h.tl
  have htm : tm ≤ cntT tab := hM2 _ hcnt.1 fun j hj => (h.tb n j hn.1 (by omega) hj).2
  have hE0 : commE0 (S i).ws n tm = 0 := by
    rw [commE0, if_neg (by simp [wthn_iff]; omega), if_neg (by simp [hf]), e0, if_neg]
    rintro (q | q)
    · rw [m3] at q; cases q
    · omega
  have hset : setW (S i).ws n tm = (S i).ws.set (posW (S i).ws n) ⟨n, tm, true⟩ := by rw [setW, g2]
  have hups : upW (setW (S i).ws n tm) := by rw [hset]; exact upW_set o.up g1 g2.symm
  have hT : ∀ (m : Int) (j : Nat), 1 ≤ m → m ≤ 7 → j < 3 → tAt (tSet fin n i tm) m j = if m = n ∧ j = i then tm else tAt fin m j := fun m j h1 h2 h3 => tAt_set h.fl ⟨hn.1, by omega⟩ ⟨h1, h2⟩ hi h3
  have hFn : tAt (tSet fin n i tm) n i = tm := by rw [hT n i hn.1 (by omega) hi, if_pos ⟨rfl, rfl⟩]
  have hFm : ∀ m : Int, 1 ≤ m → m ≤ (N : Int) → m ≠ n → tAt (tSet fin n i tm) m i = tAt fin m i := fun m a b c => by rw [hT m i a (by omega) hi, if_neg (fun q => c q.1)]
  have hmx : (S i).c ≤ maxI (S i).c tm ∧ tm ≤ maxI (S i).c tm ∧ maxI (S i).c tm ≤ cntT tab := by
    have := (h.ck i hi).2
    unfold maxI; split <;> omega
  have hsplit : ∀ w ∈ setW (S i).ws n tm, w = ⟨n, tm, true⟩ ∨ (w ∈ (S i).ws ∧ w.n ≠ n) := fun w hw => by
    have hnew : (⟨n, tm, true⟩ : Wt) ∈ setW (S i).ws n tm := by rw [hset]; exact List.mem_iff_getElem.2 ⟨_, by simpa using g1, by rw [List.getElem_set_self]⟩
    by_cases e : w.n = n
    · exact .inl (up_inj hups hw hnew e)
    · refine .inr ⟨?_, e⟩
      rw [hset] at hw
      rcases List.mem_or_eq_of_mem_set hw with q | q
      · exact q
      · subst q; exact (e rfl).elim
  have dn : ∀ d ∈ (S i).ds, d ≠ n := fun d hd e => o.dw d hd w0 m1 (by rw [m2, e])
  have one' : OneI N col tab (fun m => tAt (tSet fin n i tm) m i) i (maxI (S i).c tm) (setW (S i).ws n tm) (S i).ds := by
    refine ⟨fun w hw => ?_, hups, fun d hd => ?_, fun d hd w hw => ?_, o.nd, ?_, fun d hd w hw => ?_, fun m n1 n2 n3 n4 => ?_⟩
    · rcases hsplit w hw with rfl | ⟨hw, hne⟩
      · refine ⟨hn, hmx.2.1, by simp only; omega, hb, by simp only; have := h.tb n i hn.1 (by omega) hi; omega, (fun q => by cases q), fun _ => ⟨hFn, hm⟩⟩
      · have q := o.wt w hw
        rw [hFm _ q.1.1 q.1.2 hne]
        exact ⟨q.1, by omega, q.2.2⟩
    · have q := o.dr d hd
      rw [hFm _ q.1.1 q.1.2 (dn d hd)]
      exact ⟨q.1, q.2.1, by have := q.2.2.1; omega, q.2.2.2⟩
    · rcases hsplit w hw with rfl | ⟨hw, hne⟩
      · exact fun e => dn d hd e.symm
      · exact o.dw d hd w hw
    · refine o.so.imp_of_mem fun {a b} ha hb' hab => ?_
      have h1 := o.dr a ha
      have h2 := o.dr b hb'
      unfold ltD at hab ⊢
      rw [show (fun m => tAt (tSet fin n i tm) m i) a = tAt fin a i from hFm _ h1.1.1 h1.1.2 (dn a ha), show (fun m => tAt (tSet fin n i tm) m i) b = tAt fin b i from hFm _ h2.1.1 h2.1.2 (dn b hb')]
      exact hab
    · have h1 := o.dr d hd
      rw [hFm _ h1.1.1 h1.1.2 (dn d hd)]
      rcases hsplit w hw with rfl | ⟨hw, hne⟩
      · have := o.dl d hd w0 m1
        simp only at this ⊢
        omega
      · exact o.dl d hd w hw
    · have hne : m ≠ n := by
        rintro rfl
        have : tAt (tSet fin m i tm) m i = 0 := n4
        rw [hFn] at this
        have := h.tb m i n1 (by omega) hi
        omega
      have n4' : tAt fin m i = 0 := by rw [← hFm m n1 n2 hne]; exact n4
      obtain ⟨w, w1, w2, w3⟩ := o.all m n1 n2 n3 n4'
      refine ⟨w, ?_, w2, w3⟩
      rw [hset]
      exact set_other g1 w1 (by rw [g2, w2]; exact hne)
  have hsw := one'.sweep hN (by omega) (setW (S i).ws n tm).length
  have hmid := sweepN_mid (setW (S i).ws n tm).length _ _ (one'.mid hN) (Nat.le_refl _)
  have hlen : (swept (setW (S i).ws n tm) (S i).ds).2.length ≤ N := few _ hsw.nd fun d hd => (hsw.dr d hd).1
  have hE : commErr (S i).ws (S i).ds n tm = 0 := by
    rw [commErr, if_neg (by simp [hE0]), if_neg (by omega)]
  refine ⟨hE, ?_⟩
  have ek : ∀ p : KS → Prop, p (commK (S i) n tm) → p (commK (S i) n tm) := fun _ h => h
  have e1 : (commK (S i) n tm).c = maxI (S i).c tm := by rw [commK, if_neg (by simp [hE0])]
  have e2 : (commK (S i) n tm).ws = (swept (setW (S i).ws n tm) (S i).ds).1 := by rw [commK, if_neg (by simp [hE0])]
  have e3 : (commK (S i) n tm).ds = (swept (setW (S i).ws n tm) (S i).ds).2 := by rw [commK, if_neg (by simp [hE0])]
  refine ⟨h.tl, by simp [tSet, h.fl], fun j hj => ?_, fun j hj => ?_, fun j hj => ?_, h.tb, fun m j h1 h2 h3 => ?_, fun m j h1 h2 h3 h4 => ?_⟩
  · by_cases e : j = i
    · subst e
      rw [upd_same, e1, e2, e3]
      exact hsw
    · rw [upd_ne _ _ e]
      exact (h.one j hj).congrF fun m a b => by
        show tAt (tSet fin n i tm) m j = tAt fin m j
        rw [hT m j a (by omega) hj, if_neg (fun q => e q.2)]
  · by_cases e : j = i
    · subst e; rw [upd_same, e2]; exact hmid.2.1
    · rw [upd_ne _ _ e]; exact h.rd j hj
  · by_cases e : j = i
    · subst e; rw [upd_same, e1]
      have := (h.ck j hj).1
      omega
    · rw [upd_ne _ _ e]; exact h.ck j hj
  · rw [hT m j h1 h2 h3]
    have := h.fb m j h1 h2 h3
    split <;> omega
  · rw [hT m j h1 h2 h3]
    split
    · rename_i q
      rw [q.1, q.2] at h4
      exact (h0 h4).elim
    · exact h.fz m j h1 h2 h3 h4
/-- of two servers: what is done at both stands in one order -/
theorem Sys.order {N : Nat} {col : Int → Int} {S : Nat → KS} {tab fin : List Int} (h : Sys N col S tab fin) {i k : Nat} (hi : i < 3) (hk : k < 3) :
    (S i).ds.filter (fun a => (S k).ds.any fun y => decide (y = a)) = (S k).ds.filter (fun a => (S i).ds.any fun y => decide (y = a)) := by
  have oi := h.one i hi
  have ok := h.one k hk
  have hany : ∀ (l : List Int) (a : Int), (l.any fun y => decide (y = a)) = true ↔ a ∈ l := fun l a => by
    rw [List.any_eq_true]
    exact ⟨fun ⟨y, h1, h2⟩ => by rw [← of_decide_eq_true h2]; exact h1, fun h => ⟨a, h, by simp⟩⟩
  have hF : ∀ d, d ∈ (S i).ds → d ∈ (S k).ds → tAt fin d i = tAt fin d k := fun d h1 h2 => by
    have a := (oi.dr d h1).2.2.2.2
    have b := (ok.dr d h2).2.2.2.2
    rw [a] at b
    exact Option.some.inj b
  refine rise_eq (lt := ltD fun n => tAt fin n i) (fun a => by unfold ltD; omega) (fun a b c => by unfold ltD; omega) _ _ (oi.so.sublist List.filter_sublist) ?_ fun x => ?_
  · refine (ok.so.sublist List.filter_sublist).imp_of_mem fun {a b} ha hb hab => ?_
    rw [List.mem_filter, hany] at ha hb
    unfold ltD at hab ⊢
    simp only at hab ⊢
    rw [hF a ha.2 ha.1, hF b hb.2 hb.1]
    exact hab
  · rw [List.mem_filter, List.mem_filter, hany, hany]
    exact ⟨fun ⟨a, b⟩ => ⟨b, a⟩, fun ⟨a, b⟩ => ⟨b, a⟩⟩
end Go.Proofs.Ytocglfkflpkafaa
/- Servers: the most of an entry's times; whether those in both stand in one order: contracts. -/
namespace Go.Proofs.Ytocglfkflpkafaa
set_option linter.unusedSimpArgs false
set_option linter.unusedVariables false
open Go.RowKit
theorem mostS_none {tab : List Int} {n c : Int} {k : Nat} (h : mostS tab n c k = none) : ∀ j, mostS tab n c (k + j) = none
  | 0 => h
  | j + 1 => by rw [Nat.add_succ, mostS, mostS_none h j]
/-- a table's cells -/
def cT (tab : List Int) : List PV := tab.map fun v => .int .i64 v
theorem cT_len (tab : List Int) : (cT tab).length = tab.length := by simp [cT]
theorem cT_get {tab : List Int} {o : Nat} (h : o < tab.length) : List.take 1 (List.drop o (cT tab)) = [.int .i64 (nth tab o)] := by
  have hl : o < (cT tab).length := by rw [cT_len]; exact h
  rw [List.drop_eq_getElem_cons hl]
  simp [cT, nth_eq _ _ h]
theorem cT_set {tab : List Int} {o : Nat} (h : o < tab.length) (v : Int) : List.take o (cT tab) ++ .int .i64 v :: List.drop (o + 1) (cT tab) = cT (tab.set o v) := by
  have hl : o < (cT tab).length := by rw [cT_len]; exact h
  have := List.set_eq_take_append_cons_drop (l := cT tab) (i := o) (a := PV.int .i64 v)
  rw [if_pos hl] at this
  rw [← this]
  unfold cT
  rw [List.map_set]
theorem cT_ren (tab : List Int) (nl : Bool) (f : Nat → Option Nat) (fz : Nat → Nat → PV) : (cT tab).map (renCell nl f fz) = cT tab := by
  unfold cT
  rw [List.map_map]
  exact List.map_congr_left fun x _ => rfl
theorem tAt_nat (tab : List Int) (m i : Nat) : tAt tab (m : Int) i = nth tab (m * 3 + i) := by
  unfold tAt; rw [Int.toNat_natCast, Nat.mul_comm]
theorem tSet_nat (tab : List Int) (m i : Nat) (v : Int) : tSet tab (m : Int) i v = tab.set (m * 3 + i) v := by
  unfold tSet; rw [Int.toNat_natCast, Nat.mul_comm]
def mostR (o : Option Int) : PV := match o with
  | some m => .tup [.int .i64 m, .bool true]
  | none => .tup [.int .i64 0, .bool false]
set_option maxHeartbeats 2000000 in
theorem most_meets (tab : List Int) (n : Nat) (c : Int) (hl : tab.length = 24) (hn : n < 8) (hc0 : 0 ≤ c) (hc7 : c ≤ 7) : Meets Try.prog 18 [.ptr 0 0, .int .i64 n, .int .i64 c] [.box (cT tab)] (mostR (mostS tab n c 3)) [.box (cT tab)] := by
  refine Meets.of_walk Try.func18 Try.ntmps18 low18 res18 (by simp) fun x hx => ?_
  simp only [go_sem, Nat.reduceLT, Nat.reduceAdd, Nat.reduceEqDiff, Nat.reduceLeDiff, Nat.reduceSub, Nat.reduceMul, Int.reduceEq, eq_self, reduceIte, L18, R18]
  refine loop_keep [0, 1, 2, 8, 9] (fun m st => ∃ (k : Nat) (t : Int), m + k = 3 ∧ mostS tab n c k = some t ∧
    st = ⟨mkE .top [(0, .ptr 0 0), (1, .int .i64 n), (2, .int .i64 c), (8, .int .i64 t), (9, .int .i64 k)], [.box (cT tab)]⟩) 3 ?_ ?_
  · refine ⟨0, 0, rfl, rfl, ?_⟩
    simp [keep_mk, mkE_cons, mkE_nil]
  · rintro m st ⟨k, t, hmk, ht, rfl⟩
    by_cases hk : k < 3
    · have hk' : ((k : Int) < 3) := by omega
      have wk := i64_up (k := k) (by omega)
      have hs : mostS tab n c (k + 1) = if bitB c k = true then (if tAt tab n k = 0 then none else some (maxI t (tAt tab n k))) else some t := by rw [mostS, ht]
      simp only [go_sem, Nat.reduceLT, Nat.reduceAdd, Nat.reduceEqDiff, Nat.reduceLeDiff, Nat.reduceSub, Nat.reduceMul, Int.reduceEq, eq_self, reduceIte, hk']
      refine ops_call (.pureE (isOf_meets c k hk hc0 hc7) (by simp [go_sem, Nat.reduceLT, Nat.reduceAdd, Nat.reduceEqDiff, Nat.reduceLeDiff, Nat.reduceSub, Nat.reduceMul, Int.reduceEq, eq_self, reduceIte])) ?_
      cases hb : bitB c k
      · rw [hb, if_neg (by simp)] at hs
        simp only [go_sem, Nat.reduceLT, Nat.reduceAdd, Nat.reduceEqDiff, Nat.reduceLeDiff, Nat.reduceSub, Nat.reduceMul, Int.reduceEq, eq_self, reduceIte, wk]
        refine ⟨2 - k, by omega, k + 1, t, by omega, hs, ?_⟩
        simp [keep_mk, mkE_cons, mkE_nil]
      · rw [hb, if_pos rfl, tAt_nat] at hs
        have hn8 : ((n : Int) < 8) := by omega
        have ho : n * 3 + k < tab.length := by omega
        have hle : n * 3 + k + 1 ≤ tab.length := by omega
        have hg := cT_get ho
        by_cases h0 : nth tab (n * 3 + k) = 0
        · rw [if_pos h0] at hs
          have hnone := mostS_none hs (2 - k)
          rw [show k + 1 + (2 - k) = 3 by omega] at hnone
          simp only [go_sem, Nat.reduceLT, Nat.reduceAdd, Nat.reduceEqDiff, Nat.reduceLeDiff, Nat.reduceSub, Nat.reduceMul, Int.reduceEq, eq_self, reduceIte, hk, hk', hn, hn8, Nat.mul_one, cT_len, hle, hg, h0]
          rw [hnone]
          refine ret_keep [] (by simp) (by simp) (by simp [hx]) ?_ ?_
          · simp [go_sem, Nat.reduceLT, Nat.reduceAdd, Nat.reduceEqDiff, Nat.reduceLeDiff, Nat.reduceSub, Nat.reduceMul, Int.reduceEq, eq_self, reduceIte, L18, R18, hx, pos, mostR]
          · simp [subHeap, renObj, hx, pos, go_sem, Nat.reduceLT, Nat.reduceAdd, Nat.reduceEqDiff, Nat.reduceLeDiff, Nat.reduceSub, Nat.reduceMul, Int.reduceEq, eq_self, reduceIte, List.range_succ, cT]
        · rw [if_neg h0] at hs
          by_cases hgt : t < nth tab (n * 3 + k)
          · have hmx : maxI t (nth tab (n * 3 + k)) = nth tab (n * 3 + k) := by rw [maxI, if_pos hgt]
            rw [hmx] at hs
            simp only [go_sem, Nat.reduceLT, Nat.reduceAdd, Nat.reduceEqDiff, Nat.reduceLeDiff, Nat.reduceSub, Nat.reduceMul, Int.reduceEq, eq_self, reduceIte, hk, hk', hn, hn8, Nat.mul_one, cT_len, hle, hg, h0, hgt, wk]
            refine ⟨2 - k, by omega, k + 1, _, by omega, hs, ?_⟩
            simp [keep_mk, mkE_cons, mkE_nil]
          · have hmx : maxI t (nth tab (n * 3 + k)) = t := by rw [maxI, if_neg hgt]
            rw [hmx] at hs
            simp only [go_sem, Nat.reduceLT, Nat.reduceAdd, Nat.reduceEqDiff, Nat.reduceLeDiff, Nat.reduceSub, Nat.reduceMul, Int.reduceEq, eq_self, reduceIte, hk, hk', hn, hn8, Nat.mul_one, cT_len, hle, hg, h0, hgt, wk]
            refine ⟨2 - k, by omega, k + 1, _, by omega, hs, ?_⟩
            simp [keep_mk, mkE_cons, mkE_nil]
    · have : k = 3 := by omega
      subst this
      simp only [go_sem, Nat.reduceLT, Nat.reduceAdd, Nat.reduceEqDiff, Nat.reduceLeDiff, Nat.reduceSub, Nat.reduceMul, Int.reduceEq, eq_self, reduceIte, Int.ofNat_zero, Int.natCast_one, Int.cast_ofNat_Int, Int.reduceLT, Int.reduceLE, Int.reduceToNat, Nat.reduceLT, Int.toNat_zero, Int.natCast_zero, Int.le_refl, Int.lt_irrefl, Int.reduceAdd, frz, false_or, or_true]
      rw [ht]
      refine ret_keep [] (by simp) (by simp) (by simp [hx]) ?_ ?_
      · simp [go_sem, Nat.reduceLT, Nat.reduceAdd, Nat.reduceEqDiff, Nat.reduceLeDiff, Nat.reduceSub, Nat.reduceMul, Int.reduceEq, eq_self, reduceIte, L18, R18, hx, pos, mostR]
      · simp [subHeap, renObj, hx, pos, go_sem, Nat.reduceLT, Nat.reduceAdd, Nat.reduceEqDiff, Nat.reduceLeDiff, Nat.reduceSub, Nat.reduceMul, Int.reduceEq, eq_self, reduceIte, List.range_succ, cT]
/-- those of a list that are in another one -/
def inBoth (a b : List Int) : List Int := a.filter fun x => b.any fun y => decide (y = x)
theorem inBoth_take {a b : List Int} {k : Nat} (h : k < a.length) : inBoth (a.take (k + 1)) b = if (b.any fun y => decide (y = nth a k)) = true then inBoth (a.take k) b ++ [nth a k] else inBoth (a.take k) b := by
  unfold inBoth
  rw [List.take_succ_eq_append_getElem h, List.filter_append, nth_eq _ _ h]
  split
  · rename_i h1; simp [h1]
  · rename_i h1; simp [h1]
theorem inBoth_len (a b : List Int) : (inBoth a b).length ≤ a.length := List.length_filter_le ..
set_option maxHeartbeats 4000000 in
theorem sameOrder_meets (a b : List Int) (ha : a.length ≤ 1000000) (hb : b.length ≤ 1000000) (he : inBoth a b = inBoth b a) : Meets Try.prog 19 [.list (a.map cN), .list (b.map cN)] [] (.bool true) [] := by
  refine Meets.of_walk Try.func19 Try.ntmps19 low19 res19 (by simp) fun x hx => ?_
  simp only [go_sem, Nat.reduceLT, Nat.reduceAdd, Nat.reduceEqDiff, Nat.reduceLeDiff, Nat.reduceSub, Nat.reduceMul, Int.reduceEq, eq_self, reduceIte, L19, R19]
  refine W_weak (weak_own 5 0 3 1 true false rfl (by omega)) ?_
  rw [put_mk]
  refine loop_inv [0, 1, 5, 6, 7] 1 (fun m st => ∃ k v : Nat, k + m = a.length ∧
    st = ⟨mkE .top [(0, .list (a.map cN)), (1, .list (b.map cN)), (5, .arr 0 v), (6, .nilsl), (7, .int .i64 k)], [.arr v true false 3 1 ((inBoth (a.take k) b).map cN)]⟩) a.length (by simp [hx]) (by simp) ?_ ?_
  · refine ⟨0, 0, by omega, ?_⟩
    simp [trim_mk, go_sem, Nat.reduceLT, Nat.reduceAdd, Nat.reduceEqDiff, Nat.reduceLeDiff, Nat.reduceSub, Nat.reduceMul, Int.reduceEq, eq_self, reduceIte, subHeap, renObj, pos, List.range_succ, inBoth]
  · rintro m st ⟨k, v, hk, rfl⟩
    by_cases hlt : k < a.length
    · have hg : a[k]? = some (nth a k) := nth_get? _ _ hlt
      have wk := i64_up (k := k) (by omega)
      have hs := inBoth_take (b := b) hlt
      have hil := inBoth_len (a.take k) b
      rw [List.length_take] at hil
      simp only [go_sem, Nat.reduceLT, Nat.reduceAdd, Nat.reduceEqDiff, Nat.reduceLeDiff, Nat.reduceSub, Nat.reduceMul, Int.reduceEq, eq_self, reduceIte, hlt, hg, cN]
      refine ops_call (.pureE (hasInt_meets b (nth a k) (by omega)) (by simp [go_sem, Nat.reduceLT, Nat.reduceAdd, Nat.reduceEqDiff, Nat.reduceLeDiff, Nat.reduceSub, Nat.reduceMul, Int.reduceEq, eq_self, reduceIte])) ?_
      cases h1 : b.any fun y => decide (y = nth a k)
      · rw [h1, if_neg (by simp)] at hs
        simp only [go_sem, Nat.reduceLT, Nat.reduceAdd, Nat.reduceEqDiff, Nat.reduceLeDiff, Nat.reduceSub, Nat.reduceMul, Int.reduceEq, eq_self, reduceIte, wk]
        refine ⟨by simp, m - 1, by omega, k + 1, v, by omega, ?_⟩
        simp [trim_mk, go_sem, Nat.reduceLT, Nat.reduceAdd, Nat.reduceEqDiff, Nat.reduceLeDiff, Nat.reduceSub, Nat.reduceMul, Int.reduceEq, eq_self, reduceIte, subHeap, renObj, pos, List.range_succ, hs]
      · rw [h1, if_pos rfl] at hs
        simp only [go_sem, Nat.reduceLT, Nat.reduceAdd, Nat.reduceEqDiff, Nat.reduceLeDiff, Nat.reduceSub, Nat.reduceMul, Int.reduceEq, eq_self, reduceIte, hlt, hg, cN]
        rw [app_arr rfl rfl (by simp) (by simp; omega)]
        simp only [go_sem, Nat.reduceLT, Nat.reduceAdd, Nat.reduceEqDiff, Nat.reduceLeDiff, Nat.reduceSub, Nat.reduceMul, Int.reduceEq, eq_self, reduceIte, wk]
        refine ⟨by simp, m - 1, by omega, k + 1, v + 1, by omega, ?_⟩
        simp [trim_mk, go_sem, Nat.reduceLT, Nat.reduceAdd, Nat.reduceEqDiff, Nat.reduceLeDiff, Nat.reduceSub, Nat.reduceMul, Int.reduceEq, eq_self, reduceIte, subHeap, renObj, pos, List.range_succ, hs, cN]
    · have : a.take k = a := List.take_of_length_le (by omega)
      rw [this]
      simp only [go_sem, Nat.reduceLT, Nat.reduceAdd, Nat.reduceEqDiff, Nat.reduceLeDiff, Nat.reduceSub, Nat.reduceMul, Int.reduceEq, eq_self, reduceIte, hlt]
      refine W_weak (weak_own 6 0 3 1 true false rfl (by omega)) ?_
      rw [put_mk]
      refine loop_inv [0, 1, 5, 6, 8] 2 (fun m st => ∃ k w : Nat, k + m = b.length ∧
        st = ⟨mkE .top [(0, .list (a.map cN)), (1, .list (b.map cN)), (5, .arr 0 v), (6, .arr 1 w), (8, .int .i64 k)], [.arr v true false 3 1 ((inBoth a b).map cN), .arr w true false 3 1 ((inBoth (b.take k) a).map cN)]⟩) b.length (by simp [hx]) (by simp) ?_ ?_
      · refine ⟨0, 0, by omega, ?_⟩
        simp [trim_mk, go_sem, Nat.reduceLT, Nat.reduceAdd, Nat.reduceEqDiff, Nat.reduceLeDiff, Nat.reduceSub, Nat.reduceMul, Int.reduceEq, eq_self, reduceIte, subHeap, renObj, pos, List.range_succ, inBoth]
      · rintro m st ⟨k, w, hk, rfl⟩
        by_cases hlt : k < b.length
        · have hg : b[k]? = some (nth b k) := nth_get? _ _ hlt
          have wk := i64_up (k := k) (by omega)
          have hs := inBoth_take (b := a) hlt
          have hil := inBoth_len (b.take k) a
          rw [List.length_take] at hil
          simp only [go_sem, Nat.reduceLT, Nat.reduceAdd, Nat.reduceEqDiff, Nat.reduceLeDiff, Nat.reduceSub, Nat.reduceMul, Int.reduceEq, eq_self, reduceIte, hlt, hg, cN]
          refine ops_call (.pureE (hasInt_meets a (nth b k) (by omega)) (by simp [go_sem, Nat.reduceLT, Nat.reduceAdd, Nat.reduceEqDiff, Nat.reduceLeDiff, Nat.reduceSub, Nat.reduceMul, Int.reduceEq, eq_self, reduceIte])) ?_
          cases h1 : a.any fun y => decide (y = nth b k)
          · rw [h1, if_neg (by simp)] at hs
            simp only [go_sem, Nat.reduceLT, Nat.reduceAdd, Nat.reduceEqDiff, Nat.reduceLeDiff, Nat.reduceSub, Nat.reduceMul, Int.reduceEq, eq_self, reduceIte, wk]
            refine ⟨by simp, m - 1, by omega, k + 1, w, by omega, ?_⟩
            simp [trim_mk, go_sem, Nat.reduceLT, Nat.reduceAdd, Nat.reduceEqDiff, Nat.reduceLeDiff, Nat.reduceSub, Nat.reduceMul, Int.reduceEq, eq_self, reduceIte, subHeap, renObj, pos, List.range_succ, hs]
          · rw [h1, if_pos rfl] at hs
            simp only [go_sem, Nat.reduceLT, Nat.reduceAdd, Nat.reduceEqDiff, Nat.reduceLeDiff, Nat.reduceSub, Nat.reduceMul, Int.reduceEq, eq_self, reduceIte, hlt, hg, cN]
            rw [app_arr rfl rfl (by simp) (by simp; omega)]
            simp only [go_sem, Nat.reduceLT, Nat.reduceAdd, Nat.reduceEqDiff, Nat.reduceLeDiff, Nat.reduceSub, Nat.reduceMul, Int.reduceEq, eq_self, reduceIte, wk]
            refine ⟨by simp, m - 1, by omega, k + 1, w + 1, by omega, ?_⟩
            simp [trim_mk, go_sem, Nat.reduceLT, Nat.reduceAdd, Nat.reduceEqDiff, Nat.reduceLeDiff, Nat.reduceSub, Nat.reduceMul, Int.reduceEq, eq_self, reduceIte, subHeap, renObj, pos, List.range_succ, hs, cN]
        · have : b.take k = b := List.take_of_length_le (by omega)
          rw [this, ← he]
          have hil := inBoth_len a b
          simp only [go_sem, Nat.reduceLT, Nat.reduceAdd, Nat.reduceEqDiff, Nat.reduceLeDiff, Nat.reduceSub, Nat.reduceMul, Int.reduceEq, eq_self, reduceIte, hlt]
          refine loop_inv [5, 6, 9] 2 (fun m st => ∃ k : Nat, k + m = (inBoth a b).length ∧
            st = ⟨mkE .top [(5, .arr 0 v), (6, .arr 1 w), (9, .int .i64 k)], [.arr v true false 3 1 ((inBoth a b).map cN), .arr w true false 3 1 ((inBoth a b).map cN)]⟩) (inBoth a b).length (by simp [hx]) (by simp) ?_ ?_
          · refine ⟨0, by omega, ?_⟩
            simp [trim_mk, go_sem, Nat.reduceLT, Nat.reduceAdd, Nat.reduceEqDiff, Nat.reduceLeDiff, Nat.reduceSub, Nat.reduceMul, Int.reduceEq, eq_self, reduceIte, subHeap, renObj, pos, List.range_succ]
          · rintro m st ⟨k, hk, rfl⟩
            by_cases hlt : k < (inBoth a b).length
            · have hg : (inBoth a b)[k]? = some (nth (inBoth a b) k) := nth_get? _ _ hlt
              have wk := i64_up (k := k) (by omega)
              simp only [go_sem, Nat.reduceLT, Nat.reduceAdd, Nat.reduceEqDiff, Nat.reduceLeDiff, Nat.reduceSub, Nat.reduceMul, Int.reduceEq, eq_self, reduceIte, hlt, hg, cN, wk]
              repeat refine ⟨rfl, ?_⟩
              refine ⟨by simp, m - 1, by omega, k + 1, by omega, ?_⟩
              simp [trim_mk, go_sem, Nat.reduceLT, Nat.reduceAdd, Nat.reduceEqDiff, Nat.reduceLeDiff, Nat.reduceSub, Nat.reduceMul, Int.reduceEq, eq_self, reduceIte, subHeap, renObj, pos, List.range_succ]
            · simp only [go_sem, Nat.reduceLT, Nat.reduceAdd, Nat.reduceEqDiff, Nat.reduceLeDiff, Nat.reduceSub, Nat.reduceMul, Int.reduceEq, eq_self, reduceIte, hlt]
              refine ret_pure hx ?_
              simp [go_sem, Nat.reduceLT, Nat.reduceAdd, Nat.reduceEqDiff, Nat.reduceLeDiff, Nat.reduceSub, Nat.reduceMul, Int.reduceEq, eq_self, reduceIte, L19, R19]
/-- an array's rows, of which less is said -/
theorem weak_rows {x : Cx} {nt : Nat} {st : St} (id n : Nat) {v T sz : Nat} {sto : Bool} {rows : List (List PV)} (h : st.heap[id]? = some (.arr v sto false T sz rows)) : Weak x nt st ⟨st.env, st.heap.set id (.arr v sto false T sz (rows.map (·.map (nlN n))))⟩ := by
  intro a w ⟨⟨C, hr, he⟩, hdf, hs⟩
  obtain ⟨k1, k2⟩ := hr.change (C' := C) (ob' := .arr v sto false T sz (rows.map (·.map (nlN n)))) h (step_refl w) rfl (fun _ => rfl) (fun _ _ => ⟨rfl, rfl⟩) (.inl ⟨rfl, rfl⟩)
    (fun b o _ hf hb => by have := hf hb; simpa using this) (fun b o _ _ => rfl) (fun b h => .inl h)
    (fun hm hmp => by
      obtain ⟨o1, o2, o3, xs, o4, o5⟩ := hr.obj id _ h
      refine ⟨o1, o2, fun row hrow => ?_, xs, by simpa using o4, fun k row j p u a b c => ?_⟩
      · obtain ⟨r, hr1, rfl⟩ := List.mem_map.1 hrow
        simpa using o3 r hr1
      · obtain ⟨r, hr1, rfl⟩ := map_get a
        obtain ⟨q, hq1, rfl⟩ := map_get b
        obtain ⟨e1, e2⟩ := o5 k r j q u hr1 hq1 c
        refine ⟨e1, ?_⟩
        simp only [Bool.false_eq_true, if_false] at e2 ⊢
        exact nlN_P n (hmp _ _ e2))
  exact ⟨⟨C, k1, fun u => k2 _ _ (he u)⟩, hdf, hs⟩
end Go.Proofs.Ytocglfkflpkafaa
/- SkeenSame, as a contract. -/
namespace Go.Proofs.Ytocglfkflpkafaa
set_option linter.unusedSimpArgs false
set_option linter.unusedVariables false
open Go.RowKit
def rows3 (S : Nat → KS) : List (List PV) := [rK (S 0), rK (S 1), rK (S 2)]
theorem rows3_len (S : Nat → KS) : (rows3 S).length = 3 := rfl
theorem rows3_get (S : Nat → KS) {i : Nat} (h : i < 3) : (rows3 S)[i]? = some [.int .i64 (S i).c, .list ((S i).ws.map cW), .list ((S i).ds.map cN)] := by
  have : i = 0 ∨ i = 1 ∨ i = 2 := by omega
  rcases this with rfl | rfl | rfl <;> rfl
theorem rows3_set (S : Nat → KS) {i : Nat} (h : i < 3) (s : KS) : (rows3 S).set i [.int .i64 s.c, .list (s.ws.map cW), .list (s.ds.map cN)] = rows3 (upd S i s) := by
  have : i = 0 ∨ i = 1 ∨ i = 2 := by omega
  rcases this with rfl | rfl | rfl <;> rfl
def colF (cols : List Int) (n : Int) : Int := nth cols (n.toNat - 1)
def tab0 : List Int := List.replicate 24 0
theorem tab0_at (n : Int) (i : Nat) (h1 : 1 ≤ n) (h2 : n ≤ 7) (h3 : i < 3) : tAt tab0 n i = 0 := by
  unfold tAt tab0
  rw [nth_eq _ _ (by rw [List.length_replicate]; omega)]
  exact List.getElem_replicate ..
def S0 : Nat → KS := fun _ => ⟨1, 1, 0, [], []⟩
theorem sys0 (N : Nat) (hN : N ≤ 7) (col : Int → Int) : Sys N col S0 tab0 tab0 := by
  refine ⟨by simp [tab0], by simp [tab0], fun i hi => ?_, fun i hi => by rfl, fun i hi => ?_, fun n i h1 h2 h3 => ?_, fun n i h1 h2 h3 => ?_, fun n i h1 h2 h3 _ => tab0_at n i h1 h2 h3⟩
  · refine ⟨fun w hw => ?_, fun a b _ hb => ?_, fun d hd => ?_, fun d hd => ?_, List.Pairwise.nil, List.Pairwise.nil, fun d hd => ?_, fun n n1 n2 n3 n4 => ?_⟩
    · simp [S0] at hw
    · simp [S0] at hb
    · simp [S0] at hd
    · simp [S0] at hd
    · simp [S0] at hd
    · exact (n3 (tab0_at n i n1 (by omega) hi)).elim
  · have : cntT tab0 = 0 := by decide +kernel
    rw [this]; simp [S0]
  · have : cntT tab0 = 0 := by decide +kernel
    rw [this, tab0_at n i h1 h2 h3]; simp
  · rw [tab0_at n i h1 h2 h3]; simp
theorem propE_of {c : Int} {ws : List Wt} {ds : List Int} {n : Int} (h : RightS c ws ds) (he : propErr c ws ds n = 0) : propE c ws ds n = 0 := by rw [propE, if_neg (by simp [of_right h]), he]
theorem commE_of {c : Int} {ws : List Wt} {ds : List Int} {n t : Int} (h : RightS c ws ds) (he : commErr ws ds n t = 0) : commE c ws ds n t = 0 := by rw [commE, if_neg (by simp [of_right h]), he]
theorem propR_K {s : KS} {n : Int} (h : RightS s.c s.ws s.ds) (he : propErr s.c s.ws s.ds n = 0) : propR s.c s.ws s.ds n = ((propK s n).c, (propK s n).ws, (propK s n).ds) ∧ (propK s n).c = s.c + 1 := by
  rw [propR, if_pos (propE_of h he), propK, if_pos he]
  exact ⟨rfl, rfl⟩
theorem commR_K {s : KS} {n t : Int} (h : RightS s.c s.ws s.ds) (he : commErr s.ws s.ds n t = 0) : commR s.c s.ws s.ds n t = ((commK s n t).c, (commK s n t).ws, (commK s n t).ds) := by
  rw [commR, if_pos (commE_of h he), commK, if_neg (by simp [(commErr_ok he).1])]
set_option maxHeartbeats 4000000 in
theorem skeenSame_meets (cols steps : List Int) (hc : cols.length ≤ 140737488355328) (hs : steps.length ≤ 140737488355328) (hst : ∀ n ∈ steps, -9223372036854775808 ≤ n ∧ n ≤ 9223372036854775807) :
    Meets Try.prog 4 [.list (cols.map cN), .list (steps.map cN)] [] (.bool true) [] := by
  refine Meets.of_walk Try.func4 Try.ntmps4 low4 res4 (by simp) fun x hx => ?_
  simp only [go_sem, Nat.reduceLT, Nat.reduceAdd, Nat.reduceEqDiff, Nat.reduceLeDiff, Nat.reduceSub, Nat.reduceMul, Int.reduceEq, eq_self, reduceIte, L4, R4]
  refine ops_call (.pure skeenBegun_meets) ?_
  by_cases h7 : (7 : Int) < (cols.length : Int)
  · simp only [go_sem, Nat.reduceLT, Nat.reduceAdd, Nat.reduceEqDiff, Nat.reduceLeDiff, Nat.reduceSub, Nat.reduceMul, Int.reduceEq, eq_self, reduceIte, h7]
    refine ret_pure hx ?_
    simp [go_sem, Nat.reduceLT, Nat.reduceAdd, Nat.reduceEqDiff, Nat.reduceLeDiff, Nat.reduceSub, Nat.reduceMul, Int.reduceEq, eq_self, reduceIte, L4, R4]
  · have hN : cols.length ≤ 7 := by omega
    simp only [go_sem, Nat.reduceLT, Nat.reduceAdd, Nat.reduceEqDiff, Nat.reduceLeDiff, Nat.reduceSub, Nat.reduceMul, Int.reduceEq, eq_self, reduceIte, h7, Int.ofNat_zero, Int.natCast_one, Int.cast_ofNat_Int, Int.reduceLT, Int.reduceLE, Int.reduceToNat, Nat.reduceLT, Int.toNat_zero, Int.natCast_zero, Int.le_refl, Int.lt_irrefl, Int.reduceAdd, frz, false_or, or_true, Int.reduceMul]
    refine W_weak (weak_rows 0 1 rfl) ?_
    refine loop_inv [0, 1, 5, 6, 7, 8] 3 (fun m st => ∃ (k : Nat) (S : Nat → KS) (tab fin : List Int), k + m = steps.length + 42 ∧ Sys cols.length (colF cols) S tab fin ∧
      st = ⟨mkE .top [(0, .list (cols.map cN)), (1, .list (steps.map cN)), (5, .arr 0 0), (6, .ptr 1 0), (7, .ptr 2 0), (8, .int .i64 k)], [.arr 0 true false 25 3 (rows3 S), .box (cT tab), .box (cT fin)]⟩) (steps.length + 42) (by simp [hx]) (by simp) ?_ ?_
    · refine ⟨0, S0, tab0, tab0, by omega, sys0 _ hN _, ?_⟩
      simp [trim_mk, go_sem, Nat.reduceLT, Nat.reduceAdd, Nat.reduceEqDiff, Nat.reduceLeDiff, Nat.reduceSub, Nat.reduceMul, Int.reduceEq, eq_self, reduceIte, subHeap, renObj, pos, List.range_succ, rows3, rK, cSv, S0, nlN, cT, tab0]
    · rintro m st ⟨k, S, tab, fin, hk, hsys, rfl⟩
      have w42 : IntKind.i64.wrap ((steps.length : Int) + 42) = ((steps.length + 42 : Nat) : Int) := by rw [IntKind.wrap_i64]; omega
      have wk := i64_up (k := k) (by omega)
      by_cases hlt : k < steps.length + 42
      · by_cases hlt2 : k < steps.length
        · have hg : steps[k]? = some (nth steps k) := nth_get? _ _ hlt2
          have h64 := hst _ (nthM hlt2)
          generalize nth steps k = A at hg h64
          by_cases hneg : (A : Int) < 0
          · simp only [go_sem, Nat.reduceLT, Nat.reduceAdd, Nat.reduceEqDiff, Nat.reduceLeDiff, Nat.reduceSub, Nat.reduceMul, Int.reduceEq, eq_self, reduceIte, w42, hlt, hlt2, hg, cN, hneg, wk]
            refine ⟨by simp, m - 1, by omega, k + 1, S, tab, fin, by omega, hsys, ?_⟩
            simp [trim_mk, go_sem, Nat.reduceLT, Nat.reduceAdd, Nat.reduceEqDiff, Nat.reduceLeDiff, Nat.reduceSub, Nat.reduceMul, Int.reduceEq, eq_self, reduceIte, subHeap, renObj, pos, List.range_succ, wk, cT_ren]
          · obtain ⟨a, haa⟩ : ∃ a : Nat, (A : Int) = a := ⟨(A : Int).toNat, by omega⟩
            have hneg' : ¬ ((a : Int) < 0) := by omega
            rw [haa] at h64
            by_cases hN0 : (cols.length : Int) = 0
            · simp only [go_sem, Nat.reduceLT, Nat.reduceAdd, Nat.reduceEqDiff, Nat.reduceLeDiff, Nat.reduceSub, Nat.reduceMul, Int.reduceEq, eq_self, reduceIte, w42, hlt, hlt2, hg, cN, haa, hneg', hN0, wk]
              refine ⟨by simp, m - 1, by omega, k + 1, S, tab, fin, by omega, hsys, ?_⟩
              simp [trim_mk, go_sem, Nat.reduceLT, Nat.reduceAdd, Nat.reduceEqDiff, Nat.reduceLeDiff, Nat.reduceSub, Nat.reduceMul, Int.reduceEq, eq_self, reduceIte, subHeap, renObj, pos, List.range_succ, wk, cT_ren]
            · have hq1 : IntKind.i64.wrap ((a : Int).tdiv 3) = ((a / 3 : Nat) : Int) := by rw [show (3 : Int) = ((3 : Nat) : Int) from rfl, ← Int.ofNat_tdiv, IntKind.wrap_i64]; omega
              have hq2 : ((a / 3 : Nat) : Int).tmod (cols.length : Int) = ((a / 3 % cols.length : Nat) : Int) := (Int.ofNat_tmod _ _).symm
              have hq3 : (a : Int).tmod 3 = ((a % 3 : Nat) : Int) := by rw [show (3 : Int) = ((3 : Nat) : Int) from rfl, ← Int.ofNat_tmod]
              have hn0 : a / 3 % cols.length < cols.length := Nat.mod_lt _ (by omega)
              have hi3 : a % 3 < 3 := Nat.mod_lt _ (by omega)
              generalize a / 3 % cols.length = n0 at hq2 hn0
              generalize a % 3 = i at hq3 hi3
              have wn := i64_up (k := n0) (by omega)
              have wn2 : IntKind.i64.wrap (((n0 + 1 : Nat) : Int) - 1) = (n0 : Int) := by rw [IntKind.wrap_i64]; omega
              have hgc : cols[n0]? = some (nth cols n0) := nth_get? _ _ hn0
              have h3z : ¬ ((3 : Int) = 0) := by decide
              have hn8 : ((n0 + 1 : Nat) : Int) < 8 := by omega
              have hi3' : (i : Int) < 3 := by omega
              have hn8' : n0 + 1 < 8 := by omega
              have htl := hsys.tl
              have hfl := hsys.fl
              have hle1 : (n0 + 1) * 3 + i + 1 ≤ tab.length := by omega
              have hle2 : (n0 + 1) * 3 + i + 1 ≤ fin.length := by omega
              have hgt := cT_get (tab := tab) (o := (n0 + 1) * 3 + i) (by omega)
              have hgf := cT_get (tab := fin) (o := (n0 + 1) * 3 + i) (by omega)
              have hcol : colF cols ((n0 + 1 : Nat) : Int) = nth cols n0 := by rw [colF, Int.toNat_natCast, Nat.add_sub_cancel]
              by_cases h1 : nth cols n0 < 1
              · simp only [go_sem, Nat.reduceLT, Nat.reduceAdd, Nat.reduceEqDiff, Nat.reduceLeDiff, Nat.reduceSub, Nat.reduceMul, Int.reduceEq, eq_self, reduceIte, w42, hlt, hlt2, hg, cN, haa, hneg', hN0, hq1, hq2, hq3, h3z, ne_eq, wn, wn2, hn0, hgc, cN, h1, wk]
                refine ⟨by simp, m - 1, by omega, k + 1, S, tab, fin, by omega, hsys, ?_⟩
                simp [trim_mk, go_sem, Nat.reduceLT, Nat.reduceAdd, Nat.reduceEqDiff, Nat.reduceLeDiff, Nat.reduceSub, Nat.reduceMul, Int.reduceEq, eq_self, reduceIte, subHeap, renObj, pos, List.range_succ, wk, cT_ren]
              · by_cases h2 : 7 < nth cols n0
                · simp only [go_sem, Nat.reduceLT, Nat.reduceAdd, Nat.reduceEqDiff, Nat.reduceLeDiff, Nat.reduceSub, Nat.reduceMul, Int.reduceEq, eq_self, reduceIte, w42, hlt, hlt2, hg, cN, haa, hneg', hN0, hq1, hq2, hq3, h3z, ne_eq, wn, wn2, hn0, hgc, cN, h1, h2, wk]
                  refine ⟨by simp, m - 1, by omega, k + 1, S, tab, fin, by omega, hsys, ?_⟩
                  simp [trim_mk, go_sem, Nat.reduceLT, Nat.reduceAdd, Nat.reduceEqDiff, Nat.reduceLeDiff, Nat.reduceSub, Nat.reduceMul, Int.reduceEq, eq_self, reduceIte, subHeap, renObj, pos, List.range_succ, wk, cT_ren]
                · simp only [go_sem, Nat.reduceLT, Nat.reduceAdd, Nat.reduceEqDiff, Nat.reduceLeDiff, Nat.reduceSub, Nat.reduceMul, Int.reduceEq, eq_self, reduceIte, w42, hlt, hlt2, hg, cN, haa, hneg', hN0, hq1, hq2, hq3, h3z, ne_eq, wn, wn2, hn0, hgc, cN, h1, h2]
                  refine ops_call (.pureE (isOf_meets (nth cols n0) i hi3 (by omega) (by omega)) (by simp [go_sem, Nat.reduceLT, Nat.reduceAdd, Nat.reduceEqDiff, Nat.reduceLeDiff, Nat.reduceSub, Nat.reduceMul, Int.reduceEq, eq_self, reduceIte])) ?_
                  cases hb : bitB (nth cols n0) i
                  · simp only [go_sem, Nat.reduceLT, Nat.reduceAdd, Nat.reduceEqDiff, Nat.reduceLeDiff, Nat.reduceSub, Nat.reduceMul, Int.reduceEq, eq_self, reduceIte, wk]
                    refine ⟨by simp, m - 1, by omega, k + 1, S, tab, fin, by omega, hsys, ?_⟩
                    simp [trim_mk, go_sem, Nat.reduceLT, Nat.reduceAdd, Nat.reduceEqDiff, Nat.reduceLeDiff, Nat.reduceSub, Nat.reduceMul, Int.reduceEq, eq_self, reduceIte, subHeap, renObj, pos, List.range_succ, wk, cT_ren]
                  · have hcb : bitB (colF cols ((n0 + 1 : Nat) : Int)) i = true := by rw [hcol]; exact hb
                    have hnr : 1 ≤ ((n0 + 1 : Nat) : Int) ∧ ((n0 + 1 : Nat) : Int) ≤ (cols.length : Int) := by omega
                    by_cases h4 : 0 < nth fin ((n0 + 1) * 3 + i)
                    · simp only [go_sem, Nat.reduceLT, Nat.reduceAdd, Nat.reduceEqDiff, Nat.reduceLeDiff, Nat.reduceSub, Nat.reduceMul, Int.reduceEq, eq_self, reduceIte, hn8, hn8', hi3, hi3', Nat.mul_one, cT_len, hle2, hgf, h4, wk]
                      refine ⟨by simp, m - 1, by omega, k + 1, S, tab, fin, by omega, hsys, ?_⟩
                      simp [trim_mk, go_sem, Nat.reduceLT, Nat.reduceAdd, Nat.reduceEqDiff, Nat.reduceLeDiff, Nat.reduceSub, Nat.reduceMul, Int.reduceEq, eq_self, reduceIte, subHeap, renObj, pos, List.range_succ, wk, cT_ren]
                    · have hf0 : tAt fin ((n0 + 1 : Nat) : Int) i = 0 := by
                        have := hsys.fb ((n0 + 1 : Nat) : Int) i (by omega) (by omega) hi3
                        rw [tAt_nat] at this ⊢
                        omega
                      have hr3 : i < (rows3 S).length := hi3
                      have hgr := rows3_get S hi3
                      obtain ⟨hrt, -⟩ := hsys.right hN hi3
                      have hrw := hrt.wl
                      have hrd := hrt.dl
                      have hrc := hrt.c0
                      by_cases h5 : nth tab ((n0 + 1) * 3 + i) = 0
                      · obtain ⟨he, hsys2⟩ := hsys.prop hN hnr hi3 hcb (by rw [tAt_nat]; exact h5)
                        obtain ⟨er, ec⟩ := propR_K hrt he
                        rw [← ec, tSet_nat] at hsys2
                        have hpos : ¬ ((propK (S i) ((n0 + 1 : Nat) : Int)).c ≤ 0) := by rw [ec]; omega
                        have hset := cT_set (tab := tab) (o := (n0 + 1) * 3 + i) (by omega) (propK (S i) ((n0 + 1 : Nat) : Int)).c
                        have hrs := rows3_set S hi3 (propK (S i) ((n0 + 1 : Nat) : Int))
                        simp only [go_sem, Nat.reduceLT, Nat.reduceAdd, Nat.reduceEqDiff, Nat.reduceLeDiff, Nat.reduceSub, Nat.reduceMul, Int.reduceEq, eq_self, reduceIte, hn8, hn8', hi3, hi3', Nat.mul_one, cT_len, hle2, hgf, h4, hle1, hgt, h5, hr3, hgr]
                        refine ops_call (.pureE (skProposeX_meets (S i).c (S i).ws (S i).ds ((n0 + 1 : Nat) : Int) (by omega) (by omega)) (by simp [go_sem, Nat.reduceLT, Nat.reduceAdd, Nat.reduceEqDiff, Nat.reduceLeDiff, Nat.reduceSub, Nat.reduceMul, Int.reduceEq, eq_self, reduceIte, cSv])) ?_
                        rw [propE_of hrt he, er]
                        generalize propK (S i) ((n0 + 1 : Nat) : Int) = s' at *
                        simp only [go_sem, Nat.reduceLT, Nat.reduceAdd, Nat.reduceEqDiff, Nat.reduceLeDiff, Nat.reduceSub, Nat.reduceMul, Int.reduceEq, eq_self, reduceIte, cSv3, cSv, Int.ofNat_zero, Int.natCast_one, Int.cast_ofNat_Int, Int.reduceLT, Int.reduceLE, Int.reduceToNat, Nat.reduceLT, Int.toNat_zero, Int.natCast_zero, Int.le_refl, Int.lt_irrefl, Int.reduceAdd, frz, false_or, or_true, hpos, hr3, hgr, hrs, hn8, hn8', hi3, hi3', Nat.mul_one, cT_len, hle1, List.append_assoc, hset, wk]
                        refine ⟨by simp, m - 1, by omega, k + 1, upd S i s', tab.set ((n0 + 1) * 3 + i) s'.c, fin, by omega, hsys2, ?_⟩
                        simp [trim_mk, go_sem, Nat.reduceLT, Nat.reduceAdd, Nat.reduceEqDiff, Nat.reduceLeDiff, Nat.reduceSub, Nat.reduceMul, Int.reduceEq, eq_self, reduceIte, subHeap, renObj, pos, List.range_succ, wk, cT_ren]
                      · simp only [go_sem, Nat.reduceLT, Nat.reduceAdd, Nat.reduceEqDiff, Nat.reduceLeDiff, Nat.reduceSub, Nat.reduceMul, Int.reduceEq, eq_self, reduceIte, hn8, hn8', hi3, hi3', Nat.mul_one, cT_len, hle2, hgf, h4, hle1, hgt, h5]
                        have hmm := most_meets tab (n0 + 1) (nth cols n0) htl (by omega) (by omega) (by omega)
                        cases hmo : mostS tab ((n0 + 1 : Nat) : Int) (nth cols n0) 3 with
                        | none =>
                          rw [hmo] at hmm
                          refine ops_call (.heapE [1] (r' := .tup [.int .i64 0, .bool false]) (H' := [.arr 0 true false 25 3 (rows3 S), .box (cT tab), .box (cT fin)]) hmm (by simp) (by simp) (by simp [go_sem, Nat.reduceLT, Nat.reduceAdd, Nat.reduceEqDiff, Nat.reduceLeDiff, Nat.reduceSub, Nat.reduceMul, Int.reduceEq, eq_self, reduceIte, pos]) (by simp [subHeap, renObj, pos, cT_ren]) rfl (by simp [merge, mergeObj, callId, pos, backF, backId, renObj, cT_ren, List.range_succ])) ?_
                          simp only [go_sem, Nat.reduceLT, Nat.reduceAdd, Nat.reduceEqDiff, Nat.reduceLeDiff, Nat.reduceSub, Nat.reduceMul, Int.reduceEq, eq_self, reduceIte, wk]
                          refine ⟨by simp, m - 1, by omega, k + 1, S, tab, fin, by omega, hsys, ?_⟩
                          simp [trim_mk, go_sem, Nat.reduceLT, Nat.reduceAdd, Nat.reduceEqDiff, Nat.reduceLeDiff, Nat.reduceSub, Nat.reduceMul, Int.reduceEq, eq_self, reduceIte, subHeap, renObj, pos, List.range_succ, wk, cT_ren]
                        | some tm =>
                          rw [hmo] at hmm
                          refine ops_call (.heapE [1] (r' := .tup [.int .i64 tm, .bool true]) (H' := [.arr 0 true false 25 3 (rows3 S), .box (cT tab), .box (cT fin)]) hmm (by simp) (by simp) (by simp [go_sem, Nat.reduceLT, Nat.reduceAdd, Nat.reduceEqDiff, Nat.reduceLeDiff, Nat.reduceSub, Nat.reduceMul, Int.reduceEq, eq_self, reduceIte, pos]) (by simp [subHeap, renObj, pos, cT_ren]) rfl (by simp [merge, mergeObj, callId, pos, backF, backId, renObj, cT_ren, List.range_succ])) ?_
                          obtain ⟨he, hsys2⟩ := hsys.comm hN hnr hi3 hcb (by rw [tAt_nat]; exact h5) hf0 (by rw [hcol]; exact hmo)
                          have er := commR_K hrt he
                          obtain ⟨hrt2, -⟩ := hsys2.right hN hi3
                          rw [upd_same] at hrt2
                          rw [tSet_nat] at hsys2
                          have hset := cT_set (tab := fin) (o := (n0 + 1) * 3 + i) (by omega) tm
                          have hrs := rows3_set S hi3 (commK (S i) ((n0 + 1 : Nat) : Int) tm)
                          simp only [go_sem, Nat.reduceLT, Nat.reduceAdd, Nat.reduceEqDiff, Nat.reduceLeDiff, Nat.reduceSub, Nat.reduceMul, Int.reduceEq, eq_self, reduceIte, hr3, hgr]
                          refine ops_call (.pureE (skCommitX_meets (S i).c (S i).ws (S i).ds ((n0 + 1 : Nat) : Int) tm (by omega) (by omega)) (by simp [go_sem, Nat.reduceLT, Nat.reduceAdd, Nat.reduceEqDiff, Nat.reduceLeDiff, Nat.reduceSub, Nat.reduceMul, Int.reduceEq, eq_self, reduceIte, cSv])) ?_
                          rw [commE_of hrt he, er]
                          have hw2 := hrt2.wl
                          have hd2 := hrt2.dl
                          have hok2 := of_right hrt2
                          generalize commK (S i) ((n0 + 1 : Nat) : Int) tm = s' at *
                          simp only [go_sem, Nat.reduceLT, Nat.reduceAdd, Nat.reduceEqDiff, Nat.reduceLeDiff, Nat.reduceSub, Nat.reduceMul, Int.reduceEq, eq_self, reduceIte, cSv3, cSv, Int.ofNat_zero, Int.natCast_one, Int.cast_ofNat_Int, Int.reduceLT, Int.reduceLE, Int.reduceToNat, Nat.reduceLT, Int.toNat_zero, Int.natCast_zero, Int.le_refl, Int.lt_irrefl, Int.reduceAdd, frz, false_or, or_true]
                          refine ops_call (.pureE (skCheck_meets s'.c s'.ws s'.ds (by omega) (by omega)) (by simp [go_sem, Nat.reduceLT, Nat.reduceAdd, Nat.reduceEqDiff, Nat.reduceLeDiff, Nat.reduceSub, Nat.reduceMul, Int.reduceEq, eq_self, reduceIte, cSv])) ?_
                          rw [hok2]
                          simp only [go_sem, Nat.reduceLT, Nat.reduceAdd, Nat.reduceEqDiff, Nat.reduceLeDiff, Nat.reduceSub, Nat.reduceMul, Int.reduceEq, eq_self, reduceIte, cSv, Int.ofNat_zero, Int.natCast_one, Int.cast_ofNat_Int, Int.reduceLT, Int.reduceLE, Int.reduceToNat, Nat.reduceLT, Int.toNat_zero, Int.natCast_zero, Int.le_refl, Int.lt_irrefl, Int.reduceAdd, frz, false_or, or_true, hr3, hgr, hrs, hn8, hn8', hi3, hi3', Nat.mul_one, cT_len, hle2, List.append_assoc, hset, wk]
                          refine ⟨by simp, m - 1, by omega, k + 1, upd S i s', tab, fin.set ((n0 + 1) * 3 + i) tm, by omega, hsys2, ?_⟩
                          simp [trim_mk, go_sem, Nat.reduceLT, Nat.reduceAdd, Nat.reduceEqDiff, Nat.reduceLeDiff, Nat.reduceSub, Nat.reduceMul, Int.reduceEq, eq_self, reduceIte, subHeap, renObj, pos, List.range_succ, wk, cT_ren]
        · have hB : IntKind.i64.wrap ((k : Int) - (steps.length : Int)) = ((k - steps.length : Nat) : Int) := by rw [IntKind.wrap_i64]; omega
          have h64 : -9223372036854775808 ≤ ((k - steps.length : Nat) : Int) ∧ ((k - steps.length : Nat) : Int) ≤ 9223372036854775807 := by omega
          generalize ((k - steps.length : Nat) : Int) = A at hB h64
          by_cases hneg : (A : Int) < 0
          · simp only [go_sem, Nat.reduceLT, Nat.reduceAdd, Nat.reduceEqDiff, Nat.reduceLeDiff, Nat.reduceSub, Nat.reduceMul, Int.reduceEq, eq_self, reduceIte, w42, hlt, hlt2, hB, hneg, wk]
            refine ⟨by simp, m - 1, by omega, k + 1, S, tab, fin, by omega, hsys, ?_⟩
            simp [trim_mk, go_sem, Nat.reduceLT, Nat.reduceAdd, Nat.reduceEqDiff, Nat.reduceLeDiff, Nat.reduceSub, Nat.reduceMul, Int.reduceEq, eq_self, reduceIte, subHeap, renObj, pos, List.range_succ, wk, cT_ren]
          · obtain ⟨a, haa⟩ : ∃ a : Nat, (A : Int) = a := ⟨(A : Int).toNat, by omega⟩
            have hneg' : ¬ ((a : Int) < 0) := by omega
            rw [haa] at h64
            by_cases hN0 : (cols.length : Int) = 0
            · simp only [go_sem, Nat.reduceLT, Nat.reduceAdd, Nat.reduceEqDiff, Nat.reduceLeDiff, Nat.reduceSub, Nat.reduceMul, Int.reduceEq, eq_self, reduceIte, w42, hlt, hlt2, hB, haa, hneg', hN0, wk]
              refine ⟨by simp, m - 1, by omega, k + 1, S, tab, fin, by omega, hsys, ?_⟩
              simp [trim_mk, go_sem, Nat.reduceLT, Nat.reduceAdd, Nat.reduceEqDiff, Nat.reduceLeDiff, Nat.reduceSub, Nat.reduceMul, Int.reduceEq, eq_self, reduceIte, subHeap, renObj, pos, List.range_succ, wk, cT_ren]
            · have hq1 : IntKind.i64.wrap ((a : Int).tdiv 3) = ((a / 3 : Nat) : Int) := by rw [show (3 : Int) = ((3 : Nat) : Int) from rfl, ← Int.ofNat_tdiv, IntKind.wrap_i64]; omega
              have hq2 : ((a / 3 : Nat) : Int).tmod (cols.length : Int) = ((a / 3 % cols.length : Nat) : Int) := (Int.ofNat_tmod _ _).symm
              have hq3 : (a : Int).tmod 3 = ((a % 3 : Nat) : Int) := by rw [show (3 : Int) = ((3 : Nat) : Int) from rfl, ← Int.ofNat_tmod]
              have hn0 : a / 3 % cols.length < cols.length := Nat.mod_lt _ (by omega)
              have hi3 : a % 3 < 3 := Nat.mod_lt _ (by omega)
              generalize a / 3 % cols.length = n0 at hq2 hn0
              generalize a % 3 = i at hq3 hi3
              have wn := i64_up (k := n0) (by omega)
              have wn2 : IntKind.i64.wrap (((n0 + 1 : Nat) : Int) - 1) = (n0 : Int) := by rw [IntKind.wrap_i64]; omega
              have hgc : cols[n0]? = some (nth cols n0) := nth_get? _ _ hn0
              have h3z : ¬ ((3 : Int) = 0) := by decide
              have hn8 : ((n0 + 1 : Nat) : Int) < 8 := by omega
              have hi3' : (i : Int) < 3 := by omega
              have hn8' : n0 + 1 < 8 := by omega
              have htl := hsys.tl
              have hfl := hsys.fl
              have hle1 : (n0 + 1) * 3 + i + 1 ≤ tab.length := by omega
              have hle2 : (n0 + 1) * 3 + i + 1 ≤ fin.length := by omega
              have hgt := cT_get (tab := tab) (o := (n0 + 1) * 3 + i) (by omega)
              have hgf := cT_get (tab := fin) (o := (n0 + 1) * 3 + i) (by omega)
              have hcol : colF cols ((n0 + 1 : Nat) : Int) = nth cols n0 := by rw [colF, Int.toNat_natCast, Nat.add_sub_cancel]
              by_cases h1 : nth cols n0 < 1
              · simp only [go_sem, Nat.reduceLT, Nat.reduceAdd, Nat.reduceEqDiff, Nat.reduceLeDiff, Nat.reduceSub, Nat.reduceMul, Int.reduceEq, eq_self, reduceIte, w42, hlt, hlt2, hB, haa, hneg', hN0, hq1, hq2, hq3, h3z, ne_eq, wn, wn2, hn0, hgc, cN, h1, wk]
                refine ⟨by simp, m - 1, by omega, k + 1, S, tab, fin, by omega, hsys, ?_⟩
                simp [trim_mk, go_sem, Nat.reduceLT, Nat.reduceAdd, Nat.reduceEqDiff, Nat.reduceLeDiff, Nat.reduceSub, Nat.reduceMul, Int.reduceEq, eq_self, reduceIte, subHeap, renObj, pos, List.range_succ, wk, cT_ren]
              · by_cases h2 : 7 < nth cols n0
                · simp only [go_sem, Nat.reduceLT, Nat.reduceAdd, Nat.reduceEqDiff, Nat.reduceLeDiff, Nat.reduceSub, Nat.reduceMul, Int.reduceEq, eq_self, reduceIte, w42, hlt, hlt2, hB, haa, hneg', hN0, hq1, hq2, hq3, h3z, ne_eq, wn, wn2, hn0, hgc, cN, h1, h2, wk]
                  refine ⟨by simp, m - 1, by omega, k + 1, S, tab, fin, by omega, hsys, ?_⟩
                  simp [trim_mk, go_sem, Nat.reduceLT, Nat.reduceAdd, Nat.reduceEqDiff, Nat.reduceLeDiff, Nat.reduceSub, Nat.reduceMul, Int.reduceEq, eq_self, reduceIte, subHeap, renObj, pos, List.range_succ, wk, cT_ren]
                · simp only [go_sem, Nat.reduceLT, Nat.reduceAdd, Nat.reduceEqDiff, Nat.reduceLeDiff, Nat.reduceSub, Nat.reduceMul, Int.reduceEq, eq_self, reduceIte, w42, hlt, hlt2, hB, haa, hneg', hN0, hq1, hq2, hq3, h3z, ne_eq, wn, wn2, hn0, hgc, cN, h1, h2]
                  refine ops_call (.pureE (isOf_meets (nth cols n0) i hi3 (by omega) (by omega)) (by simp [go_sem, Nat.reduceLT, Nat.reduceAdd, Nat.reduceEqDiff, Nat.reduceLeDiff, Nat.reduceSub, Nat.reduceMul, Int.reduceEq, eq_self, reduceIte])) ?_
                  cases hb : bitB (nth cols n0) i
                  · simp only [go_sem, Nat.reduceLT, Nat.reduceAdd, Nat.reduceEqDiff, Nat.reduceLeDiff, Nat.reduceSub, Nat.reduceMul, Int.reduceEq, eq_self, reduceIte, wk]
                    refine ⟨by simp, m - 1, by omega, k + 1, S, tab, fin, by omega, hsys, ?_⟩
                    simp [trim_mk, go_sem, Nat.reduceLT, Nat.reduceAdd, Nat.reduceEqDiff, Nat.reduceLeDiff, Nat.reduceSub, Nat.reduceMul, Int.reduceEq, eq_self, reduceIte, subHeap, renObj, pos, List.range_succ, wk, cT_ren]
                  · have hcb : bitB (colF cols ((n0 + 1 : Nat) : Int)) i = true := by rw [hcol]; exact hb
                    have hnr : 1 ≤ ((n0 + 1 : Nat) : Int) ∧ ((n0 + 1 : Nat) : Int) ≤ (cols.length : Int) := by omega
                    by_cases h4 : 0 < nth fin ((n0 + 1) * 3 + i)
                    · simp only [go_sem, Nat.reduceLT, Nat.reduceAdd, Nat.reduceEqDiff, Nat.reduceLeDiff, Nat.reduceSub, Nat.reduceMul, Int.reduceEq, eq_self, reduceIte, hn8, hn8', hi3, hi3', Nat.mul_one, cT_len, hle2, hgf, h4, wk]
                      refine ⟨by simp, m - 1, by omega, k + 1, S, tab, fin, by omega, hsys, ?_⟩
                      simp [trim_mk, go_sem, Nat.reduceLT, Nat.reduceAdd, Nat.reduceEqDiff, Nat.reduceLeDiff, Nat.reduceSub, Nat.reduceMul, Int.reduceEq, eq_self, reduceIte, subHeap, renObj, pos, List.range_succ, wk, cT_ren]
                    · have hf0 : tAt fin ((n0 + 1 : Nat) : Int) i = 0 := by
                        have := hsys.fb ((n0 + 1 : Nat) : Int) i (by omega) (by omega) hi3
                        rw [tAt_nat] at this ⊢
                        omega
                      have hr3 : i < (rows3 S).length := hi3
                      have hgr := rows3_get S hi3
                      obtain ⟨hrt, -⟩ := hsys.right hN hi3
                      have hrw := hrt.wl
                      have hrd := hrt.dl
                      have hrc := hrt.c0
                      by_cases h5 : nth tab ((n0 + 1) * 3 + i) = 0
                      · obtain ⟨he, hsys2⟩ := hsys.prop hN hnr hi3 hcb (by rw [tAt_nat]; exact h5)
                        obtain ⟨er, ec⟩ := propR_K hrt he
                        rw [← ec, tSet_nat] at hsys2
                        have hpos : ¬ ((propK (S i) ((n0 + 1 : Nat) : Int)).c ≤ 0) := by rw [ec]; omega
                        have hset := cT_set (tab := tab) (o := (n0 + 1) * 3 + i) (by omega) (propK (S i) ((n0 + 1 : Nat) : Int)).c
                        have hrs := rows3_set S hi3 (propK (S i) ((n0 + 1 : Nat) : Int))
                        simp only [go_sem, Nat.reduceLT, Nat.reduceAdd, Nat.reduceEqDiff, Nat.reduceLeDiff, Nat.reduceSub, Nat.reduceMul, Int.reduceEq, eq_self, reduceIte, hn8, hn8', hi3, hi3', Nat.mul_one, cT_len, hle2, hgf, h4, hle1, hgt, h5, hr3, hgr]
                        refine ops_call (.pureE (skProposeX_meets (S i).c (S i).ws (S i).ds ((n0 + 1 : Nat) : Int) (by omega) (by omega)) (by simp [go_sem, Nat.reduceLT, Nat.reduceAdd, Nat.reduceEqDiff, Nat.reduceLeDiff, Nat.reduceSub, Nat.reduceMul, Int.reduceEq, eq_self, reduceIte, cSv])) ?_
                        rw [propE_of hrt he, er]
                        generalize propK (S i) ((n0 + 1 : Nat) : Int) = s' at *
                        simp only [go_sem, Nat.reduceLT, Nat.reduceAdd, Nat.reduceEqDiff, Nat.reduceLeDiff, Nat.reduceSub, Nat.reduceMul, Int.reduceEq, eq_self, reduceIte, cSv3, cSv, Int.ofNat_zero, Int.natCast_one, Int.cast_ofNat_Int, Int.reduceLT, Int.reduceLE, Int.reduceToNat, Nat.reduceLT, Int.toNat_zero, Int.natCast_zero, Int.le_refl, Int.lt_irrefl, Int.reduceAdd, frz, false_or, or_true, hpos, hr3, hgr, hrs, hn8, hn8', hi3, hi3', Nat.mul_one, cT_len, hle1, List.append_assoc, hset, wk]
                        refine ⟨by simp, m - 1, by omega, k + 1, upd S i s', tab.set ((n0 + 1) * 3 + i) s'.c, fin, by omega, hsys2, ?_⟩
                        simp [trim_mk, go_sem, Nat.reduceLT, Nat.reduceAdd, Nat.reduceEqDiff, Nat.reduceLeDiff, Nat.reduceSub, Nat.reduceMul, Int.reduceEq, eq_self, reduceIte, subHeap, renObj, pos, List.range_succ, wk, cT_ren]
                      · simp only [go_sem, Nat.reduceLT, Nat.reduceAdd, Nat.reduceEqDiff, Nat.reduceLeDiff, Nat.reduceSub, Nat.reduceMul, Int.reduceEq, eq_self, reduceIte, hn8, hn8', hi3, hi3', Nat.mul_one, cT_len, hle2, hgf, h4, hle1, hgt, h5]
                        have hmm := most_meets tab (n0 + 1) (nth cols n0) htl (by omega) (by omega) (by omega)
                        cases hmo : mostS tab ((n0 + 1 : Nat) : Int) (nth cols n0) 3 with
                        | none =>
                          rw [hmo] at hmm
                          refine ops_call (.heapE [1] (r' := .tup [.int .i64 0, .bool false]) (H' := [.arr 0 true false 25 3 (rows3 S), .box (cT tab), .box (cT fin)]) hmm (by simp) (by simp) (by simp [go_sem, Nat.reduceLT, Nat.reduceAdd, Nat.reduceEqDiff, Nat.reduceLeDiff, Nat.reduceSub, Nat.reduceMul, Int.reduceEq, eq_self, reduceIte, pos]) (by simp [subHeap, renObj, pos, cT_ren]) rfl (by simp [merge, mergeObj, callId, pos, backF, backId, renObj, cT_ren, List.range_succ])) ?_
                          simp only [go_sem, Nat.reduceLT, Nat.reduceAdd, Nat.reduceEqDiff, Nat.reduceLeDiff, Nat.reduceSub, Nat.reduceMul, Int.reduceEq, eq_self, reduceIte, wk]
                          refine ⟨by simp, m - 1, by omega, k + 1, S, tab, fin, by omega, hsys, ?_⟩
                          simp [trim_mk, go_sem, Nat.reduceLT, Nat.reduceAdd, Nat.reduceEqDiff, Nat.reduceLeDiff, Nat.reduceSub, Nat.reduceMul, Int.reduceEq, eq_self, reduceIte, subHeap, renObj, pos, List.range_succ, wk, cT_ren]
                        | some tm =>
                          rw [hmo] at hmm
                          refine ops_call (.heapE [1] (r' := .tup [.int .i64 tm, .bool true]) (H' := [.arr 0 true false 25 3 (rows3 S), .box (cT tab), .box (cT fin)]) hmm (by simp) (by simp) (by simp [go_sem, Nat.reduceLT, Nat.reduceAdd, Nat.reduceEqDiff, Nat.reduceLeDiff, Nat.reduceSub, Nat.reduceMul, Int.reduceEq, eq_self, reduceIte, pos]) (by simp [subHeap, renObj, pos, cT_ren]) rfl (by simp [merge, mergeObj, callId, pos, backF, backId, renObj, cT_ren, List.range_succ])) ?_
                          obtain ⟨he, hsys2⟩ := hsys.comm hN hnr hi3 hcb (by rw [tAt_nat]; exact h5) hf0 (by rw [hcol]; exact hmo)
                          have er := commR_K hrt he
                          obtain ⟨hrt2, -⟩ := hsys2.right hN hi3
                          rw [upd_same] at hrt2
                          rw [tSet_nat] at hsys2
                          have hset := cT_set (tab := fin) (o := (n0 + 1) * 3 + i) (by omega) tm
                          have hrs := rows3_set S hi3 (commK (S i) ((n0 + 1 : Nat) : Int) tm)
                          simp only [go_sem, Nat.reduceLT, Nat.reduceAdd, Nat.reduceEqDiff, Nat.reduceLeDiff, Nat.reduceSub, Nat.reduceMul, Int.reduceEq, eq_self, reduceIte, hr3, hgr]
                          refine ops_call (.pureE (skCommitX_meets (S i).c (S i).ws (S i).ds ((n0 + 1 : Nat) : Int) tm (by omega) (by omega)) (by simp [go_sem, Nat.reduceLT, Nat.reduceAdd, Nat.reduceEqDiff, Nat.reduceLeDiff, Nat.reduceSub, Nat.reduceMul, Int.reduceEq, eq_self, reduceIte, cSv])) ?_
                          rw [commE_of hrt he, er]
                          have hw2 := hrt2.wl
                          have hd2 := hrt2.dl
                          have hok2 := of_right hrt2
                          generalize commK (S i) ((n0 + 1 : Nat) : Int) tm = s' at *
                          simp only [go_sem, Nat.reduceLT, Nat.reduceAdd, Nat.reduceEqDiff, Nat.reduceLeDiff, Nat.reduceSub, Nat.reduceMul, Int.reduceEq, eq_self, reduceIte, cSv3, cSv, Int.ofNat_zero, Int.natCast_one, Int.cast_ofNat_Int, Int.reduceLT, Int.reduceLE, Int.reduceToNat, Nat.reduceLT, Int.toNat_zero, Int.natCast_zero, Int.le_refl, Int.lt_irrefl, Int.reduceAdd, frz, false_or, or_true]
                          refine ops_call (.pureE (skCheck_meets s'.c s'.ws s'.ds (by omega) (by omega)) (by simp [go_sem, Nat.reduceLT, Nat.reduceAdd, Nat.reduceEqDiff, Nat.reduceLeDiff, Nat.reduceSub, Nat.reduceMul, Int.reduceEq, eq_self, reduceIte, cSv])) ?_
                          rw [hok2]
                          simp only [go_sem, Nat.reduceLT, Nat.reduceAdd, Nat.reduceEqDiff, Nat.reduceLeDiff, Nat.reduceSub, Nat.reduceMul, Int.reduceEq, eq_self, reduceIte, cSv, Int.ofNat_zero, Int.natCast_one, Int.cast_ofNat_Int, Int.reduceLT, Int.reduceLE, Int.reduceToNat, Nat.reduceLT, Int.toNat_zero, Int.natCast_zero, Int.le_refl, Int.lt_irrefl, Int.reduceAdd, frz, false_or, or_true, hr3, hgr, hrs, hn8, hn8', hi3, hi3', Nat.mul_one, cT_len, hle2, List.append_assoc, hset, wk]
                          refine ⟨by simp, m - 1, by omega, k + 1, upd S i s', tab, fin.set ((n0 + 1) * 3 + i) tm, by omega, hsys2, ?_⟩
                          simp [trim_mk, go_sem, Nat.reduceLT, Nat.reduceAdd, Nat.reduceEqDiff, Nat.reduceLeDiff, Nat.reduceSub, Nat.reduceMul, Int.reduceEq, eq_self, reduceIte, subHeap, renObj, pos, List.range_succ, wk, cT_ren]
      · have h3len : (rows3 S).length = 3 := rfl
        simp only [go_sem, Nat.reduceLT, Nat.reduceAdd, Nat.reduceEqDiff, Nat.reduceLeDiff, Nat.reduceSub, Nat.reduceMul, Int.reduceEq, eq_self, reduceIte, w42, hlt]
        refine loop_inv [5, 20] 3 (fun m st => ∃ i : Nat, i + m = 3 ∧
          st = ⟨mkE .top [(5, .arr 0 0), (20, .int .i64 i)], [.arr 0 true false 25 3 (rows3 S), .box (cT tab), .box (cT fin)]⟩) 3 (by simp [hx]) (by simp) ?_ ?_
        · refine ⟨0, rfl, ?_⟩
          simp [trim_mk, go_sem, Nat.reduceLT, Nat.reduceAdd, Nat.reduceEqDiff, Nat.reduceLeDiff, Nat.reduceSub, Nat.reduceMul, Int.reduceEq, eq_self, reduceIte, subHeap, renObj, pos, List.range_succ, cT_ren]
        · rintro m st ⟨i, him, rfl⟩
          have wi := i64_up (k := i) (by omega)
          by_cases hi : i < 3
          · have hi' : ((i : Int) < 3) := by omega
            have hgi := rows3_get S hi
            simp only [go_sem, Nat.reduceLT, Nat.reduceAdd, Nat.reduceEqDiff, Nat.reduceLeDiff, Nat.reduceSub, Nat.reduceMul, Int.reduceEq, eq_self, reduceIte, hi, hi']
            refine loop_inv [5, 20, 21] 3 (fun m st => ∃ j : Nat, j + m = i ∧
              st = ⟨mkE .top [(5, .arr 0 0), (20, .int .i64 i), (21, .int .i64 j)], [.arr 0 true false 25 3 (rows3 S), .box (cT tab), .box (cT fin)]⟩) i (by simp [hx]) (by simp) ?_ ?_
            · refine ⟨0, by omega, ?_⟩
              simp [trim_mk, go_sem, Nat.reduceLT, Nat.reduceAdd, Nat.reduceEqDiff, Nat.reduceLeDiff, Nat.reduceSub, Nat.reduceMul, Int.reduceEq, eq_self, reduceIte, subHeap, renObj, pos, List.range_succ, cT_ren]
            · rintro m2 st ⟨j, hjm, rfl⟩
              by_cases hj : j < i
              · have hj3 : j < 3 := by omega
                have wj := i64_up (k := j) (by omega)
                have hgj := rows3_get S hj3
                have hli : i < (rows3 S).length := hi
                have hlj : j < (rows3 S).length := hj3
                obtain ⟨-, -, hdi, -⟩ := hsys.right hN hi
                obtain ⟨-, -, hdj, -⟩ := hsys.right hN hj3
                simp only [go_sem, Nat.reduceLT, Nat.reduceAdd, Nat.reduceEqDiff, Nat.reduceLeDiff, Nat.reduceSub, Nat.reduceMul, Int.reduceEq, eq_self, reduceIte, hj, hgi, hgj, hli, hlj]
                refine ops_call (.pureE (sameOrder_meets (S i).ds (S j).ds (by omega) (by omega) (hsys.order hi hj3)) (by simp [go_sem, Nat.reduceLT, Nat.reduceAdd, Nat.reduceEqDiff, Nat.reduceLeDiff, Nat.reduceSub, Nat.reduceMul, Int.reduceEq, eq_self, reduceIte])) ?_
                simp only [go_sem, Nat.reduceLT, Nat.reduceAdd, Nat.reduceEqDiff, Nat.reduceLeDiff, Nat.reduceSub, Nat.reduceMul, Int.reduceEq, eq_self, reduceIte, wj]
                repeat refine ⟨rfl, ?_⟩
                refine ⟨by simp, m2 - 1, by omega, j + 1, by omega, ?_⟩
                simp [trim_mk, go_sem, Nat.reduceLT, Nat.reduceAdd, Nat.reduceEqDiff, Nat.reduceLeDiff, Nat.reduceSub, Nat.reduceMul, Int.reduceEq, eq_self, reduceIte, subHeap, renObj, pos, List.range_succ, cT_ren]
              · simp only [go_sem, Nat.reduceLT, Nat.reduceAdd, Nat.reduceEqDiff, Nat.reduceLeDiff, Nat.reduceSub, Nat.reduceMul, Int.reduceEq, eq_self, reduceIte, hj, wi]
                refine ⟨by simp, m - 1, by omega, i + 1, by omega, ?_⟩
                simp [trim_mk, go_sem, Nat.reduceLT, Nat.reduceAdd, Nat.reduceEqDiff, Nat.reduceLeDiff, Nat.reduceSub, Nat.reduceMul, Int.reduceEq, eq_self, reduceIte, subHeap, renObj, pos, List.range_succ, cT_ren]
          · have hi' : ¬ ((i : Int) < 3) := by omega
            simp only [go_sem, Nat.reduceLT, Nat.reduceAdd, Nat.reduceEqDiff, Nat.reduceLeDiff, Nat.reduceSub, Nat.reduceMul, Int.reduceEq, eq_self, reduceIte, hi, hi']
            refine ret_pure hx ?_
            simp [go_sem, Nat.reduceLT, Nat.reduceAdd, Nat.reduceEqDiff, Nat.reduceLeDiff, Nat.reduceSub, Nat.reduceMul, Int.reduceEq, eq_self, reduceIte, L4, R4]
end Go.Proofs.Ytocglfkflpkafaa
/- From an argument's reading as data to what the walks ask of memory; and from a walk that ends in 'true' to a law's statement. -/
namespace Go.Proofs.Ytocglfkflpkafaa
open Go.RowKit Go.ChangeShapes Go.WideShapes Go.ChangeAt

section
variable {H : Type} {enc : TypeId × Value → H} {P : Program} {w : World} {sp : Nat → Bool} {held : Bool}

theorem trodAll_stays (hl : laidOutB P = true) {W W' : World} (hb : Below W.heap.size W W') : ∀ {ts : List TypeId} {vs : List Value} {ds : List (DataW H)} {ps : List MemPlace},
    (∀ t ∈ ts, P.readableRec t = true ∧ t < P.types.size) → (∀ x ∈ ps, x.block < W.heap.size) → DataW.TrodAll enc P W 0 (fun _ => true) true ts vs ds ps → DataW.TrodAll enc P W' 0 (fun b => decide (b < W.heap.size)) true ts vs ds ps
  | [], [], [], _, _, _, h => h
  | t :: ts, v :: vs, d :: ds, _, hr, hlt, h => by
    obtain ⟨p, q, h1, h2, rfl⟩ := h
    refine ⟨p, q, Below.trod hl (hr t (by simp)).1 (hr t (by simp)).2 h1 hb (fun x hx => hlt x (by simp [hx])), trodAll_stays hl hb (fun t' ht => hr t' (by simp [ht])) (fun x hx => hlt x (by simp [hx])) h2, rfl⟩
  | [], [], _ :: _, _, _, _, h => h.elim
  | [], _ :: _, _, _, _, _, h => by cases h
  | _ :: _, [], _, _, _, _, h => by cases h
  | _ :: _, _ :: _, [], _, _, _, h => h.elim

/-- A LAW's END: it has answered true, and of what was there nothing has turned. -/
theorem law_post {f : Func} {s : ChangeSpec} {apart : Bool} {W W' : World} {args : Array Value} {ds gs : List (DataW H)} {before : List MemPlace} {tb : TypeId}
    (hl : laidOutB P = true) (hpar : ∀ t ∈ f.params.toList, P.readableRec t = true ∧ t < P.types.size) (hres : f.resultTypes = #[tb]) (hub : P.underlying tb = some .bool) (hvars : s.vars = [])
    (hW : DataW.Whole enc P f.params.toList s.vars apart W args.toList ds gs before)
    (hs : s.fn H (ds ++ gs) = { results := [.lit (.bool true)], args := ds }) (hb : Below W.heap.size W W') : s.post enc P f apart true false false W args (.bool true) W' := by
  have hlt := hW.lt
  have hW' := hW
  obtain ⟨p, q, hA, hV, rfl, hfz, hnd⟩ := hW
  rw [hvars] at hV
  have hq : gs = [] ∧ q = [] := by
    cases gs with
    | nil => exact ⟨rfl, hV⟩
    | cons g gs => exact hV.elim
  obtain ⟨rfl, rfl⟩ := hq
  refine ⟨ds, [], _, [], p, [], hW', ?_, ?_, ?_, hb.frame _, fun h => by cases h⟩
  · rw [hs, hres]
    exact trodAll_mk1 (shut_bool hub true)
  · rw [hs]
    exact trodAll_stays hl hb hpar (fun x hx => hlt x (by simp [hx])) hA
  · rw [hs, hvars]
    rfl

theorem parsOf {ts : List TypeId} (h : (ts.all fun t => P.readableRec t && decide (t < P.types.size)) = true) : ∀ t ∈ ts, P.readableRec t = true ∧ t < P.types.size := by
  intro t ht
  have := List.all_eq_true.1 h t ht
  simpa only [Bool.and_eq_true, decide_eq_true_eq] using this

/-- the fields of a struct's reading -/
theorem trod_fields {t : TypeId} {fs : List (TypeId × Nat)} {fuel : Nat} {cs : List Value} {x : DataW H × List MemPlace} (hs : P.underlying t = some (.struct (P.fieldsOf t))) (hf : (P.fieldsOf t).toList.map (fun f => (f.type, f.offset)) = fs)
    (h : DataW.trod enc P w 0 sp held fuel t cs = some x) : cs.length = P.cellsOf t ∧ ∀ (i : Nat) (t' : TypeId) (o : Nat), fs[i]? = some (t', o) → ∃ n y, DataW.trod enc P w 0 sp held n t' ((cs.drop o).take (P.cellsOf t')) = some y := by
  obtain ⟨xs, n, _, _, hl, hlen, hq⟩ := DataW.trod_struct hs h
  refine ⟨hl, fun i t' o hi => ?_⟩
  rw [← hf, List.getElem?_map] at hi
  obtain ⟨f, h1, h2⟩ := Option.map_eq_some_iff.1 hi
  simp only [Prod.mk.injEq] at h2
  obtain ⟨rfl, rfl⟩ := h2
  have h3 := hq i f (by simpa using h1)
  have hi2 : i < (P.fieldsOf t).toList.length := (List.getElem?_eq_some_iff.1 h1).1
  have hi3 : i < xs.length := by rw [hlen]; simpa using hi2
  exact ⟨n, xs[i], by rw [h3]; simp⟩

/-- a slice's reading, element by element -/
theorem trod_elems {t e : TypeId} {fuel : Nat} {v : Value} {x : DataW H × List MemPlace} (ht : P.underlying t = some (.slice e)) (hsz : 0 < P.cellsOf e) (h : DataW.trod enc P w 0 sp held fuel t [v] = some x) :
    ∃ a n c, v = .slice a n c ∧ n ≤ c ∧ c ≤ maxLen ∧ ∀ k, k < n → ∃ b o cs m y, a = some ⟨b, o, none⟩ ∧ b < w.heap.size ∧ cs.length = P.cellsOf e ∧ (∀ j, j < P.cellsOf e → w.cell? ⟨b, o + k * P.cellsOf e + j, none⟩ = cs[j]?) ∧
      DataW.trod enc P w 0 sp held m e cs = some y := by
  rcases DataW.trod_slice ht h with ⟨hv, -⟩ | ⟨a, len, cap, elems, rest, m, -, hv, -, -, h1, h2, hl, hel, -, -⟩
  · exact ⟨none, 0, 0, by simpa using hv, by omega, by unfold maxLen; omega, fun k hk => by omega⟩
  · obtain rfl : v = .slice (some a) len cap := by simpa using hv
    have key : ∀ k, k < len → ∃ cs y, w.cells? 0 (a.add (k * P.cellsOf e)) (P.cellsOf e) = some cs ∧ DataW.trod enc P w 0 sp held m e cs = some y := by
      intro k hk
      have := hel k hk
      rw [List.getElem?_eq_getElem (by omega)] at this
      obtain ⟨cs, hcs, hy⟩ := Option.bind_eq_some_iff.1 this
      exact ⟨cs, _, hcs, hy⟩
    refine ⟨some a, len, cap, rfl, h1, h2, fun k hk => ?_⟩
    obtain ⟨cs0, y0, hc0, -⟩ := key 0 (by omega)
    have h0 := (World.cells?_some hc0).2.2 0 hsz
    obtain ⟨ab, ao, asp⟩ := a
    have hl0 := (World.cells?_some hc0).2.1
    have has : asp = none := by
      simp only [Nat.zero_mul, Addr.add, if_true] at h0
      rw [List.getElem?_eq_getElem (by omega)] at h0
      cases asp with
      | none => rfl
      | some s =>
        simp only [World.cell?] at h0
        split at h0 <;> simp at h0
    subst has
    obtain ⟨cs, y, hcs, hy⟩ := key k hk
    have h3 := World.cells?_some hcs
    have add_eq : ∀ (o n : Nat), (⟨ab, o, none⟩ : Addr).add n = ⟨ab, o + n, none⟩ := by
      intro o n; unfold Addr.add; split <;> simp_all
    refine ⟨ab, ao, cs, m, y, rfl, ?_, h3.2.1, fun j hj => ?_, hy⟩
    · exact World.cells?_block (a := ⟨ab, ao, none⟩) (by simpa [add_eq] using hc0) hsz
    · have := h3.2.2 j hj
      simpa [add_eq] using this
end

theorem list2 {α : Type} {l : List α} (h : l.length = 2) : ∃ a b, l = [a, b] := by
  match l, h with
  | [a, b], _ => exact ⟨a, b, rfl⟩
theorem list3 {α : Type} {l : List α} (h : l.length = 3) : ∃ a b c, l = [a, b, c] := by
  match l, h with
  | [a, b, c], _ => exact ⟨a, b, c, rfl⟩
theorem list4 {α : Type} {l : List α} (h : l.length = 4) : ∃ a b c d, l = [a, b, c, d] := by
  match l, h with
  | [a, b, c, d], _ => exact ⟨a, b, c, d, rfl⟩
theorem list5 {α : Type} {l : List α} (h : l.length = 5) : ∃ a b c d e, l = [a, b, c, d, e] := by
  match l, h with
  | [a, b, c, d, e], _ => exact ⟨a, b, c, d, e, rfl⟩
theorem arr_eq {α : Type} {cs : Array α} {l : List α} (h : cs.toList = l) : cs = l.toArray := by rw [← h]

/-- within the bounds of Go's int -/
def I64 (n : Int) : Prop := -9223372036854775808 ≤ n ∧ n ≤ 9223372036854775807
theorem i64_of_wf {n : Int} (h : (Lit.int .i64 n).wf = true) : I64 n := by simpa [Lit.wf, IntKind.min, IntKind.max, IntKind.signed, IntKind.bits, I64] using h

section
variable {H : Type} {enc : TypeId × Value → H} {w : World} {sp : Nat → Bool} {held : Bool}
theorem lawOwn : ownKnob Try.prog.godebug = none := by kernel_rfl
theorem lawLaid : laidOutB Try.prog = true := by kernel_rfl
theorem lawBool : Try.prog.underlying 4 = some .bool := by kernel_rfl
theorem undInt' : Try.prog.underlying 3 = some (.int .i64) := by kernel_rfl
theorem cellsInt : Try.prog.cellsOf 3 = 1 := by kernel_rfl
theorem openInt {fuel : Nat} {cs : List Value} {y : DataW H × List MemPlace} (h : DataW.trod enc Try.prog w 0 sp held fuel 3 cs = some y) : ∃ n, cs = [.int .i64 n] ∧ I64 n := by
  obtain ⟨n, rfl, -, hw⟩ := DataW.trod_int undInt' h
  exact ⟨n, rfl, i64_of_wf hw⟩
end

end Go.Proofs.Ytocglfkflpkafaa
/- From an argument's reading as data to abstract values; from a contract of a law to its statement. -/
namespace Go.Proofs.Ytocglfkflpkafaa
open Go.RowKit Go.ChangeShapes Go.WideShapes Go.ChangeAt

/-- cells in memory show abstract values -/
def Shows (w : World) (ps : List PV) (cs : List Value) : Prop := cs.length = ps.length ∧ ∀ (j : Nat) p v, ps[j]? = some p → cs[j]? = some v → RepP (fun b _ => b < w.heap.size) w p v

section
variable {H : Type} {enc : TypeId × Value → H} {P : Program} {w : World} {sp : Nat → Bool} {held : Bool}

/-- what a type's reading gives: n cells, R of their abstract values -/
def Opens (enc : TypeId × Value → H) (P : Program) (w : World) (sp : Nat → Bool) (held : Bool) (t : TypeId) (n : Nat) (R : List PV → Prop) : Prop :=
  P.cellsOf t = n ∧ ∀ fuel cs (y : DataW H × List MemPlace), DataW.trod enc P w 0 sp held fuel t cs = some y → (∀ k ∈ y.1.weights P t, k ≤ reachBytes) → ∃ ps, ps.length = n ∧ R ps ∧ Shows w ps cs

theorem Opens.mono {t : TypeId} {n : Nat} {R R' : List PV → Prop} (h : Opens enc P w sp held t n R) (hR : ∀ ps, R ps → R' ps) : Opens enc P w sp held t n R' :=
  ⟨h.1, fun fuel cs y hy hw => by obtain ⟨ps, h1, h2, h3⟩ := h.2 fuel cs y hy hw; exact ⟨ps, h1, hR ps h2, h3⟩⟩

theorem shows1 {p : PV} {v : Value} (h : RepP (fun b _ => b < w.heap.size) w p v) : Shows w [p] [v] := by
  refine ⟨rfl, fun j q u hj hu => ?_⟩
  cases j with
  | zero => simp at hj hu; subst hj; subst hu; exact h
  | succ j => simp at hj

theorem opens_int {t : TypeId} (ht : P.underlying t = some (.int .i64)) (hc : P.cellsOf t = 1) : Opens enc P w sp held t 1 fun ps => ∃ n, I64 n ∧ ps = [.int .i64 n] := by
  refine ⟨hc, fun fuel cs y h _ => ?_⟩
  obtain ⟨n, rfl, -, hw⟩ := DataW.trod_int ht h
  exact ⟨[.int .i64 n], rfl, ⟨n, i64_of_wf hw, rfl⟩, shows1 (.int _ _)⟩
theorem opens_bool {t : TypeId} (ht : P.underlying t = some .bool) (hc : P.cellsOf t = 1) : Opens enc P w sp held t 1 fun ps => ∃ b, ps = [.bool b] := by
  refine ⟨hc, fun fuel cs y h _ => ?_⟩
  obtain ⟨b, rfl, -⟩ := DataW.trod_bool ht h
  exact ⟨[.bool b], rfl, ⟨b, rfl⟩, shows1 (.bool _)⟩
theorem opens_str {t : TypeId} (ht : P.underlying t = some .string) (hc : P.cellsOf t = 1) : Opens enc P w sp held t 1 fun ps => ∃ s : ByteArray, s.size ≤ reachBytes ∧ ps = [.str s] := by
  refine ⟨hc, fun fuel cs y h hw => ?_⟩
  obtain ⟨s, rfl, rfl, -⟩ := DataW.trod_string ht h
  have hs := hw s.data.toList.length (by simp [DataW.weights])
  exact ⟨[.str s], rfl, ⟨s, by simpa using hs, rfl⟩, shows1 (.str _)⟩

/-- a slice's reading, element by element, with their data -/
theorem trod_elems2 {t e : TypeId} {fuel : Nat} {v : Value} {x : DataW H × List MemPlace} (ht : P.underlying t = some (.slice e)) (hsz : 0 < P.cellsOf e) (h : DataW.trod enc P w 0 sp held fuel t [v] = some x) (hw : ∀ k ∈ x.1.weights P t, k ≤ reachBytes) :
    ∃ a n c, v = .slice a n c ∧ n ≤ c ∧ c ≤ maxLen ∧ n * P.bytesOf e ≤ reachBytes ∧ ∀ k, k < n → ∃ b o cs m y, a = some ⟨b, o, none⟩ ∧ b < w.heap.size ∧ cs.length = P.cellsOf e ∧ (∀ j, j < P.cellsOf e → w.cell? ⟨b, o + k * P.cellsOf e + j, none⟩ = cs[j]?) ∧
      DataW.trod enc P w 0 sp held m e cs = some y ∧ ∀ q ∈ y.1.weights P e, q ≤ reachBytes := by
  have memAll : ∀ (ds : List (DataW H)) (d : DataW H), d ∈ ds → ∀ q ∈ d.weights P e, q ∈ DataW.weightsAll P e ds := by
    intro ds
    induction ds with
    | nil => intro d hd; cases hd
    | cons d0 ds ih =>
      intro d hd q hq
      simp only [DataW.weightsAll, List.mem_append]
      rcases List.mem_cons.1 hd with rfl | hd
      · exact .inl hq
      · exact .inr (ih d hd q hq)
  rcases DataW.trod_slice ht h with ⟨hv, -⟩ | ⟨a, len, cap, elems, rest, m, -, hv, hx, -, h1, h2, hl, hel, -, -⟩
  · exact ⟨none, 0, 0, by simpa using hv, by omega, by unfold maxLen; omega, by omega, fun k hk => by omega⟩
  · obtain rfl : v = .slice (some a) len cap := by simpa using hv
    have hwt : len * P.bytesOf e ≤ reachBytes := by
      have := hw ((elems.length + rest.length) * P.bytesOf e) (by rw [hx]; simp [DataW.weights, ht])
      have h3 : len * P.bytesOf e ≤ (elems.length + rest.length) * P.bytesOf e := Nat.mul_le_mul_right _ (by omega)
      omega
    have key : ∀ k, k < len → ∃ cs y, w.cells? 0 (a.add (k * P.cellsOf e)) (P.cellsOf e) = some cs ∧ DataW.trod enc P w 0 sp held m e cs = some y ∧ ∀ q ∈ y.1.weights P e, q ≤ reachBytes := by
      intro k hk
      have := hel k hk
      rw [List.getElem?_eq_getElem (by omega)] at this
      obtain ⟨cs, hcs, hy⟩ := Option.bind_eq_some_iff.1 this
      refine ⟨cs, _, hcs, hy, fun q hq => hw q ?_⟩
      rw [hx]
      simp only [DataW.weights, ht, List.mem_cons, List.mem_append]
      exact .inr (.inl (memAll _ _ (List.mem_map.2 ⟨_, List.getElem_mem _, rfl⟩) q hq))
    refine ⟨some a, len, cap, rfl, h1, h2, hwt, fun k hk => ?_⟩
    obtain ⟨cs0, y0, hc0, -⟩ := key 0 (by omega)
    have h0 := (World.cells?_some hc0).2.2 0 hsz
    obtain ⟨ab, ao, asp⟩ := a
    have hl0 := (World.cells?_some hc0).2.1
    have has : asp = none := by
      simp only [Nat.zero_mul, Addr.add, if_true] at h0
      rw [List.getElem?_eq_getElem (by omega)] at h0
      cases asp with
      | none => rfl
      | some s =>
        simp only [World.cell?] at h0
        split at h0 <;> simp at h0
    subst has
    obtain ⟨cs, y, hcs, hy, hq⟩ := key k hk
    have h3 := World.cells?_some hcs
    have add_eq : ∀ (o n : Nat), (⟨ab, o, none⟩ : Addr).add n = ⟨ab, o + n, none⟩ := by
      intro o n; unfold Addr.add; split <;> simp_all
    refine ⟨ab, ao, cs, m, y, rfl, ?_, h3.2.1, fun j hj => ?_, hy, hq⟩
    · exact World.cells?_block (a := ⟨ab, ao, none⟩) (by simpa [add_eq] using hc0) hsz
    · have := h3.2.2 j hj
      simpa [add_eq] using this

theorem list_choose {α : Type} {n : Nat} {Q : Nat → α → Prop} (h : ∀ k, k < n → ∃ x, Q k x) : ∃ l : List α, l.length = n ∧ ∀ (k : Nat) x, l[k]? = some x → Q k x := by
  induction n with
  | zero => exact ⟨[], rfl, fun k x hk => by simp at hk⟩
  | succ n ih =>
    obtain ⟨l, h1, h2⟩ := ih fun k hk => h k (by omega)
    obtain ⟨x, hx⟩ := h n (by omega)
    refine ⟨l ++ [x], by simp [h1], fun k y hk => ?_⟩
    by_cases hlt : k < l.length
    · rw [List.getElem?_append_left hlt] at hk; exact h2 k y hk
    · rw [List.getElem?_append_right (by omega)] at hk
      have : k - l.length = 0 := by
        have := (List.getElem?_eq_some_iff.1 hk).1
        simp at this; omega
      rw [this] at hk
      simp at hk
      subst hk
      rw [show k = n by omega]; exact hx

theorem opens_slice {t e : TypeId} {n : Nat} {R : List PV → Prop} (ht : P.underlying t = some (.slice e)) (hc : P.cellsOf t = 1) (hn : 0 < n) (he : Opens enc P w sp held e n R) :
    Opens enc P w sp held t 1 fun ps => ∃ rows, rows.length * P.bytesOf e ≤ reachBytes ∧ (∀ row ∈ rows, row.length = n ∧ R row) ∧ ps = [.list rows] := by
  refine ⟨hc, fun fuel cs y h hw => ?_⟩
  have hcs : ∃ v, cs = [v] := by
    rcases DataW.trod_slice ht h with ⟨hv, -⟩ | ⟨a, len, cap, elems, rest, m, -, hv, -⟩ <;> exact ⟨_, hv⟩
  obtain ⟨v, rfl⟩ := hcs
  obtain ⟨hce, he⟩ := he
  obtain ⟨a, len, c, rfl, h1, h2, hby, h3⟩ := trod_elems2 ht (by omega) h hw
  rw [hce] at h3
  obtain ⟨rows, r1, r2⟩ := list_choose (Q := fun k (row : List PV) => row.length = n ∧ R row ∧ ∃ b o cs, a = some ⟨b, o, none⟩ ∧ b < w.heap.size ∧ cs.length = n ∧ (∀ j, j < n → w.cell? ⟨b, o + k * n + j, none⟩ = cs[j]?) ∧ Shows w row cs) fun k hk => by
    obtain ⟨b, o, cs, m, y, q1, q2, q3, q4, q5, q6⟩ := h3 k hk
    obtain ⟨ps, p1, p2, p3⟩ := he m cs y q5 q6
    exact ⟨ps, p1, p2, b, o, cs, q1, q2, q3, q4, p3⟩
  refine ⟨[.list rows], rfl, ⟨rows, by rw [r1]; exact hby, fun row hr => ?_, rfl⟩, shows1 ?_⟩
  · obtain ⟨k, hk⟩ := List.getElem?_of_mem hr
    exact ⟨(r2 k row hk).1, (r2 k row hk).2.1⟩
  · have key : ∀ k row j p, rows[k]? = some row → row[j]? = some p → ∃ b o, a = some ⟨b, o, none⟩ ∧ b < w.heap.size ∧ ∃ u, w.cell? ⟨b, o + k * n + j, none⟩ = some u ∧ RepP (fun b _ => b < w.heap.size) w p u := by
      intro k row j p hk hj
      obtain ⟨hl, -, b, o, cs, q1, q2, q3, q4, q5⟩ := r2 k row hk
      have hlt : j < n := by rw [← hl]; exact (List.getElem?_eq_some_iff.1 hj).1
      refine ⟨b, o, q1, q2, cs[j]'(by omega), ?_, ?_⟩
      · rw [q4 j hlt, List.getElem?_eq_getElem (by omega)]
      · exact q5.2 j p _ hj (List.getElem?_eq_getElem (by omega))
    have := RepP.list (S := fun b _ => b < w.heap.size) (w := w) rows a c n (fun k j => match a with | some ad => (w.cell? ⟨ad.block, ad.off + k * n + j, none⟩).getD Go.undef | none => Go.undef) (by omega) h2 hn (fun row hr => by
        obtain ⟨k, hk⟩ := List.getElem?_of_mem hr
        exact (r2 k row hk).1) (fun k row j p hk hj => by
        obtain ⟨b, o, q1, q2, u, q3, q4⟩ := key k row j p hk hj
        subst q1
        exact ⟨b, o, rfl, q2, by simp [q3]⟩) (fun k row j p hk hj => by
        obtain ⟨b, o, q1, q2, u, q3, q4⟩ := key k row j p hk hj
        subst q1
        simp only [q3, Option.getD_some]
        exact q4)
    rw [r1] at this
    exact this

/-- fields, one behind the other -/
def offs : Nat → List (TypeId × Nat) → List (TypeId × Nat)
  | _, [] => []
  | o, (t, n) :: r => (t, o) :: offs (o + n) r
def RAll : List (Nat × (List PV → Prop)) → List PV → Prop
  | [], ps => ps = []
  | (n, R) :: r, ps => ∃ a b, ps = a ++ b ∧ a.length = n ∧ R a ∧ RAll r b
def OpensAll (enc : TypeId × Value → H) (P : Program) (w : World) (sp : Nat → Bool) (held : Bool) : List (TypeId × Nat × (List PV → Prop)) → Prop
  | [] => True
  | (t, n, R) :: r => Opens enc P w sp held t n R ∧ OpensAll enc P w sp held r

theorem shows_append {a b : List PV} {cs ds : List Value} (h1 : Shows w a cs) (h2 : Shows w b ds) : Shows w (a ++ b) (cs ++ ds) := by
  refine ⟨by simp [h1.1, h2.1], fun j p v hj hv => ?_⟩
  by_cases hlt : j < a.length
  · rw [List.getElem?_append_left hlt] at hj
    rw [List.getElem?_append_left (by rw [h1.1]; exact hlt)] at hv
    exact h1.2 j p v hj hv
  · rw [List.getElem?_append_right (by omega)] at hj
    rw [List.getElem?_append_right (by rw [h1.1]; omega), h1.1] at hv
    exact h2.2 _ p v hj hv

theorem opens_fields : ∀ (fl : List (TypeId × Nat × (List PV → Prop))) (o : Nat) (cs : List Value), OpensAll enc P w sp held fl → cs.length = o + (fl.map (·.2.1)).sum →
    (∀ (i : Nat) (t' : TypeId) (o' : Nat), (offs o (fl.map fun f => (f.1, f.2.1)))[i]? = some (t', o') → ∃ n y, DataW.trod enc P w 0 sp held n t' ((cs.drop o').take (P.cellsOf t')) = some y ∧ ∀ k ∈ y.1.weights P t', k ≤ reachBytes) →
    ∃ ps, ps.length = (fl.map (·.2.1)).sum ∧ RAll (fl.map (·.2)) ps ∧ Shows w ps (cs.drop o)
  | [], o, cs, _, hl, _ => ⟨[], rfl, rfl, by
      rw [List.drop_eq_nil_of_le (by simp at hl; omega)]
      exact ⟨rfl, fun j p v hj => by simp at hj⟩⟩
  | (t, n, R) :: fl, o, cs, ho, hl, hx => by
    obtain ⟨⟨hc, h1⟩, h2⟩ := ho
    obtain ⟨m, y, hy, hwy⟩ := hx 0 t o rfl
    obtain ⟨ps, p1, p2, p3⟩ := h1 m _ y hy hwy
    simp only [List.map_cons, List.sum_cons] at hl
    obtain ⟨qs, q1, q2, q3⟩ := opens_fields fl (o + n) cs h2 (by omega) fun i t' o' hi => hx (i + 1) t' o' hi
    refine ⟨ps ++ qs, by simp [p1, q1], ⟨ps, qs, rfl, p1, p2, q2⟩, ?_⟩
    rw [hc] at p3
    have : cs.drop o = (cs.drop o).take n ++ cs.drop (o + n) := by rw [← List.drop_drop, List.take_append_drop]
    rw [this]
    exact shows_append p3 q3

theorem opens_struct {t : TypeId} {n : Nat} (fl : List (TypeId × Nat × (List PV → Prop))) (hs : P.underlying t = some (.struct (P.fieldsOf t))) (hf : (P.fieldsOf t).toList.map (fun f => (f.type, f.offset)) = offs 0 (fl.map fun f => (f.1, f.2.1)))
    (hc : P.cellsOf t = n) (hn : (fl.map (·.2.1)).sum = n) (ho : OpensAll enc P w sp held fl) : Opens enc P w sp held t n (RAll (fl.map (·.2))) := by
  refine ⟨hc, fun fuel cs y h hw => ?_⟩
  obtain ⟨xs, m, _, hy, hl, hlen, hq⟩ := DataW.trod_struct hs h
  have hx : ∀ (i : Nat) (t' : TypeId) (o' : Nat), (offs 0 (fl.map fun f => (f.1, f.2.1)))[i]? = some (t', o') → ∃ n y, DataW.trod enc P w 0 sp held n t' ((cs.drop o').take (P.cellsOf t')) = some y ∧ ∀ k ∈ y.1.weights P t', k ≤ reachBytes := by
    intro i t' o' hi
    rw [← hf, List.getElem?_map] at hi
    obtain ⟨f, h1, h2⟩ := Option.map_eq_some_iff.1 hi
    simp only [Prod.mk.injEq] at h2
    obtain ⟨rfl, rfl⟩ := h2
    have h3 := hq i f (by simpa using h1)
    have hi2 : i < (P.fieldsOf t).toList.length := (List.getElem?_eq_some_iff.1 h1).1
    have hi3 : i < xs.length := by rw [hlen]; simpa using hi2
    refine ⟨m, xs[i], by rw [h3]; simp, fun k hk => hw k ?_⟩
    rw [hy]
    simp only [DataW.weights, hs]
    refine DataW.weights_mem_each (j := i) (t := f.type) (d := xs[i].1) ?_ ?_ k hk
    · rw [List.getElem?_map, h1]; rfl
    · rw [List.getElem?_map, List.getElem?_eq_getElem hi3]; rfl
  obtain ⟨ps, h1, h2, h3⟩ := opens_fields fl 0 cs ho (by omega) hx
  exact ⟨ps, by omega, h2, h3⟩

/-- an argument of one cell -/
theorem open_cell {t : TypeId} {R : List PV → Prop} (ho : Opens enc P w sp held t 1 R) {v : Value} (h1 : ∀ cs, v ≠ .agg cs) {d : DataW H} {p : List MemPlace} (h : DataW.Trod enc P w 0 sp held t v d p) (hw : ∀ k ∈ d.weights P t, k ≤ reachBytes) : ∃ q, R [q] ∧ RepP (fun b _ => b < w.heap.size) w q v := by
  obtain ⟨fuel, hf⟩ := h
  obtain ⟨ps, p1, p2, p3⟩ := ho.2 fuel _ _ hf hw
  have hv : v.cells.toList = [v] := by cases v <;> first | rfl | exact (h1 _ rfl).elim
  match ps, p1 with
  | [q], _ => exact ⟨q, p2, p3.2 0 q v rfl (by rw [hv]; rfl)⟩

/-- an argument of several cells -/
theorem open_agg {t : TypeId} {n : Nat} {R : List PV → Prop} (ho : Opens enc P w sp held t n R) {v : Value} (h1 : ∃ cs, v = .agg cs) {d : DataW H} {p : List MemPlace} (h : DataW.Trod enc P w 0 sp held t v d p) (hw : ∀ k ∈ d.weights P t, k ≤ reachBytes) (S : Nat → Nat → Prop) (hS : ∀ b o, b < w.heap.size → S b o) (C : Conc) : ∃ ps, R ps ∧ RepV S w C (.agg ps) v := by
  obtain ⟨fuel, hf⟩ := h
  obtain ⟨cs, rfl⟩ := h1
  obtain ⟨ps, p1, p2, p3⟩ := ho.2 fuel _ _ hf hw
  have hk : ∀ (j : Nat) q x, ps[j]? = some q → cs.toList[j]? = some x → RepP (fun b _ => b < w.heap.size) w q x := fun j q x hj hx => p3.2 j q x hj hx
  refine ⟨ps, p2, ?_⟩
  have := RepV.agg (S := S) (w := w) (C := C) ps cs.toList p3.1 (fun j x hx => ?_) fun j q x hj hx => .pure ((hk j q x hj hx).mono (fun b o h => hS b o h) fun _ _ _ => rfl)
  · simpa using this
  · have hlt : j < ps.length := by rw [← p3.1]; exact (List.getElem?_eq_some_iff.1 hx).1
    exact (hk j _ x (List.getElem?_eq_getElem hlt) hx).one
end

/-- the world in which a law is called -/
def lawCx (w : World) : Cx := ⟨w, fun b _ => b < w.heap.size, ⟨0, fun _ => 0, fun _ => Go.undef, fun _ => 0⟩, []⟩
theorem lawHR (w : World) : HR (lawCx w) (lawCx w).C0 [] w :=
  ⟨rfl, fun id ob h => by simp at h, fun id id' ob ob' b h => by simp at h, fun id ob b h => by simp at h, fun b o h => ⟨h, fun id ob h => by simp at h, rfl⟩, Nat.le_refl _, rfl, rfl, rfl, fun b _ _ => rfl, Nat.le_refl _, fun i hi => rfl, fun i hi => .inl ⟨rfl, rfl⟩⟩
theorem lawStab {w : World} {b o : Nat} (h : b < w.heap.size) : Stab (lawCx w) (lawCx w).C0 [] w b o := ⟨.inl h, h, fun id ob h => by simp at h⟩

/-- an argument, seen from the law's call -/
def Arg (w : World) (p : PV) (v : Value) : Prop := RepV (Stab (lawCx w) (lawCx w).C0 [] w) w (lawCx w).C0 p v
theorem Arg.of {w : World} {p : PV} {v : Value} (h : RepP (fun b _ => b < w.heap.size) w p v) : Arg w p v := .pure (h.mono (fun _ _ h => lawStab h) fun _ _ _ => rfl)

inductive ArgsAre (w : World) : List PV → List Value → Prop
  | nil : ArgsAre w [] []
  | cons {p : PV} {v : Value} {ps : List PV} {vs : List Value} (h : Arg w p v) (t : ArgsAre w ps vs) : ArgsAre w (p :: ps) (v :: vs)
theorem ArgsAre.reps {w : World} {ps : List PV} {vs : List Value} (h : ArgsAre w ps vs) : Reps (Stab (lawCx w) (lawCx w).C0 [] w) w (lawCx w).C0 ps vs := by
  induction h with
  | nil => exact ⟨rfl, fun j p v hj => by simp at hj⟩
  | cons h t ih =>
    refine ⟨by simp [ih.1], fun j p v hj hv => ?_⟩
    cases j with
    | zero => simp at hj hv; subst hj; subst hv; exact h
    | succ j => exact ih.2 j p v (by simpa using hj) (by simpa using hv)

theorem law_calls {P : Program} {f : Nat} {args : List PV} {vs : Array Value} {w : World} (h : Meets P f args [] (.bool true) []) (hp : ArgsAre w args vs.toList) : Calls P f vs w fun e w' => e = .returned (.bool true) ∧ Below w.heap.size w w' := by
  refine (h (lawCx w) vs rfl (lawHR w) hp.reps).mono fun e w' ⟨v, C', h1, h2, h3⟩ => ?_
  have hv := h3.bool_inv
  subst hv
  exact ⟨h1, ⟨h2.os, h2.tape, h2.output, h2.size, fun b hb => h2.frame b hb fun i ob0 hi => by simp [lawCx] at hi⟩⟩

end Go.Proofs.Ytocglfkflpkafaa
/- Arguments of laws, opened: ids, entries, lists of them. -/
namespace Go.Proofs.Ytocglfkflpkafaa
open Go.RowKit Go.ChangeShapes Go.WideShapes Go.ChangeAt
section
variable {H : Type} {enc : TypeId × Value → H} {w : World} {sp : Nat → Bool} {held : Bool}

theorem rows_map {α : Type} {f : α → List PV} {Q : α → Prop} {n : Nat} : ∀ {rows : List (List PV)}, (∀ row ∈ rows, row.length = n ∧ ∃ x, Q x ∧ row = f x) → ∃ l : List α, (∀ x ∈ l, Q x) ∧ rows = l.map f
  | [], _ => ⟨[], by simp, rfl⟩
  | row :: rows, h => by
    obtain ⟨-, x, h1, rfl⟩ := h row (by simp)
    obtain ⟨l, h2, rfl⟩ := rows_map (rows := rows) fun row hr => h row (by simp [hr])
    exact ⟨x :: l, by simpa using ⟨h1, h2⟩, rfl⟩

theorem opInt : Opens enc Try.prog w sp held 3 1 fun ps => ∃ n, I64 n ∧ ps = [.int .i64 n] := opens_int undInt' cellsInt
theorem opStr : Opens enc Try.prog w sp held 9 1 fun ps => ∃ s : ByteArray, s.size ≤ reachBytes ∧ ps = [.str s] := opens_str (by kernel_rfl) (by kernel_rfl)
theorem opBool : Opens enc Try.prog w sp held 4 1 fun ps => ∃ b, ps = [.bool b] := opens_bool lawBool (by kernel_rfl)

def wfId (x : Id) : Prop := I64 x.r ∧ I64 x.n
def wfE (e : Entry) : Prop := wfId e.id ∧ I64 e.c ∧ e.t.size ≤ reachBytes ∧ e.ls.length * 16 ≤ reachBytes ∧ ∀ x ∈ e.ls, wfId x
set_option maxRecDepth 100000 in
theorem argInt {b0 : Nat} {v : Value} {d : DataW H} {p : List MemPlace} (hv : Value.okWide Try.prog w .any b0 3 v) (h : DataW.Trod enc Try.prog w 0 sp held 3 v d p) (hw : ∀ k ∈ d.weights Try.prog 3, k ≤ reachBytes) : ∃ n, I64 n ∧ Arg w (.int .i64 n) v := by
  obtain ⟨m, rfl⟩ := okWide_int undInt' hv
  obtain ⟨q, ⟨n, hn, hq⟩, h2⟩ := open_cell opInt (by simp) h hw
  simp at hq; subst hq
  exact ⟨n, hn, .of h2⟩
set_option maxRecDepth 100000 in
theorem argBool {b0 : Nat} {v : Value} {d : DataW H} {p : List MemPlace} (hv : Value.okWide Try.prog w .any b0 4 v) (h : DataW.Trod enc Try.prog w 0 sp held 4 v d p) (hw : ∀ k ∈ d.weights Try.prog 4, k ≤ reachBytes) : ∃ n, Arg w (.bool n) v := by
  obtain ⟨m, rfl⟩ := okWide_bool lawBool hv
  obtain ⟨q, ⟨n, hq⟩, h2⟩ := open_cell opBool (by simp) h hw
  simp at hq; subst hq
  exact ⟨n, .of h2⟩
set_option maxRecDepth 100000 in
theorem argStr {b0 : Nat} {v : Value} {d : DataW H} {p : List MemPlace} (hv : Value.okWide Try.prog w .any b0 9 v) (h : DataW.Trod enc Try.prog w 0 sp held 9 v d p) (hw : ∀ k ∈ d.weights Try.prog 9, k ≤ reachBytes) : ∃ s : ByteArray, s.size ≤ reachBytes ∧ Arg w (.str s) v := by
  obtain ⟨m, rfl⟩ := okWide_string (by kernel_rfl) hv
  obtain ⟨q, ⟨n, hn, hq⟩, h2⟩ := open_cell opStr (by simp) h hw
  simp at hq; subst hq
  exact ⟨n, hn, .of h2⟩
end
end Go.Proofs.Ytocglfkflpkafaa
/- Arguments of laws, opened: servers, lists of servers and of numbers. -/
namespace Go.Proofs.Ytocglfkflpkafaa
open Go.RowKit Go.ChangeShapes Go.WideShapes Go.ChangeAt
section
variable {H : Type} {enc : TypeId × Value → H} {w : World} {sp : Nat → Bool} {held : Bool}
theorem opWait : Opens enc Try.prog w sp held 48 3 fun ps => ∃ c : Wt, True ∧ ps = cW c :=
  (opens_struct [(3, 1, _), (3, 1, _), (4, 1, _)] (by kernel_rfl) (by kernel_rfl) (by kernel_rfl) rfl ⟨opInt, opInt, opBool, trivial⟩).mono (by
    rintro ps ⟨a, b, rfl, -, ⟨x, -, rfl⟩, c, d, rfl, -, ⟨y, -, rfl⟩, f, g, rfl, -, ⟨s, rfl⟩, rfl⟩
    exact ⟨⟨x, y, s⟩, trivial, rfl⟩)
theorem opWaits : Opens enc Try.prog w sp held 22 1 fun ps => ∃ l : List Wt, l.length * 24 ≤ reachBytes ∧ ps = [.list (l.map cW)] :=
  (opens_slice (by kernel_rfl) (by kernel_rfl) (by omega) opWait).mono (by
    rintro ps ⟨rows, hm, hr, rfl⟩
    obtain ⟨l, h1, rfl⟩ := rows_map hr
    rw [show Try.prog.bytesOf 48 = 24 by kernel_rfl] at hm
    exact ⟨l, by simpa using hm, rfl⟩)
theorem opInts : Opens enc Try.prog w sp held 23 1 fun ps => ∃ l : List Int, l.length * 8 ≤ reachBytes ∧ (∀ n ∈ l, I64 n) ∧ ps = [.list (l.map cN)] :=
  (opens_slice (n := 1) (R := fun ps => ∃ n : Int, I64 n ∧ ps = cN n) (by kernel_rfl) (by kernel_rfl) (by omega) opInt).mono (by
    rintro ps ⟨rows, hm, hr, rfl⟩
    obtain ⟨l, h1, rfl⟩ := rows_map hr
    rw [show Try.prog.bytesOf 3 = 8 by kernel_rfl] at hm
    exact ⟨l, by simpa using hm, h1, rfl⟩)
theorem undServer : Try.prog.underlying 25 = some (.struct (Try.prog.fieldsOf 25)) := by kernel_rfl
/-- a server that came from memory -/
def goodK (s : KS) : Prop := (s.ws.length * 24 ≤ 140737488355328 ∧ s.ds.length * 8 ≤ 140737488355328) ∧ ownK s = s
theorem opServer : Opens enc Try.prog w sp held 25 3 fun ps => ∃ s : KS, goodK s ∧ ps = rK s :=
  (opens_struct [(3, 1, _), (22, 1, _), (23, 1, _)] undServer (by kernel_rfl) (by kernel_rfl) rfl ⟨opInt, opWaits, opInts, trivial⟩).mono (by
    rintro ps ⟨a, b, rfl, -, ⟨x, hx, rfl⟩, c, d, rfl, -, ⟨y, hy, rfl⟩, k, q, rfl, -, ⟨l, hl, -, rfl⟩, rfl⟩
    simp only [reachBytes] at hy hl
    exact ⟨⟨1, 1, x, y, l⟩, ⟨⟨by simp only; omega, by simp only; omega⟩, rfl⟩, rfl⟩)
theorem opServers : Opens enc Try.prog w sp held 26 1 fun ps => ∃ l : List KS, l.length ≤ reachBytes ∧ (∀ s ∈ l, goodK s) ∧ ps = [.list (l.map rK)] :=
  (opens_slice (by kernel_rfl) (by kernel_rfl) (by omega) opServer).mono (by
    rintro ps ⟨rows, hm, hr, rfl⟩
    obtain ⟨l, h1, rfl⟩ := rows_map hr
    have hb : 1 ≤ Try.prog.bytesOf 25 := by decide +kernel
    refine ⟨l, ?_, h1, rfl⟩
    have h2 : (l.map rK).length * 1 ≤ (l.map rK).length * Try.prog.bytesOf 25 := Nat.mul_le_mul_left _ hb
    rw [List.length_map] at h2 hm
    omega)
set_option maxRecDepth 100000 in
theorem argServer {b0 : Nat} {v : Value} {d : DataW H} {p : List MemPlace} (hv : Value.okWide Try.prog w .any b0 25 v) (h : DataW.Trod enc Try.prog w 0 sp held 25 v d p) (hw : ∀ k ∈ d.weights Try.prog 25, k ≤ reachBytes) :
    ∃ s : KS, goodK s ∧ Arg w (.agg (rK s)) v := by
  obtain ⟨cs, rfl, -⟩ := okWide_struct undServer hv
  obtain ⟨ps, ⟨c, h1, rfl⟩, h4⟩ := open_agg opServer ⟨_, rfl⟩ h hw (Stab (lawCx w) (lawCx w).C0 [] w) (fun _ _ h => lawStab h) _
  exact ⟨c, h1, h4⟩
set_option maxRecDepth 100000 in
theorem argServers {b0 : Nat} {v : Value} {d : DataW H} {p : List MemPlace} (hv : Value.okWide Try.prog w .any b0 26 v) (h : DataW.Trod enc Try.prog w 0 sp held 26 v d p) (hw : ∀ k ∈ d.weights Try.prog 26, k ≤ reachBytes) :
    ∃ l : List KS, (∀ s ∈ l, goodK s) ∧ Arg w (.list (l.map rK)) v := by
  obtain ⟨a, n, c, rfl⟩ := okWide_slice (e := 25) (by kernel_rfl) hv
  obtain ⟨q, ⟨l, h1, h2, hq⟩, h3⟩ := open_cell opServers (by simp) h hw
  simp at hq; subst hq
  exact ⟨l, h2, .of h3⟩
set_option maxRecDepth 100000 in
theorem argInts {b0 : Nat} {v : Value} {d : DataW H} {p : List MemPlace} (hv : Value.okWide Try.prog w .any b0 23 v) (h : DataW.Trod enc Try.prog w 0 sp held 23 v d p) (hw : ∀ k ∈ d.weights Try.prog 23, k ≤ reachBytes) :
    ∃ l : List Int, l.length * 8 ≤ reachBytes ∧ (∀ n ∈ l, I64 n) ∧ Arg w (.list (l.map cN)) v := by
  obtain ⟨a, n, c, rfl⟩ := okWide_slice (e := 3) (by kernel_rfl) hv
  obtain ⟨q, ⟨l, h1, h2, hq⟩, h3⟩ := open_cell opInts (by simp) h hw
  simp at hq; subst hq
  exact ⟨l, h1, h2, .of h3⟩
end
end Go.Proofs.Ytocglfkflpkafaa
