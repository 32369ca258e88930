/- Joined texts of this claim: V14 L27 Open Op1 Op2 Op4 Op7 Op8. -/
import Derived.Test.YtkgobnnkcnnfhaaGreatKF
import Derived.Test.YtkgobnnkcnnfhaaGreatProg
import Derived.Test.YtkgobnnkcnnfhaaGreatKB
import Derived.ProofKit
import Derived.OpenShut
import Derived.Carry
import Derived.SizedLaws
import Derived.Test.YtkgobnnkcnnfhaaGreatKC
import Derived.Test.YtkgobnnkcnnfhaaGreatKD
import Derived.Test.YtkgobnnkcnnfhaaGreatKE
set_option linter.unusedSimpArgs false
set_option linter.unusedVariables false
set_option linter.unusedSectionVars false
/- Worlds, in the law text's words: DoOf: a contract. -/
namespace Go.Proofs.YtkgobnnkcnnfhaaGreat
set_option linter.unusedSimpArgs false
set_option linter.unusedVariables false
open Go.RowKit
theorem txt_nil (t : ByteArray) : decide (t = ⟨#[]⟩) = decide (t.size = 0) := by
 rw [Bool.eq_iff_iff, decide_eq_true_eq, decide_eq_true_eq]
 constructor
 ·
  intro h; rw [h]; rfl
 ·
  intro h; exact ByteArray.ext (Array.eq_empty_of_size_eq_zero h)
theorem wthn01 (i : Int) : wthn i 0 1 = decide (i = 0 ∨ i = 1) := by
 cases h : wthn i 0 1
 ·
  symm; rw [decide_eq_false_iff_not]; intro q
  have : wthn i 0 1 = true := wthn_iff.2 (by omega)
  rw [h] at this; cases this
 ·
  rw [wthn_iff] at h; symm; rw [decide_eq_true_eq]; omega
theorem doOf_kind (w : Wo) (k i n c : Int) (t : ByteArray) (hk : k < 1 ∨ 5 < k) : Meets Tryz.prog 7 [.agg (cWo w), .agg (cAct k i n c t)] [] (.tup [.agg cWoN, .int .i64 7]) [] := by
 refine Meets.of_walk Tryz.func7 Tryz.ntmps7 low7 res7 (by simp) fun x hx => ?_
 simp only [go_sem, Nat.reduceLT, Nat.reduceAdd, Nat.reduceEqDiff, Nat.reduceLeDiff, Nat.reduceSub, Nat.reduceMul, Int.reduceEq, reduceIte, L7, R7, cWo, cWd, cAct]
 refine ops_call (.pureE (between_meets k 1 5) (by simp [go_sem, Nat.reduceLT, Nat.reduceAdd, Nat.reduceEqDiff, Nat.reduceLeDiff, Nat.reduceSub, Nat.reduceMul, Int.reduceEq, reduceIte])) ?_
 have e : wthn k 1 5 = false := by
  cases h : wthn k 1 5
  ·
   rfl
  ·
   rw [wthn_iff] at h; omega
 rw [e]
 simp only [go_sem, Nat.reduceLT, Nat.reduceAdd, Nat.reduceEqDiff, Nat.reduceLeDiff, Nat.reduceSub, Nat.reduceMul, Int.reduceEq, reduceIte]
 refine ret_pure hx ?_
 simp [go_sem, Nat.reduceLT, Nat.reduceAdd, Nat.reduceEqDiff, Nat.reduceLeDiff, Nat.reduceSub, Nat.reduceMul, Int.reduceEq, reduceIte, L7, R7, cWoN]
theorem doOf_extra (w : Wo) (k i n c : Int) (t : ByteArray) (hk : ¬ (k < 1 ∨ 5 < k)) (he : extraB k n c t = true) : Meets Tryz.prog 7 [.agg (cWo w), .agg (cAct k i n c t)] [] (.tup [.agg cWoN, .int .i64 1]) [] := by
 refine Meets.of_walk Tryz.func7 Tryz.ntmps7 low7 res7 (by simp) fun x hx => ?_
 simp only [go_sem, Nat.reduceLT, Nat.reduceAdd, Nat.reduceEqDiff, Nat.reduceLeDiff, Nat.reduceSub, Nat.reduceMul, Int.reduceEq, reduceIte, L7, R7, cWo, cWd, cAct]
 refine ops_call (.pureE (between_meets k 1 5) (by simp [go_sem, Nat.reduceLT, Nat.reduceAdd, Nat.reduceEqDiff, Nat.reduceLeDiff, Nat.reduceSub, Nat.reduceMul, Int.reduceEq, reduceIte])) ?_
 have e : wthn k 1 5 = true := wthn_iff.2 (by omega)
 rw [e]
 by_cases k1 : k = 1
 ·
  subst k1
  have n0 : ¬ n = 0 := by simpa [extraB] using he
  simp only [go_sem, Nat.reduceLT, Nat.reduceAdd, Nat.reduceEqDiff, Nat.reduceLeDiff, Nat.reduceSub, Nat.reduceMul, Int.reduceEq, reduceIte, Int.ofNat_zero, Int.natCast_one, Int.cast_ofNat_Int, Int.reduceLT, Int.reduceLE, Int.reduceToNat, Nat.reduceLT, Int.toNat_zero, Int.natCast_zero, Int.le_refl, Int.lt_irrefl, Int.reduceAdd, frz, false_or, or_true, cAct, n0]
  refine ret_pure hx ?_
  simp [go_sem, Nat.reduceLT, Nat.reduceAdd, Nat.reduceEqDiff, Nat.reduceLeDiff, Nat.reduceSub, Nat.reduceMul, Int.reduceEq, reduceIte, L7, R7, cWoN]
 ·
  by_cases c0 : c = 0
  ·
   by_cases t0 : t.size = 0
   ·
    have k5 : k = 5 ∧ ¬ n = 0 := by simpa [extraB, k1, c0, t0] using he
    obtain ⟨rfl, n0⟩ := k5
    simp only [go_sem, Nat.reduceLT, Nat.reduceAdd, Nat.reduceEqDiff, Nat.reduceLeDiff, Nat.reduceSub, Nat.reduceMul, Int.reduceEq, reduceIte, Int.ofNat_zero, Int.natCast_one, Int.cast_ofNat_Int, Int.reduceLT, Int.reduceLE, Int.reduceToNat, Nat.reduceLT, Int.toNat_zero, Int.natCast_zero, Int.le_refl, Int.lt_irrefl, Int.reduceAdd, frz, false_or, or_true, cAct, c0, txt_nil, t0, n0]
    refine ret_pure hx ?_
    simp [go_sem, Nat.reduceLT, Nat.reduceAdd, Nat.reduceEqDiff, Nat.reduceLeDiff, Nat.reduceSub, Nat.reduceMul, Int.reduceEq, reduceIte, L7, R7, cWoN]
   ·
    simp only [go_sem, Nat.reduceLT, Nat.reduceAdd, Nat.reduceEqDiff, Nat.reduceLeDiff, Nat.reduceSub, Nat.reduceMul, Int.reduceEq, reduceIte, Int.ofNat_zero, Int.natCast_one, Int.cast_ofNat_Int, Int.reduceLT, Int.reduceLE, Int.reduceToNat, Nat.reduceLT, Int.toNat_zero, Int.natCast_zero, Int.le_refl, Int.lt_irrefl, Int.reduceAdd, frz, false_or, or_true, cAct, k1, c0, txt_nil, t0]
    refine ret_pure hx ?_
    simp [go_sem, Nat.reduceLT, Nat.reduceAdd, Nat.reduceEqDiff, Nat.reduceLeDiff, Nat.reduceSub, Nat.reduceMul, Int.reduceEq, reduceIte, L7, R7, cWoN]
  ·
   simp only [go_sem, Nat.reduceLT, Nat.reduceAdd, Nat.reduceEqDiff, Nat.reduceLeDiff, Nat.reduceSub, Nat.reduceMul, Int.reduceEq, reduceIte, Int.ofNat_zero, Int.natCast_one, Int.cast_ofNat_Int, Int.reduceLT, Int.reduceLE, Int.reduceToNat, Nat.reduceLT, Int.toNat_zero, Int.natCast_zero, Int.le_refl, Int.lt_irrefl, Int.reduceAdd, frz, false_or, or_true, cAct, k1, c0]
   refine ret_pure hx ?_
   simp [go_sem, Nat.reduceLT, Nat.reduceAdd, Nat.reduceEqDiff, Nat.reduceLeDiff, Nat.reduceSub, Nat.reduceMul, Int.reduceEq, reduceIte, L7, R7, cWoN]
theorem doOf_at (w : Wo) (k i n c : Int) (t : ByteArray) (hk : ¬ (k < 1 ∨ 5 < k)) (he : ¬ extraB k n c t = true) (hi : ¬ (i = 0 ∨ i = 1)) : Meets Tryz.prog 7 [.agg (cWo w), .agg (cAct k i n c t)] [] (.tup [.agg cWoN, .int .i64 3]) [] := by
 refine Meets.of_walk Tryz.func7 Tryz.ntmps7 low7 res7 (by simp) fun x hx => ?_
 simp only [go_sem, Nat.reduceLT, Nat.reduceAdd, Nat.reduceEqDiff, Nat.reduceLeDiff, Nat.reduceSub, Nat.reduceMul, Int.reduceEq, reduceIte, L7, R7, cWo, cWd, cAct]
 refine ops_call (.pureE (between_meets k 1 5) (by simp [go_sem, Nat.reduceLT, Nat.reduceAdd, Nat.reduceEqDiff, Nat.reduceLeDiff, Nat.reduceSub, Nat.reduceMul, Int.reduceEq, reduceIte])) ?_
 have e : wthn k 1 5 = true := wthn_iff.2 (by omega)
 rw [e]
 by_cases k1 : k = 1
 ·
  subst k1
  have n0 : n = 0 := by simpa [extraB] using he
  simp only [go_sem, Nat.reduceLT, Nat.reduceAdd, Nat.reduceEqDiff, Nat.reduceLeDiff, Nat.reduceSub, Nat.reduceMul, Int.reduceEq, reduceIte, Int.ofNat_zero, Int.natCast_one, Int.cast_ofNat_Int, Int.reduceLT, Int.reduceLE, Int.reduceToNat, Nat.reduceLT, Int.toNat_zero, Int.natCast_zero, Int.le_refl, Int.lt_irrefl, Int.reduceAdd, frz, false_or, or_true, cAct, n0]
  refine ops_call (.pureE (between_meets i 0 1) (by simp [go_sem, Nat.reduceLT, Nat.reduceAdd, Nat.reduceEqDiff, Nat.reduceLeDiff, Nat.reduceSub, Nat.reduceMul, Int.reduceEq, reduceIte])) ?_
  rw [wthn01, decide_eq_false hi]
  simp only [go_sem, Nat.reduceLT, Nat.reduceAdd, Nat.reduceEqDiff, Nat.reduceLeDiff, Nat.reduceSub, Nat.reduceMul, Int.reduceEq, reduceIte]
  refine ret_pure hx ?_
  simp [go_sem, Nat.reduceLT, Nat.reduceAdd, Nat.reduceEqDiff, Nat.reduceLeDiff, Nat.reduceSub, Nat.reduceMul, Int.reduceEq, reduceIte, L7, R7, cWoN]
 ·
  have c0 : c = 0 := by
   by_cases c0 : c = 0
   ·
    exact c0
   ·
    exact (he (by simp [extraB, k1, c0])).elim
  have t0 : t.size = 0 := by
   by_cases t0 : t.size = 0
   ·
    exact t0
   ·
    exact (he (by simp [extraB, k1, t0])).elim
  by_cases k5 : k = 5
  ·
   subst k5
   have n0 : n = 0 := by simpa [extraB, c0, t0] using he
   simp only [go_sem, Nat.reduceLT, Nat.reduceAdd, Nat.reduceEqDiff, Nat.reduceLeDiff, Nat.reduceSub, Nat.reduceMul, Int.reduceEq, reduceIte, Int.ofNat_zero, Int.natCast_one, Int.cast_ofNat_Int, Int.reduceLT, Int.reduceLE, Int.reduceToNat, Nat.reduceLT, Int.toNat_zero, Int.natCast_zero, Int.le_refl, Int.lt_irrefl, Int.reduceAdd, frz, false_or, or_true, cAct, c0, txt_nil, t0, n0]
   refine ops_call (.pureE (between_meets i 0 1) (by simp [go_sem, Nat.reduceLT, Nat.reduceAdd, Nat.reduceEqDiff, Nat.reduceLeDiff, Nat.reduceSub, Nat.reduceMul, Int.reduceEq, reduceIte])) ?_
   rw [wthn01, decide_eq_false hi]
   simp only [go_sem, Nat.reduceLT, Nat.reduceAdd, Nat.reduceEqDiff, Nat.reduceLeDiff, Nat.reduceSub, Nat.reduceMul, Int.reduceEq, reduceIte]
   refine ret_pure hx ?_
   simp [go_sem, Nat.reduceLT, Nat.reduceAdd, Nat.reduceEqDiff, Nat.reduceLeDiff, Nat.reduceSub, Nat.reduceMul, Int.reduceEq, reduceIte, L7, R7, cWoN]
  ·
   simp only [go_sem, Nat.reduceLT, Nat.reduceAdd, Nat.reduceEqDiff, Nat.reduceLeDiff, Nat.reduceSub, Nat.reduceMul, Int.reduceEq, reduceIte, Int.ofNat_zero, Int.natCast_one, Int.cast_ofNat_Int, Int.reduceLT, Int.reduceLE, Int.reduceToNat, Nat.reduceLT, Int.toNat_zero, Int.natCast_zero, Int.le_refl, Int.lt_irrefl, Int.reduceAdd, frz, false_or, or_true, cAct, k1, k5, c0, txt_nil, t0]
   refine ops_call (.pureE (between_meets i 0 1) (by simp [go_sem, Nat.reduceLT, Nat.reduceAdd, Nat.reduceEqDiff, Nat.reduceLeDiff, Nat.reduceSub, Nat.reduceMul, Int.reduceEq, reduceIte])) ?_
   rw [wthn01, decide_eq_false hi]
   simp only [go_sem, Nat.reduceLT, Nat.reduceAdd, Nat.reduceEqDiff, Nat.reduceLeDiff, Nat.reduceSub, Nat.reduceMul, Int.reduceEq, reduceIte]
   refine ret_pure hx ?_
   simp [go_sem, Nat.reduceLT, Nat.reduceAdd, Nat.reduceEqDiff, Nat.reduceLeDiff, Nat.reduceSub, Nat.reduceMul, Int.reduceEq, reduceIte, L7, R7, cWoN]
theorem doOf_5 (w : Wo) (h : WoOk w) (i : Int) (t : ByteArray) (t0 : t.size = 0) (hi : i = 0 ∨ i = 1) : Meets Tryz.prog 7 [.agg (cWo w), .agg (cAct 5 i 0 0 t)] [] (.tup [.agg (cWo (w.setS i (allW w i).2)), .int .i64 0]) [] := by
 have hall := allAt_meets w i hi (h.si hi) (h.log (other_of hi))
 generalize w.setS i (allW w i).2 = w2 at *
 rcases hi with rfl | rfl
 ·
  skip
  refine Meets.of_walk Tryz.func7 Tryz.ntmps7 low7 res7 (by simp) fun x hx => ?_
  simp only [go_sem, Nat.reduceLT, Nat.reduceAdd, Nat.reduceEqDiff, Nat.reduceLeDiff, Nat.reduceSub, Nat.reduceMul, Int.reduceEq, reduceIte, L7, R7, cWo, cWd, cAct]
  refine ops_call (.pureE (between_meets 5 1 5) (by simp [go_sem, Nat.reduceLT, Nat.reduceAdd, Nat.reduceEqDiff, Nat.reduceLeDiff, Nat.reduceSub, Nat.reduceMul, Int.reduceEq, reduceIte])) ?_
  rw [show wthn 5 1 5 = true from by decide]
  simp only [go_sem, Nat.reduceLT, Nat.reduceAdd, Nat.reduceEqDiff, Nat.reduceLeDiff, Nat.reduceSub, Nat.reduceMul, Int.reduceEq, reduceIte, Int.ofNat_zero, Int.natCast_one, Int.cast_ofNat_Int, Int.reduceLT, Int.reduceLE, Int.reduceToNat, Nat.reduceLT, Int.toNat_zero, Int.natCast_zero, Int.le_refl, Int.lt_irrefl, Int.reduceAdd, frz, false_or, or_true, cAct, txt_nil, t0]
  refine ops_call (.pureE (between_meets 0 0 1) (by simp [go_sem, Nat.reduceLT, Nat.reduceAdd, Nat.reduceEqDiff, Nat.reduceLeDiff, Nat.reduceSub, Nat.reduceMul, Int.reduceEq, reduceIte])) ?_
  rw [show wthn 0 0 1 = true from by decide]
  simp only [go_sem, Nat.reduceLT, Nat.reduceAdd, Nat.reduceEqDiff, Nat.reduceLeDiff, Nat.reduceSub, Nat.reduceMul, Int.reduceEq, reduceIte, Int.ofNat_zero, Int.natCast_one, Int.cast_ofNat_Int, Int.reduceLT, Int.reduceLE, Int.reduceToNat, Nat.reduceLT, Int.toNat_zero, Int.natCast_zero, Int.le_refl, Int.lt_irrefl, Int.reduceAdd, frz, false_or, or_true, cAct, cWo, cWd]
  refine ops_call (.pureE hall (by simp [go_sem, Nat.reduceLT, Nat.reduceAdd, Nat.reduceEqDiff, Nat.reduceLeDiff, Nat.reduceSub, Nat.reduceMul, Int.reduceEq, reduceIte, cWo, cWd])) ?_
  simp only [go_sem, Nat.reduceLT, Nat.reduceAdd, Nat.reduceEqDiff, Nat.reduceLeDiff, Nat.reduceSub, Nat.reduceMul, Int.reduceEq, reduceIte, Int.ofNat_zero, Int.natCast_one, Int.cast_ofNat_Int, Int.reduceLT, Int.reduceLE, Int.reduceToNat, Nat.reduceLT, Int.toNat_zero, Int.natCast_zero, Int.le_refl, Int.lt_irrefl, Int.reduceAdd, frz, false_or, or_true, cWo, cWd]
  refine ret_pure hx ?_
  simp [go_sem, Nat.reduceLT, Nat.reduceAdd, Nat.reduceEqDiff, Nat.reduceLeDiff, Nat.reduceSub, Nat.reduceMul, Int.reduceEq, reduceIte, L7, R7]
 ·
  skip
  refine Meets.of_walk Tryz.func7 Tryz.ntmps7 low7 res7 (by simp) fun x hx => ?_
  simp only [go_sem, Nat.reduceLT, Nat.reduceAdd, Nat.reduceEqDiff, Nat.reduceLeDiff, Nat.reduceSub, Nat.reduceMul, Int.reduceEq, reduceIte, L7, R7, cWo, cWd, cAct]
  refine ops_call (.pureE (between_meets 5 1 5) (by simp [go_sem, Nat.reduceLT, Nat.reduceAdd, Nat.reduceEqDiff, Nat.reduceLeDiff, Nat.reduceSub, Nat.reduceMul, Int.reduceEq, reduceIte])) ?_
  rw [show wthn 5 1 5 = true from by decide]
  simp only [go_sem, Nat.reduceLT, Nat.reduceAdd, Nat.reduceEqDiff, Nat.reduceLeDiff, Nat.reduceSub, Nat.reduceMul, Int.reduceEq, reduceIte, Int.ofNat_zero, Int.natCast_one, Int.cast_ofNat_Int, Int.reduceLT, Int.reduceLE, Int.reduceToNat, Nat.reduceLT, Int.toNat_zero, Int.natCast_zero, Int.le_refl, Int.lt_irrefl, Int.reduceAdd, frz, false_or, or_true, cAct, txt_nil, t0]
  refine ops_call (.pureE (between_meets 1 0 1) (by simp [go_sem, Nat.reduceLT, Nat.reduceAdd, Nat.reduceEqDiff, Nat.reduceLeDiff, Nat.reduceSub, Nat.reduceMul, Int.reduceEq, reduceIte])) ?_
  rw [show wthn 1 0 1 = true from by decide]
  simp only [go_sem, Nat.reduceLT, Nat.reduceAdd, Nat.reduceEqDiff, Nat.reduceLeDiff, Nat.reduceSub, Nat.reduceMul, Int.reduceEq, reduceIte, Int.ofNat_zero, Int.natCast_one, Int.cast_ofNat_Int, Int.reduceLT, Int.reduceLE, Int.reduceToNat, Nat.reduceLT, Int.toNat_zero, Int.natCast_zero, Int.le_refl, Int.lt_irrefl, Int.reduceAdd, frz, false_or, or_true, cAct, cWo, cWd]
  refine ops_call (.pureE hall (by simp [go_sem, Nat.reduceLT, Nat.reduceAdd, Nat.reduceEqDiff, Nat.reduceLeDiff, Nat.reduceSub, Nat.reduceMul, Int.reduceEq, reduceIte, cWo, cWd])) ?_
  simp only [go_sem, Nat.reduceLT, Nat.reduceAdd, Nat.reduceEqDiff, Nat.reduceLeDiff, Nat.reduceSub, Nat.reduceMul, Int.reduceEq, reduceIte, Int.ofNat_zero, Int.natCast_one, Int.cast_ofNat_Int, Int.reduceLT, Int.reduceLE, Int.reduceToNat, Nat.reduceLT, Int.toNat_zero, Int.natCast_zero, Int.le_refl, Int.lt_irrefl, Int.reduceAdd, frz, false_or, or_true, cWo, cWd]
  refine ret_pure hx ?_
  simp [go_sem, Nat.reduceLT, Nat.reduceAdd, Nat.reduceEqDiff, Nat.reduceLeDiff, Nat.reduceSub, Nat.reduceMul, Int.reduceEq, reduceIte, L7, R7]
set_option maxHeartbeats 4000000 in
theorem doOf_1 (w : Wo) (h : WoOk w) (i c : Int) (t : ByteArray) (hi : i = 0 ∨ i = 1) : Meets Tryz.prog 7 [.agg (cWo w), .agg (cAct 1 i 0 c t)] []
    (.tup [.agg (if apErr i (w.log i) c t = 0 then cWo (sendW (w.setS i (settled (w.log i ++ [apE i (w.log i) c t]) (w.wts i))) (1 - i) (apE i (w.log i) c t)) else cWoN), .int .i64 (apErr i (w.log i) c t)]) [] := by
  obtain ⟨a1, -, -, -, a5, -, a7, a8⟩ := si_pre (h.si hi)
  have la := h.la
  have lb := h.lb
  have hap := appendOf_meets i (w.log i) (w.wts i) c t hi a7 a8 a5
  obtain ⟨R, hR⟩ : ∃ R, (if apErr i (w.log i) c t = 0 then cWo (sendW (w.setS i (settled (w.log i ++ [apE i (w.log i) c t]) (w.wts i))) (1 - i) (apE i (w.log i) c t)) else cWoN) = R := ⟨_, rfl⟩
  rw [hR]
  rcases hi with rfl | rfl
  · have hap : Meets Tryz.prog 23 [.agg (cSi 0 w.p w.u), .int .i64 c, .str t] [] (.tup [.agg (cSi3 (apSi 0 w.p w.u c t)), .agg (cE (apEn 0 w.p c t)), .int .i64 (apErr 0 w.p c t)]) [] := hap
    refine Meets.of_walk Tryz.func7 Tryz.ntmps7 low7 res7 (by simp) fun x hx => ?_
    simp only [go_sem, Nat.reduceLT, Nat.reduceAdd, Nat.reduceEqDiff, Nat.reduceLeDiff, Nat.reduceSub, Nat.reduceMul, Int.reduceEq, reduceIte, L7, R7, cWo, cWd, cAct]
    refine ops_call (.pureE (between_meets 1 1 5) (by simp [go_sem, Nat.reduceLT, Nat.reduceAdd, Nat.reduceEqDiff, Nat.reduceLeDiff, Nat.reduceSub, Nat.reduceMul, Int.reduceEq, reduceIte])) ?_
    rw [show wthn 1 1 5 = true from by decide]
    simp only [go_sem, Nat.reduceLT, Nat.reduceAdd, Nat.reduceEqDiff, Nat.reduceLeDiff, Nat.reduceSub, Nat.reduceMul, Int.reduceEq, reduceIte, Int.ofNat_zero, Int.natCast_one, Int.cast_ofNat_Int, Int.reduceLT, Int.reduceLE, Int.reduceToNat, Nat.reduceLT, Int.toNat_zero, Int.natCast_zero, Int.le_refl, Int.lt_irrefl, Int.reduceAdd, frz, false_or, or_true, cAct, txt_nil, Int.ofNat_zero, Int.natCast_one, Int.cast_ofNat_Int, Int.reduceLT, Int.reduceLE, Int.reduceToNat, Nat.reduceLT, Int.toNat_zero, Int.natCast_zero, Int.le_refl, Int.lt_irrefl, Int.reduceAdd, frz, false_or, or_true]
    refine ops_call (.pureE (between_meets 0 0 1) (by simp [go_sem, Nat.reduceLT, Nat.reduceAdd, Nat.reduceEqDiff, Nat.reduceLeDiff, Nat.reduceSub, Nat.reduceMul, Int.reduceEq, reduceIte])) ?_
    rw [show wthn 0 0 1 = true from by decide]
    simp only [go_sem, Nat.reduceLT, Nat.reduceAdd, Nat.reduceEqDiff, Nat.reduceLeDiff, Nat.reduceSub, Nat.reduceMul, Int.reduceEq, reduceIte, Int.ofNat_zero, Int.natCast_one, Int.cast_ofNat_Int, Int.reduceLT, Int.reduceLE, Int.reduceToNat, Nat.reduceLT, Int.toNat_zero, Int.natCast_zero, Int.le_refl, Int.lt_irrefl, Int.reduceAdd, frz, false_or, or_true, cAct, cWo, cWd]
    refine ops_call (.heapE [] (r' := .agg [.arr 3 2, .arr 4 2]) (H' := [.box (cWo w), .box (cAct 1 0 0 c t), .box [.nilsl, .nilsl]] ++ hCW w w) (copyWorld_meets w) (by simp) (by simp) (by simp [go_sem, Nat.reduceLT, Nat.reduceAdd, Nat.reduceEqDiff, Nat.reduceLeDiff, Nat.reduceSub, Nat.reduceMul, Int.reduceEq, reduceIte, cWo, cWd]) rfl rfl rfl) ?_
    simp only [go_sem, Nat.reduceLT, Nat.reduceAdd, Nat.reduceEqDiff, Nat.reduceLeDiff, Nat.reduceSub, Nat.reduceMul, Int.reduceEq, reduceIte, Int.ofNat_zero, Int.natCast_one, Int.cast_ofNat_Int, Int.reduceLT, Int.reduceLE, Int.reduceToNat, Nat.reduceLT, Int.toNat_zero, Int.natCast_zero, Int.le_refl, Int.lt_irrefl, Int.reduceAdd, frz, false_or, or_true, cAct, hCW, cWo, cWd, Wo.ss, Wo.ys, cYs, cSi3, cSi, List.map_cons, List.map_nil, List.cons_append, List.nil_append]
    have k10 : IntKind.i64.wrap (1 - 0) = 1 := by decide
    by_cases h0 : apErr 0 w.p c t = 0
    · have ea : apSi 0 w.p w.u c t = (0, settled (w.p ++ [apE 0 w.p c t]) w.u) := by rw [apSi, if_pos h0]
      have eb : apEn 0 w.p c t = apE 0 w.p c t := by rw [apEn, if_pos h0]
      rw [ea, eb, h0] at hap
      have hfin : (if apErr 0 (w.log 0) c t = 0 then cWo (sendW (w.setS 0 (settled (w.log 0 ++ [apE 0 (w.log 0) c t]) (w.wts 0))) (1 - 0) (apE 0 (w.log 0) c t)) else cWoN) = cWo (if w.b.length = 30 then w.setS 0 (settled (w.p ++ [apE 0 w.p c t]) w.u) else (w.setS 0 (settled (w.p ++ [apE 0 w.p c t]) w.u)).setY 1 (w.b ++ [apE 0 w.p c t])) := by
        rw [if_pos (show apErr 0 (w.log 0) c t = 0 from h0)]; rfl
      rw [hfin] at hR
      subst hR
      rw [show apErr 0 (w.log 0) c t = 0 from h0]
      clear hfin ea eb h0
      generalize apE 0 w.p c t = e at *
      generalize settled (w.p ++ [e]) w.u = PU at *
      obtain ⟨P, U⟩ := PU
      refine ops_call (.pureE hap (by simp [go_sem, Nat.reduceLT, Nat.reduceAdd, Nat.reduceEqDiff, Nat.reduceLeDiff, Nat.reduceSub, Nat.reduceMul, Int.reduceEq, reduceIte, cSi])) ?_
      simp only [go_sem, Nat.reduceLT, Nat.reduceAdd, Nat.reduceEqDiff, Nat.reduceLeDiff, Nat.reduceSub, Nat.reduceMul, Int.reduceEq, reduceIte, Int.ofNat_zero, Int.natCast_one, Int.cast_ofNat_Int, Int.reduceLT, Int.reduceLE, Int.reduceToNat, Nat.reduceLT, Int.toNat_zero, Int.natCast_zero, Int.le_refl, Int.lt_irrefl, Int.reduceAdd, frz, false_or, or_true, cSi3, cSi, cE, cAct, k10]
      repeat refine ⟨rfl, ?_⟩
      by_cases hl : (w.b.length : Int) < 30
      · rw [if_neg (by omega)]
        simp only [go_sem, Nat.reduceLT, Nat.reduceAdd, Nat.reduceEqDiff, Nat.reduceLeDiff, Nat.reduceSub, Nat.reduceMul, Int.reduceEq, reduceIte, Int.ofNat_zero, Int.natCast_one, Int.cast_ofNat_Int, Int.reduceLT, Int.reduceLE, Int.reduceToNat, Nat.reduceLT, Int.toNat_zero, Int.natCast_zero, Int.le_refl, Int.lt_irrefl, Int.reduceAdd, frz, false_or, or_true, cSi3, cSi, cE, cAct, k10, hl, List.length_map]
        rw [app_arr rfl rfl (cE_row w.b) (by simp; omega)]
        simp only [go_sem, Nat.reduceLT, Nat.reduceAdd, Nat.reduceEqDiff, Nat.reduceLeDiff, Nat.reduceSub, Nat.reduceMul, Int.reduceEq, reduceIte, Int.ofNat_zero, Int.natCast_one, Int.cast_ofNat_Int, Int.reduceLT, Int.reduceLE, Int.reduceToNat, Nat.reduceLT, Int.toNat_zero, Int.natCast_zero, Int.le_refl, Int.lt_irrefl, Int.reduceAdd, frz, false_or, or_true, cE]
        rw [app_arr rfl rfl (by simp) (by simp; omega)]
        have hce : List.map cE w.b ++ [[PV.int .i64 e.id.r, .int .i64 e.id.n, .int .i64 e.c, .str e.t, .list (e.ls.map cId)]] = (w.b ++ [e]).map cE := by simp [cE]
        simp only [go_sem, Nat.reduceLT, Nat.reduceAdd, Nat.reduceEqDiff, Nat.reduceLeDiff, Nat.reduceSub, Nat.reduceMul, Int.reduceEq, reduceIte, Int.ofNat_zero, Int.natCast_one, Int.cast_ofNat_Int, Int.reduceLT, Int.reduceLE, Int.reduceToNat, Nat.reduceLT, Int.toNat_zero, Int.natCast_zero, Int.le_refl, Int.lt_irrefl, Int.reduceAdd, frz, false_or, or_true, hce]
        repeat refine ⟨rfl, ?_⟩
        try simp only [go_sem, Nat.reduceLT, Nat.reduceAdd, Nat.reduceEqDiff, Nat.reduceLeDiff, Nat.reduceSub, Nat.reduceMul, Int.reduceEq, reduceIte, Int.ofNat_zero, Int.natCast_one, Int.cast_ofNat_Int, Int.reduceLT, Int.reduceLE, Int.reduceToNat, Nat.reduceLT, Int.toNat_zero, Int.natCast_zero, Int.le_refl, Int.lt_irrefl, Int.reduceAdd, frz, false_or, or_true]
        refine ret_weak (weak_shut 8 rfl) ?_
        refine ret_weak (weak_pu 4 rfl rfl (by simp [frz, PV.isPure])) ?_
        refine ret_weak (weak_shut 3 rfl) ?_
        refine ret_pure hx ?_
        simp [go_sem, Nat.reduceLT, Nat.reduceAdd, Nat.reduceEqDiff, Nat.reduceLeDiff, Nat.reduceSub, Nat.reduceMul, Int.reduceEq, reduceIte, L7, R7, cWo, cWd, cYs, Wo.ys, Wo.ss, cSi3, cSi, frzAt, pos, frz]
        first | rfl | simp [Wo.setS, Wo.setY, Wo.way]
      · rw [if_pos (by omega)]
        simp only [go_sem, Nat.reduceLT, Nat.reduceAdd, Nat.reduceEqDiff, Nat.reduceLeDiff, Nat.reduceSub, Nat.reduceMul, Int.reduceEq, reduceIte, Int.ofNat_zero, Int.natCast_one, Int.cast_ofNat_Int, Int.reduceLT, Int.reduceLE, Int.reduceToNat, Nat.reduceLT, Int.toNat_zero, Int.natCast_zero, Int.le_refl, Int.lt_irrefl, Int.reduceAdd, frz, false_or, or_true, cSi3, cSi, cE, cAct, k10, hl, List.length_map]
        refine ret_weak (weak_pu 4 rfl rfl (by simp [frz, PV.isPure])) ?_
        refine ret_weak (weak_shut 3 rfl) ?_
        refine ret_pure hx ?_
        simp [go_sem, Nat.reduceLT, Nat.reduceAdd, Nat.reduceEqDiff, Nat.reduceLeDiff, Nat.reduceSub, Nat.reduceMul, Int.reduceEq, reduceIte, L7, R7, cWo, cWd, cYs, Wo.ys, Wo.ss, cSi3, cSi, frzAt, pos, frz]
        first | rfl | simp [Wo.setS, Wo.setY, Wo.way]
    · have ea : apSi 0 w.p w.u c t = (0, [], []) := by rw [apSi, if_neg h0]
      have eb : apEn 0 w.p c t = zE := by rw [apEn, if_neg h0]
      have hfin : (if apErr 0 (w.log 0) c t = 0 then cWo (sendW (w.setS 0 (settled (w.log 0 ++ [apE 0 (w.log 0) c t]) (w.wts 0))) (1 - 0) (apE 0 (w.log 0) c t)) else cWoN) = cWoN := if_neg h0
      rw [hfin] at hR
      subst hR
      refine ops_call (.pureE hap (by simp [go_sem, Nat.reduceLT, Nat.reduceAdd, Nat.reduceEqDiff, Nat.reduceLeDiff, Nat.reduceSub, Nat.reduceMul, Int.reduceEq, reduceIte, cSi])) ?_
      simp only [go_sem, Nat.reduceLT, Nat.reduceAdd, Nat.reduceEqDiff, Nat.reduceLeDiff, Nat.reduceSub, Nat.reduceMul, Int.reduceEq, reduceIte, Int.ofNat_zero, Int.natCast_one, Int.cast_ofNat_Int, Int.reduceLT, Int.reduceLE, Int.reduceToNat, Nat.reduceLT, Int.toNat_zero, Int.natCast_zero, Int.le_refl, Int.lt_irrefl, Int.reduceAdd, frz, false_or, or_true, ea, eb, cSi3, cSi, cE, zE, cAct, h0]
      repeat refine ⟨rfl, ?_⟩
      try simp only [go_sem, Nat.reduceLT, Nat.reduceAdd, Nat.reduceEqDiff, Nat.reduceLeDiff, Nat.reduceSub, Nat.reduceMul, Int.reduceEq, reduceIte, Int.ofNat_zero, Int.natCast_one, Int.cast_ofNat_Int, Int.reduceLT, Int.reduceLE, Int.reduceToNat, Nat.reduceLT, Int.toNat_zero, Int.natCast_zero, Int.le_refl, Int.lt_irrefl, Int.reduceAdd, frz, false_or, or_true, h0]
      refine ret_pure hx ?_
      simp [go_sem, Nat.reduceLT, Nat.reduceAdd, Nat.reduceEqDiff, Nat.reduceLeDiff, Nat.reduceSub, Nat.reduceMul, Int.reduceEq, reduceIte, L7, R7, cWoN]
      try rfl
  · have hap : Meets Tryz.prog 23 [.agg (cSi 1 w.q w.v), .int .i64 c, .str t] [] (.tup [.agg (cSi3 (apSi 1 w.q w.v c t)), .agg (cE (apEn 1 w.q c t)), .int .i64 (apErr 1 w.q c t)]) [] := hap
    refine Meets.of_walk Tryz.func7 Tryz.ntmps7 low7 res7 (by simp) fun x hx => ?_
    simp only [go_sem, Nat.reduceLT, Nat.reduceAdd, Nat.reduceEqDiff, Nat.reduceLeDiff, Nat.reduceSub, Nat.reduceMul, Int.reduceEq, reduceIte, L7, R7, cWo, cWd, cAct]
    refine ops_call (.pureE (between_meets 1 1 5) (by simp [go_sem, Nat.reduceLT, Nat.reduceAdd, Nat.reduceEqDiff, Nat.reduceLeDiff, Nat.reduceSub, Nat.reduceMul, Int.reduceEq, reduceIte])) ?_
    rw [show wthn 1 1 5 = true from by decide]
    simp only [go_sem, Nat.reduceLT, Nat.reduceAdd, Nat.reduceEqDiff, Nat.reduceLeDiff, Nat.reduceSub, Nat.reduceMul, Int.reduceEq, reduceIte, Int.ofNat_zero, Int.natCast_one, Int.cast_ofNat_Int, Int.reduceLT, Int.reduceLE, Int.reduceToNat, Nat.reduceLT, Int.toNat_zero, Int.natCast_zero, Int.le_refl, Int.lt_irrefl, Int.reduceAdd, frz, false_or, or_true, cAct, txt_nil, Int.ofNat_zero, Int.natCast_one, Int.cast_ofNat_Int, Int.reduceLT, Int.reduceLE, Int.reduceToNat, Nat.reduceLT, Int.toNat_zero, Int.natCast_zero, Int.le_refl, Int.lt_irrefl, Int.reduceAdd, frz, false_or, or_true]
    refine ops_call (.pureE (between_meets 1 0 1) (by simp [go_sem, Nat.reduceLT, Nat.reduceAdd, Nat.reduceEqDiff, Nat.reduceLeDiff, Nat.reduceSub, Nat.reduceMul, Int.reduceEq, reduceIte])) ?_
    rw [show wthn 1 0 1 = true from by decide]
    simp only [go_sem, Nat.reduceLT, Nat.reduceAdd, Nat.reduceEqDiff, Nat.reduceLeDiff, Nat.reduceSub, Nat.reduceMul, Int.reduceEq, reduceIte, Int.ofNat_zero, Int.natCast_one, Int.cast_ofNat_Int, Int.reduceLT, Int.reduceLE, Int.reduceToNat, Nat.reduceLT, Int.toNat_zero, Int.natCast_zero, Int.le_refl, Int.lt_irrefl, Int.reduceAdd, frz, false_or, or_true, cAct, cWo, cWd]
    refine ops_call (.heapE [] (r' := .agg [.arr 3 2, .arr 4 2]) (H' := [.box (cWo w), .box (cAct 1 1 0 c t), .box [.nilsl, .nilsl]] ++ hCW w w) (copyWorld_meets w) (by simp) (by simp) (by simp [go_sem, Nat.reduceLT, Nat.reduceAdd, Nat.reduceEqDiff, Nat.reduceLeDiff, Nat.reduceSub, Nat.reduceMul, Int.reduceEq, reduceIte, cWo, cWd]) rfl rfl rfl) ?_
    simp only [go_sem, Nat.reduceLT, Nat.reduceAdd, Nat.reduceEqDiff, Nat.reduceLeDiff, Nat.reduceSub, Nat.reduceMul, Int.reduceEq, reduceIte, Int.ofNat_zero, Int.natCast_one, Int.cast_ofNat_Int, Int.reduceLT, Int.reduceLE, Int.reduceToNat, Nat.reduceLT, Int.toNat_zero, Int.natCast_zero, Int.le_refl, Int.lt_irrefl, Int.reduceAdd, frz, false_or, or_true, cAct, hCW, cWo, cWd, Wo.ss, Wo.ys, cYs, cSi3, cSi, List.map_cons, List.map_nil, List.cons_append, List.nil_append]
    have k10 : IntKind.i64.wrap (1 - 1) = 0 := by decide
    by_cases h0 : apErr 1 w.q c t = 0
    · have ea : apSi 1 w.q w.v c t = (1, settled (w.q ++ [apE 1 w.q c t]) w.v) := by rw [apSi, if_pos h0]
      have eb : apEn 1 w.q c t = apE 1 w.q c t := by rw [apEn, if_pos h0]
      rw [ea, eb, h0] at hap
      have hfin : (if apErr 1 (w.log 1) c t = 0 then cWo (sendW (w.setS 1 (settled (w.log 1 ++ [apE 1 (w.log 1) c t]) (w.wts 1))) (1 - 1) (apE 1 (w.log 1) c t)) else cWoN) = cWo (if w.a.length = 30 then w.setS 1 (settled (w.q ++ [apE 1 w.q c t]) w.v) else (w.setS 1 (settled (w.q ++ [apE 1 w.q c t]) w.v)).setY 0 (w.a ++ [apE 1 w.q c t])) := by
        rw [if_pos (show apErr 1 (w.log 1) c t = 0 from h0)]; rfl
      rw [hfin] at hR
      subst hR
      rw [show apErr 1 (w.log 1) c t = 0 from h0]
      clear hfin ea eb h0
      generalize apE 1 w.q c t = e at *
      generalize settled (w.q ++ [e]) w.v = PU at *
      obtain ⟨P, U⟩ := PU
      refine ops_call (.pureE hap (by simp [go_sem, Nat.reduceLT, Nat.reduceAdd, Nat.reduceEqDiff, Nat.reduceLeDiff, Nat.reduceSub, Nat.reduceMul, Int.reduceEq, reduceIte, cSi])) ?_
      simp only [go_sem, Nat.reduceLT, Nat.reduceAdd, Nat.reduceEqDiff, Nat.reduceLeDiff, Nat.reduceSub, Nat.reduceMul, Int.reduceEq, reduceIte, Int.ofNat_zero, Int.natCast_one, Int.cast_ofNat_Int, Int.reduceLT, Int.reduceLE, Int.reduceToNat, Nat.reduceLT, Int.toNat_zero, Int.natCast_zero, Int.le_refl, Int.lt_irrefl, Int.reduceAdd, frz, false_or, or_true, cSi3, cSi, cE, cAct, k10]
      repeat refine ⟨rfl, ?_⟩
      by_cases hl : (w.a.length : Int) < 30
      · rw [if_neg (by omega)]
        simp only [go_sem, Nat.reduceLT, Nat.reduceAdd, Nat.reduceEqDiff, Nat.reduceLeDiff, Nat.reduceSub, Nat.reduceMul, Int.reduceEq, reduceIte, Int.ofNat_zero, Int.natCast_one, Int.cast_ofNat_Int, Int.reduceLT, Int.reduceLE, Int.reduceToNat, Nat.reduceLT, Int.toNat_zero, Int.natCast_zero, Int.le_refl, Int.lt_irrefl, Int.reduceAdd, frz, false_or, or_true, cSi3, cSi, cE, cAct, k10, hl, List.length_map]
        rw [app_arr rfl rfl (cE_row w.a) (by simp; omega)]
        simp only [go_sem, Nat.reduceLT, Nat.reduceAdd, Nat.reduceEqDiff, Nat.reduceLeDiff, Nat.reduceSub, Nat.reduceMul, Int.reduceEq, reduceIte, Int.ofNat_zero, Int.natCast_one, Int.cast_ofNat_Int, Int.reduceLT, Int.reduceLE, Int.reduceToNat, Nat.reduceLT, Int.toNat_zero, Int.natCast_zero, Int.le_refl, Int.lt_irrefl, Int.reduceAdd, frz, false_or, or_true, cE]
        rw [app_arr rfl rfl (by simp) (by simp; omega)]
        have hce : List.map cE w.a ++ [[PV.int .i64 e.id.r, .int .i64 e.id.n, .int .i64 e.c, .str e.t, .list (e.ls.map cId)]] = (w.a ++ [e]).map cE := by simp [cE]
        simp only [go_sem, Nat.reduceLT, Nat.reduceAdd, Nat.reduceEqDiff, Nat.reduceLeDiff, Nat.reduceSub, Nat.reduceMul, Int.reduceEq, reduceIte, Int.ofNat_zero, Int.natCast_one, Int.cast_ofNat_Int, Int.reduceLT, Int.reduceLE, Int.reduceToNat, Nat.reduceLT, Int.toNat_zero, Int.natCast_zero, Int.le_refl, Int.lt_irrefl, Int.reduceAdd, frz, false_or, or_true, hce]
        repeat refine ⟨rfl, ?_⟩
        try simp only [go_sem, Nat.reduceLT, Nat.reduceAdd, Nat.reduceEqDiff, Nat.reduceLeDiff, Nat.reduceSub, Nat.reduceMul, Int.reduceEq, reduceIte, Int.ofNat_zero, Int.natCast_one, Int.cast_ofNat_Int, Int.reduceLT, Int.reduceLE, Int.reduceToNat, Nat.reduceLT, Int.toNat_zero, Int.natCast_zero, Int.le_refl, Int.lt_irrefl, Int.reduceAdd, frz, false_or, or_true]
        refine ret_weak (weak_shut 8 rfl) ?_
        refine ret_weak (weak_pu 4 rfl rfl (by simp [frz, PV.isPure])) ?_
        refine ret_weak (weak_shut 3 rfl) ?_
        refine ret_pure hx ?_
        simp [go_sem, Nat.reduceLT, Nat.reduceAdd, Nat.reduceEqDiff, Nat.reduceLeDiff, Nat.reduceSub, Nat.reduceMul, Int.reduceEq, reduceIte, L7, R7, cWo, cWd, cYs, Wo.ys, Wo.ss, cSi3, cSi, frzAt, pos, frz]
        first | rfl | simp [Wo.setS, Wo.setY, Wo.way]
      · rw [if_pos (by omega)]
        simp only [go_sem, Nat.reduceLT, Nat.reduceAdd, Nat.reduceEqDiff, Nat.reduceLeDiff, Nat.reduceSub, Nat.reduceMul, Int.reduceEq, reduceIte, Int.ofNat_zero, Int.natCast_one, Int.cast_ofNat_Int, Int.reduceLT, Int.reduceLE, Int.reduceToNat, Nat.reduceLT, Int.toNat_zero, Int.natCast_zero, Int.le_refl, Int.lt_irrefl, Int.reduceAdd, frz, false_or, or_true, cSi3, cSi, cE, cAct, k10, hl, List.length_map]
        refine ret_weak (weak_pu 4 rfl rfl (by simp [frz, PV.isPure])) ?_
        refine ret_weak (weak_shut 3 rfl) ?_
        refine ret_pure hx ?_
        simp [go_sem, Nat.reduceLT, Nat.reduceAdd, Nat.reduceEqDiff, Nat.reduceLeDiff, Nat.reduceSub, Nat.reduceMul, Int.reduceEq, reduceIte, L7, R7, cWo, cWd, cYs, Wo.ys, Wo.ss, cSi3, cSi, frzAt, pos, frz]
        first | rfl | simp [Wo.setS, Wo.setY, Wo.way]
    · have ea : apSi 1 w.q w.v c t = (0, [], []) := by rw [apSi, if_neg h0]
      have eb : apEn 1 w.q c t = zE := by rw [apEn, if_neg h0]
      have hfin : (if apErr 1 (w.log 1) c t = 0 then cWo (sendW (w.setS 1 (settled (w.log 1 ++ [apE 1 (w.log 1) c t]) (w.wts 1))) (1 - 1) (apE 1 (w.log 1) c t)) else cWoN) = cWoN := if_neg h0
      rw [hfin] at hR
      subst hR
      refine ops_call (.pureE hap (by simp [go_sem, Nat.reduceLT, Nat.reduceAdd, Nat.reduceEqDiff, Nat.reduceLeDiff, Nat.reduceSub, Nat.reduceMul, Int.reduceEq, reduceIte, cSi])) ?_
      simp only [go_sem, Nat.reduceLT, Nat.reduceAdd, Nat.reduceEqDiff, Nat.reduceLeDiff, Nat.reduceSub, Nat.reduceMul, Int.reduceEq, reduceIte, Int.ofNat_zero, Int.natCast_one, Int.cast_ofNat_Int, Int.reduceLT, Int.reduceLE, Int.reduceToNat, Nat.reduceLT, Int.toNat_zero, Int.natCast_zero, Int.le_refl, Int.lt_irrefl, Int.reduceAdd, frz, false_or, or_true, ea, eb, cSi3, cSi, cE, zE, cAct, h0]
      repeat refine ⟨rfl, ?_⟩
      try simp only [go_sem, Nat.reduceLT, Nat.reduceAdd, Nat.reduceEqDiff, Nat.reduceLeDiff, Nat.reduceSub, Nat.reduceMul, Int.reduceEq, reduceIte, Int.ofNat_zero, Int.natCast_one, Int.cast_ofNat_Int, Int.reduceLT, Int.reduceLE, Int.reduceToNat, Nat.reduceLT, Int.toNat_zero, Int.natCast_zero, Int.le_refl, Int.lt_irrefl, Int.reduceAdd, frz, false_or, or_true, h0]
      refine ret_pure hx ?_
      simp [go_sem, Nat.reduceLT, Nat.reduceAdd, Nat.reduceEqDiff, Nat.reduceLeDiff, Nat.reduceSub, Nat.reduceMul, Int.reduceEq, reduceIte, L7, R7, cWoN]
      try rfl
set_option maxHeartbeats 4000000 in
theorem doOf_n (w : Wo) (h : WoOk w) (k i n : Int) (t : ByteArray) (t0 : t.size = 0) (hk : k = 2 ∨ k = 3 ∨ k = 4) (hi : i = 0 ∨ i = 1) (hn : n < 0 ∨ ((w.way i).length : Int) ≤ n) : Meets Tryz.prog 7 [.agg (cWo w), .agg (cAct k i n 0 t)] [] (.tup [.agg cWoN, .int .i64 5]) [] := by
 have la := h.la
 have lb := h.lb
 have k1 : ¬ k = 1 := by omega
 have k5 : ¬ k = 5 := by omega
 refine Meets.of_walk Tryz.func7 Tryz.ntmps7 low7 res7 (by simp) fun x hx => ?_
 simp only [go_sem, Nat.reduceLT, Nat.reduceAdd, Nat.reduceEqDiff, Nat.reduceLeDiff, Nat.reduceSub, Nat.reduceMul, Int.reduceEq, reduceIte, L7, R7, cWo, cWd, cAct]
 refine ops_call (.pureE (between_meets k 1 5) (by simp [go_sem, Nat.reduceLT, Nat.reduceAdd, Nat.reduceEqDiff, Nat.reduceLeDiff, Nat.reduceSub, Nat.reduceMul, Int.reduceEq, reduceIte])) ?_
 rw [show wthn k 1 5 = true from wthn_iff.2 (by omega)]
 simp only [go_sem, Nat.reduceLT, Nat.reduceAdd, Nat.reduceEqDiff, Nat.reduceLeDiff, Nat.reduceSub, Nat.reduceMul, Int.reduceEq, reduceIte, Int.ofNat_zero, Int.natCast_one, Int.cast_ofNat_Int, Int.reduceLT, Int.reduceLE, Int.reduceToNat, Nat.reduceLT, Int.toNat_zero, Int.natCast_zero, Int.le_refl, Int.lt_irrefl, Int.reduceAdd, frz, false_or, or_true, cAct, txt_nil, t0, k1, k5]
 rcases hi with rfl | rfl
 ·
  skip
  have hwl : IntKind.i64.wrap ((w.a.length : Int) - 1) = (w.a.length : Int) - 1 := by rw [IntWalk.i64_in _ (by omega)]
  have hf : wthn n 0 ((w.a.length : Int) - 1) = false := by
   cases h : wthn n 0 ((w.a.length : Int) - 1)
   ·
    rfl
   ·
    rw [wthn_iff] at h
    have hn : n < 0 ∨ (w.a.length : Int) ≤ n := hn
    omega
  refine ops_call (.pureE (between_meets 0 0 1) (by simp [go_sem, Nat.reduceLT, Nat.reduceAdd, Nat.reduceEqDiff, Nat.reduceLeDiff, Nat.reduceSub, Nat.reduceMul, Int.reduceEq, reduceIte])) ?_
  rw [show wthn 0 0 1 = true from by decide]
  simp only [go_sem, Nat.reduceLT, Nat.reduceAdd, Nat.reduceEqDiff, Nat.reduceLeDiff, Nat.reduceSub, Nat.reduceMul, Int.reduceEq, reduceIte, Int.ofNat_zero, Int.natCast_one, Int.cast_ofNat_Int, Int.reduceLT, Int.reduceLE, Int.reduceToNat, Nat.reduceLT, Int.toNat_zero, Int.natCast_zero, Int.le_refl, Int.lt_irrefl, Int.reduceAdd, frz, false_or, or_true, cAct, cWo, cWd, k5]
  refine ops_call (.heapE [] (r' := .agg [.arr 3 2, .arr 4 2]) (H' := [.box (cWo w), .box (cAct k 0 n 0 t), .box [.nilsl, .nilsl]] ++ hCW w w) (copyWorld_meets w) (by simp) (by simp) (by simp [go_sem, Nat.reduceLT, Nat.reduceAdd, Nat.reduceEqDiff, Nat.reduceLeDiff, Nat.reduceSub, Nat.reduceMul, Int.reduceEq, reduceIte, cWo, cWd]) rfl rfl rfl) ?_
  simp only [go_sem, Nat.reduceLT, Nat.reduceAdd, Nat.reduceEqDiff, Nat.reduceLeDiff, Nat.reduceSub, Nat.reduceMul, Int.reduceEq, reduceIte, Int.ofNat_zero, Int.natCast_one, Int.cast_ofNat_Int, Int.reduceLT, Int.reduceLE, Int.reduceToNat, Nat.reduceLT, Int.toNat_zero, Int.natCast_zero, Int.le_refl, Int.lt_irrefl, Int.reduceAdd, frz, false_or, or_true, cAct, hCW, cWo, cWd, Wo.ss, Wo.ys, cYs, List.map_cons, List.map_nil, List.cons_append, List.nil_append, List.length_map, hwl, k1]
  refine ops_call (.pureE (between_meets n 0 ((w.a.length : Int) - 1)) (by simp [go_sem, Nat.reduceLT, Nat.reduceAdd, Nat.reduceEqDiff, Nat.reduceLeDiff, Nat.reduceSub, Nat.reduceMul, Int.reduceEq, reduceIte])) ?_
  rw [hf]
  simp only [go_sem, Nat.reduceLT, Nat.reduceAdd, Nat.reduceEqDiff, Nat.reduceLeDiff, Nat.reduceSub, Nat.reduceMul, Int.reduceEq, reduceIte]
  refine ret_pure hx ?_
  simp [go_sem, Nat.reduceLT, Nat.reduceAdd, Nat.reduceEqDiff, Nat.reduceLeDiff, Nat.reduceSub, Nat.reduceMul, Int.reduceEq, reduceIte, L7, R7, cWoN]
 ·
  skip
  have hwl : IntKind.i64.wrap ((w.b.length : Int) - 1) = (w.b.length : Int) - 1 := by rw [IntWalk.i64_in _ (by omega)]
  have hf : wthn n 0 ((w.b.length : Int) - 1) = false := by
   cases h : wthn n 0 ((w.b.length : Int) - 1)
   ·
    rfl
   ·
    rw [wthn_iff] at h
    have hn : n < 0 ∨ (w.b.length : Int) ≤ n := hn
    omega
  refine ops_call (.pureE (between_meets 1 0 1) (by simp [go_sem, Nat.reduceLT, Nat.reduceAdd, Nat.reduceEqDiff, Nat.reduceLeDiff, Nat.reduceSub, Nat.reduceMul, Int.reduceEq, reduceIte])) ?_
  rw [show wthn 1 0 1 = true from by decide]
  simp only [go_sem, Nat.reduceLT, Nat.reduceAdd, Nat.reduceEqDiff, Nat.reduceLeDiff, Nat.reduceSub, Nat.reduceMul, Int.reduceEq, reduceIte, Int.ofNat_zero, Int.natCast_one, Int.cast_ofNat_Int, Int.reduceLT, Int.reduceLE, Int.reduceToNat, Nat.reduceLT, Int.toNat_zero, Int.natCast_zero, Int.le_refl, Int.lt_irrefl, Int.reduceAdd, frz, false_or, or_true, cAct, cWo, cWd, k5]
  refine ops_call (.heapE [] (r' := .agg [.arr 3 2, .arr 4 2]) (H' := [.box (cWo w), .box (cAct k 1 n 0 t), .box [.nilsl, .nilsl]] ++ hCW w w) (copyWorld_meets w) (by simp) (by simp) (by simp [go_sem, Nat.reduceLT, Nat.reduceAdd, Nat.reduceEqDiff, Nat.reduceLeDiff, Nat.reduceSub, Nat.reduceMul, Int.reduceEq, reduceIte, cWo, cWd]) rfl rfl rfl) ?_
  simp only [go_sem, Nat.reduceLT, Nat.reduceAdd, Nat.reduceEqDiff, Nat.reduceLeDiff, Nat.reduceSub, Nat.reduceMul, Int.reduceEq, reduceIte, Int.ofNat_zero, Int.natCast_one, Int.cast_ofNat_Int, Int.reduceLT, Int.reduceLE, Int.reduceToNat, Nat.reduceLT, Int.toNat_zero, Int.natCast_zero, Int.le_refl, Int.lt_irrefl, Int.reduceAdd, frz, false_or, or_true, cAct, hCW, cWo, cWd, Wo.ss, Wo.ys, cYs, List.map_cons, List.map_nil, List.cons_append, List.nil_append, List.length_map, hwl, k1]
  refine ops_call (.pureE (between_meets n 0 ((w.b.length : Int) - 1)) (by simp [go_sem, Nat.reduceLT, Nat.reduceAdd, Nat.reduceEqDiff, Nat.reduceLeDiff, Nat.reduceSub, Nat.reduceMul, Int.reduceEq, reduceIte])) ?_
  rw [hf]
  simp only [go_sem, Nat.reduceLT, Nat.reduceAdd, Nat.reduceEqDiff, Nat.reduceLeDiff, Nat.reduceSub, Nat.reduceMul, Int.reduceEq, reduceIte]
  refine ret_pure hx ?_
  simp [go_sem, Nat.reduceLT, Nat.reduceAdd, Nat.reduceEqDiff, Nat.reduceLeDiff, Nat.reduceSub, Nat.reduceMul, Int.reduceEq, reduceIte, L7, R7, cWoN]
set_option maxHeartbeats 4000000 in
theorem doOf_2 (w : Wo) (h : WoOk w) (i : Int) (q : Nat) (t : ByteArray) (t0 : t.size = 0) (hi : i = 0 ∨ i = 1) (hq : q < (w.way i).length) : Meets Tryz.prog 7 [.agg (cWo w), .agg (cAct 2 i q 0 t)] [] (.tup [.agg (cWo ((w.setS i (rcSi i (w.log i) (w.wts i) (nth (w.way i) q)).2).setY i ((w.way i).eraseIdx q))), .int .i64 0]) [] := by
 have la := h.la
 have lb := h.lb
 obtain ⟨-, y2, y3⟩ := h.by_ hi
 have hm := nthM hq
 obtain ⟨a1, s2, s3, s4, s5, s6, a7, a8⟩ := si_pre (h.si hi)
 have hr0 := rc_born h hi (y2 _ hm) (y3 _ hm)
 have hrc := receiveOf_meets i (w.log i) (w.wts i) (nth (w.way i) q) s2 s3 s4 s5 s6 (check_fit (y2 _ hm))
 rw [hr0, rcSi_one hr0] at hrc
 generalize (rcSi i (w.log i) (w.wts i) (nth (w.way i) q)).2 = PU at *
 obtain ⟨P, U⟩ := PU
 rcases hi with rfl | rfl
 ·
  skip
  have hq : q < w.a.length := hq
  have hwl : IntKind.i64.wrap ((w.a.length : Int) - 1) = (w.a.length : Int) - 1 := by rw [IntWalk.i64_in _ (by omega)]
  have hf : wthn (q : Int) 0 ((w.a.length : Int) - 1) = true := wthn_iff.2 (by omega)
  have hgq : w.a[q]? = some (nth w.a q) := nth_get? _ _ hq
  obtain ⟨n, hn⟩ : ∃ n : Int, n = (q : Int) := ⟨_, rfl⟩
  rw [← hn] at hf ⊢
  refine Meets.of_walk Tryz.func7 Tryz.ntmps7 low7 res7 (by simp) fun x hx => ?_
  simp only [go_sem, Nat.reduceLT, Nat.reduceAdd, Nat.reduceEqDiff, Nat.reduceLeDiff, Nat.reduceSub, Nat.reduceMul, Int.reduceEq, reduceIte, L7, R7, cWo, cWd, cAct]
  refine ops_call (.pureE (between_meets 2 1 5) (by simp [go_sem, Nat.reduceLT, Nat.reduceAdd, Nat.reduceEqDiff, Nat.reduceLeDiff, Nat.reduceSub, Nat.reduceMul, Int.reduceEq, reduceIte])) ?_
  rw [show wthn 2 1 5 = true from by decide]
  simp only [go_sem, Nat.reduceLT, Nat.reduceAdd, Nat.reduceEqDiff, Nat.reduceLeDiff, Nat.reduceSub, Nat.reduceMul, Int.reduceEq, reduceIte, Int.ofNat_zero, Int.natCast_one, Int.cast_ofNat_Int, Int.reduceLT, Int.reduceLE, Int.reduceToNat, Nat.reduceLT, Int.toNat_zero, Int.natCast_zero, Int.le_refl, Int.lt_irrefl, Int.reduceAdd, frz, false_or, or_true, cAct, txt_nil, t0]
  refine ops_call (.pureE (between_meets 0 0 1) (by simp [go_sem, Nat.reduceLT, Nat.reduceAdd, Nat.reduceEqDiff, Nat.reduceLeDiff, Nat.reduceSub, Nat.reduceMul, Int.reduceEq, reduceIte])) ?_
  rw [show wthn 0 0 1 = true from by decide]
  simp only [go_sem, Nat.reduceLT, Nat.reduceAdd, Nat.reduceEqDiff, Nat.reduceLeDiff, Nat.reduceSub, Nat.reduceMul, Int.reduceEq, reduceIte, Int.ofNat_zero, Int.natCast_one, Int.cast_ofNat_Int, Int.reduceLT, Int.reduceLE, Int.reduceToNat, Nat.reduceLT, Int.toNat_zero, Int.natCast_zero, Int.le_refl, Int.lt_irrefl, Int.reduceAdd, frz, false_or, or_true, cAct, cWo, cWd]
  refine ops_call (.heapE [] (r' := .agg [.arr 3 2, .arr 4 2]) (H' := [.box (cWo w), .box (cAct 2 0 n 0 t), .box [.nilsl, .nilsl]] ++ hCW w w) (copyWorld_meets w) (by simp) (by simp) (by simp [go_sem, Nat.reduceLT, Nat.reduceAdd, Nat.reduceEqDiff, Nat.reduceLeDiff, Nat.reduceSub, Nat.reduceMul, Int.reduceEq, reduceIte, cWo, cWd]) rfl rfl rfl) ?_
  simp only [go_sem, Nat.reduceLT, Nat.reduceAdd, Nat.reduceEqDiff, Nat.reduceLeDiff, Nat.reduceSub, Nat.reduceMul, Int.reduceEq, reduceIte, Int.ofNat_zero, Int.natCast_one, Int.cast_ofNat_Int, Int.reduceLT, Int.reduceLE, Int.reduceToNat, Nat.reduceLT, Int.toNat_zero, Int.natCast_zero, Int.le_refl, Int.lt_irrefl, Int.reduceAdd, frz, false_or, or_true, cAct, hCW, cWo, cWd, Wo.ss, Wo.ys, cYs, cSi3, cSi, List.map_cons, List.map_nil, List.cons_append, List.nil_append, List.length_map, hwl]
  refine ops_call (.pureE (between_meets n 0 ((w.a.length : Int) - 1)) (by simp [go_sem, Nat.reduceLT, Nat.reduceAdd, Nat.reduceEqDiff, Nat.reduceLeDiff, Nat.reduceSub, Nat.reduceMul, Int.reduceEq, reduceIte])) ?_
  rw [hf]
  rw [hn]
  simp only [go_sem, Nat.reduceLT, Nat.reduceAdd, Nat.reduceEqDiff, Nat.reduceLeDiff, Nat.reduceSub, Nat.reduceMul, Int.reduceEq, reduceIte, Int.ofNat_zero, Int.natCast_one, Int.cast_ofNat_Int, Int.reduceLT, Int.reduceLE, Int.reduceToNat, Nat.reduceLT, Int.toNat_zero, Int.natCast_zero, Int.le_refl, Int.lt_irrefl, Int.reduceAdd, frz, false_or, or_true, cAct, cSi3, cSi]
  have hrc : Meets Tryz.prog 24 [.agg (cSi 0 w.p w.u), .agg (cE (nth w.a q))] [] (.tup [.agg (cSi3 (0, P, U)), .int .i64 0]) [] := hrc
  simp only [go_sem, Nat.reduceLT, Nat.reduceAdd, Nat.reduceEqDiff, Nat.reduceLeDiff, Nat.reduceSub, Nat.reduceMul, Int.reduceEq, reduceIte, Int.ofNat_zero, Int.natCast_one, Int.cast_ofNat_Int, Int.reduceLT, Int.reduceLE, Int.reduceToNat, Nat.reduceLT, Int.toNat_zero, Int.natCast_zero, Int.le_refl, Int.lt_irrefl, Int.reduceAdd, frz, false_or, or_true, hgq, hq, cE, cSi3, cSi]
  refine ops_call (.pureE hrc (by simp [go_sem, Nat.reduceLT, Nat.reduceAdd, Nat.reduceEqDiff, Nat.reduceLeDiff, Nat.reduceSub, Nat.reduceMul, Int.reduceEq, reduceIte, cSi, cE])) ?_
  simp only [go_sem, Nat.reduceLT, Nat.reduceAdd, Nat.reduceEqDiff, Nat.reduceLeDiff, Nat.reduceSub, Nat.reduceMul, Int.reduceEq, reduceIte, Int.ofNat_zero, Int.natCast_one, Int.cast_ofNat_Int, Int.reduceLT, Int.reduceLE, Int.reduceToNat, Nat.reduceLT, Int.toNat_zero, Int.natCast_zero, Int.le_refl, Int.lt_irrefl, Int.reduceAdd, frz, false_or, or_true, cSi3, cSi, cAct]
  repeat refine ⟨rfl, ?_⟩
  try simp only [go_sem, Nat.reduceLT, Nat.reduceAdd, Nat.reduceEqDiff, Nat.reduceLeDiff, Nat.reduceSub, Nat.reduceMul, Int.reduceEq, reduceIte, Int.ofNat_zero, Int.natCast_one, Int.cast_ofNat_Int, Int.reduceLT, Int.reduceLE, Int.reduceToNat, Nat.reduceLT, Int.toNat_zero, Int.natCast_zero, Int.le_refl, Int.lt_irrefl, Int.reduceAdd, frz, false_or, or_true, cAct, cSi3, cSi]
  refine ops_call (.pureE (without_meets w.a q hq (by omega)) (by simp [go_sem, Nat.reduceLT, Nat.reduceAdd, Nat.reduceEqDiff, Nat.reduceLeDiff, Nat.reduceSub, Nat.reduceMul, Int.reduceEq, reduceIte])) ?_
  simp only [go_sem, Nat.reduceLT, Nat.reduceAdd, Nat.reduceEqDiff, Nat.reduceLeDiff, Nat.reduceSub, Nat.reduceMul, Int.reduceEq, reduceIte, Int.ofNat_zero, Int.natCast_one, Int.cast_ofNat_Int, Int.reduceLT, Int.reduceLE, Int.reduceToNat, Nat.reduceLT, Int.toNat_zero, Int.natCast_zero, Int.le_refl, Int.lt_irrefl, Int.reduceAdd, frz, false_or, or_true, cSi3, cSi, cAct]
  repeat refine ⟨rfl, ?_⟩
  try simp only [go_sem, Nat.reduceLT, Nat.reduceAdd, Nat.reduceEqDiff, Nat.reduceLeDiff, Nat.reduceSub, Nat.reduceMul, Int.reduceEq, reduceIte, Int.ofNat_zero, Int.natCast_one, Int.cast_ofNat_Int, Int.reduceLT, Int.reduceLE, Int.reduceToNat, Nat.reduceLT, Int.toNat_zero, Int.natCast_zero, Int.le_refl, Int.lt_irrefl, Int.reduceAdd, frz, false_or, or_true]
  refine ret_weak (weak_pu 4 rfl rfl (by simp [frz, PV.isPure])) ?_
  refine ret_weak (weak_shut 3 rfl) ?_
  refine ret_pure hx ?_
  simp [go_sem, Nat.reduceLT, Nat.reduceAdd, Nat.reduceEqDiff, Nat.reduceLeDiff, Nat.reduceSub, Nat.reduceMul, Int.reduceEq, reduceIte, L7, R7, cWo, cWd, cYs, Wo.ys, Wo.ss, cSi3, cSi, frzAt, pos, frz]
  first | rfl | simp [Wo.setS, Wo.setY, Wo.way]
 ·
  skip
  have hq : q < w.b.length := hq
  have hwl : IntKind.i64.wrap ((w.b.length : Int) - 1) = (w.b.length : Int) - 1 := by rw [IntWalk.i64_in _ (by omega)]
  have hf : wthn (q : Int) 0 ((w.b.length : Int) - 1) = true := wthn_iff.2 (by omega)
  have hgq : w.b[q]? = some (nth w.b q) := nth_get? _ _ hq
  obtain ⟨n, hn⟩ : ∃ n : Int, n = (q : Int) := ⟨_, rfl⟩
  rw [← hn] at hf ⊢
  refine Meets.of_walk Tryz.func7 Tryz.ntmps7 low7 res7 (by simp) fun x hx => ?_
  simp only [go_sem, Nat.reduceLT, Nat.reduceAdd, Nat.reduceEqDiff, Nat.reduceLeDiff, Nat.reduceSub, Nat.reduceMul, Int.reduceEq, reduceIte, L7, R7, cWo, cWd, cAct]
  refine ops_call (.pureE (between_meets 2 1 5) (by simp [go_sem, Nat.reduceLT, Nat.reduceAdd, Nat.reduceEqDiff, Nat.reduceLeDiff, Nat.reduceSub, Nat.reduceMul, Int.reduceEq, reduceIte])) ?_
  rw [show wthn 2 1 5 = true from by decide]
  simp only [go_sem, Nat.reduceLT, Nat.reduceAdd, Nat.reduceEqDiff, Nat.reduceLeDiff, Nat.reduceSub, Nat.reduceMul, Int.reduceEq, reduceIte, Int.ofNat_zero, Int.natCast_one, Int.cast_ofNat_Int, Int.reduceLT, Int.reduceLE, Int.reduceToNat, Nat.reduceLT, Int.toNat_zero, Int.natCast_zero, Int.le_refl, Int.lt_irrefl, Int.reduceAdd, frz, false_or, or_true, cAct, txt_nil, t0]
  refine ops_call (.pureE (between_meets 1 0 1) (by simp [go_sem, Nat.reduceLT, Nat.reduceAdd, Nat.reduceEqDiff, Nat.reduceLeDiff, Nat.reduceSub, Nat.reduceMul, Int.reduceEq, reduceIte])) ?_
  rw [show wthn 1 0 1 = true from by decide]
  simp only [go_sem, Nat.reduceLT, Nat.reduceAdd, Nat.reduceEqDiff, Nat.reduceLeDiff, Nat.reduceSub, Nat.reduceMul, Int.reduceEq, reduceIte, Int.ofNat_zero, Int.natCast_one, Int.cast_ofNat_Int, Int.reduceLT, Int.reduceLE, Int.reduceToNat, Nat.reduceLT, Int.toNat_zero, Int.natCast_zero, Int.le_refl, Int.lt_irrefl, Int.reduceAdd, frz, false_or, or_true, cAct, cWo, cWd]
  refine ops_call (.heapE [] (r' := .agg [.arr 3 2, .arr 4 2]) (H' := [.box (cWo w), .box (cAct 2 1 n 0 t), .box [.nilsl, .nilsl]] ++ hCW w w) (copyWorld_meets w) (by simp) (by simp) (by simp [go_sem, Nat.reduceLT, Nat.reduceAdd, Nat.reduceEqDiff, Nat.reduceLeDiff, Nat.reduceSub, Nat.reduceMul, Int.reduceEq, reduceIte, cWo, cWd]) rfl rfl rfl) ?_
  simp only [go_sem, Nat.reduceLT, Nat.reduceAdd, Nat.reduceEqDiff, Nat.reduceLeDiff, Nat.reduceSub, Nat.reduceMul, Int.reduceEq, reduceIte, Int.ofNat_zero, Int.natCast_one, Int.cast_ofNat_Int, Int.reduceLT, Int.reduceLE, Int.reduceToNat, Nat.reduceLT, Int.toNat_zero, Int.natCast_zero, Int.le_refl, Int.lt_irrefl, Int.reduceAdd, frz, false_or, or_true, cAct, hCW, cWo, cWd, Wo.ss, Wo.ys, cYs, cSi3, cSi, List.map_cons, List.map_nil, List.cons_append, List.nil_append, List.length_map, hwl]
  refine ops_call (.pureE (between_meets n 0 ((w.b.length : Int) - 1)) (by simp [go_sem, Nat.reduceLT, Nat.reduceAdd, Nat.reduceEqDiff, Nat.reduceLeDiff, Nat.reduceSub, Nat.reduceMul, Int.reduceEq, reduceIte])) ?_
  rw [hf]
  rw [hn]
  simp only [go_sem, Nat.reduceLT, Nat.reduceAdd, Nat.reduceEqDiff, Nat.reduceLeDiff, Nat.reduceSub, Nat.reduceMul, Int.reduceEq, reduceIte, Int.ofNat_zero, Int.natCast_one, Int.cast_ofNat_Int, Int.reduceLT, Int.reduceLE, Int.reduceToNat, Nat.reduceLT, Int.toNat_zero, Int.natCast_zero, Int.le_refl, Int.lt_irrefl, Int.reduceAdd, frz, false_or, or_true, cAct, cSi3, cSi]
  have hrc : Meets Tryz.prog 24 [.agg (cSi 1 w.q w.v), .agg (cE (nth w.b q))] [] (.tup [.agg (cSi3 (1, P, U)), .int .i64 0]) [] := hrc
  simp only [go_sem, Nat.reduceLT, Nat.reduceAdd, Nat.reduceEqDiff, Nat.reduceLeDiff, Nat.reduceSub, Nat.reduceMul, Int.reduceEq, reduceIte, Int.ofNat_zero, Int.natCast_one, Int.cast_ofNat_Int, Int.reduceLT, Int.reduceLE, Int.reduceToNat, Nat.reduceLT, Int.toNat_zero, Int.natCast_zero, Int.le_refl, Int.lt_irrefl, Int.reduceAdd, frz, false_or, or_true, hgq, hq, cE, cSi3, cSi]
  refine ops_call (.pureE hrc (by simp [go_sem, Nat.reduceLT, Nat.reduceAdd, Nat.reduceEqDiff, Nat.reduceLeDiff, Nat.reduceSub, Nat.reduceMul, Int.reduceEq, reduceIte, cSi, cE])) ?_
  simp only [go_sem, Nat.reduceLT, Nat.reduceAdd, Nat.reduceEqDiff, Nat.reduceLeDiff, Nat.reduceSub, Nat.reduceMul, Int.reduceEq, reduceIte, Int.ofNat_zero, Int.natCast_one, Int.cast_ofNat_Int, Int.reduceLT, Int.reduceLE, Int.reduceToNat, Nat.reduceLT, Int.toNat_zero, Int.natCast_zero, Int.le_refl, Int.lt_irrefl, Int.reduceAdd, frz, false_or, or_true, cSi3, cSi, cAct]
  repeat refine ⟨rfl, ?_⟩
  try simp only [go_sem, Nat.reduceLT, Nat.reduceAdd, Nat.reduceEqDiff, Nat.reduceLeDiff, Nat.reduceSub, Nat.reduceMul, Int.reduceEq, reduceIte, Int.ofNat_zero, Int.natCast_one, Int.cast_ofNat_Int, Int.reduceLT, Int.reduceLE, Int.reduceToNat, Nat.reduceLT, Int.toNat_zero, Int.natCast_zero, Int.le_refl, Int.lt_irrefl, Int.reduceAdd, frz, false_or, or_true, cAct, cSi3, cSi]
  refine ops_call (.pureE (without_meets w.b q hq (by omega)) (by simp [go_sem, Nat.reduceLT, Nat.reduceAdd, Nat.reduceEqDiff, Nat.reduceLeDiff, Nat.reduceSub, Nat.reduceMul, Int.reduceEq, reduceIte])) ?_
  simp only [go_sem, Nat.reduceLT, Nat.reduceAdd, Nat.reduceEqDiff, Nat.reduceLeDiff, Nat.reduceSub, Nat.reduceMul, Int.reduceEq, reduceIte, Int.ofNat_zero, Int.natCast_one, Int.cast_ofNat_Int, Int.reduceLT, Int.reduceLE, Int.reduceToNat, Nat.reduceLT, Int.toNat_zero, Int.natCast_zero, Int.le_refl, Int.lt_irrefl, Int.reduceAdd, frz, false_or, or_true, cSi3, cSi, cAct]
  repeat refine ⟨rfl, ?_⟩
  try simp only [go_sem, Nat.reduceLT, Nat.reduceAdd, Nat.reduceEqDiff, Nat.reduceLeDiff, Nat.reduceSub, Nat.reduceMul, Int.reduceEq, reduceIte, Int.ofNat_zero, Int.natCast_one, Int.cast_ofNat_Int, Int.reduceLT, Int.reduceLE, Int.reduceToNat, Nat.reduceLT, Int.toNat_zero, Int.natCast_zero, Int.le_refl, Int.lt_irrefl, Int.reduceAdd, frz, false_or, or_true]
  refine ret_weak (weak_pu 4 rfl rfl (by simp [frz, PV.isPure])) ?_
  refine ret_weak (weak_shut 3 rfl) ?_
  refine ret_pure hx ?_
  simp [go_sem, Nat.reduceLT, Nat.reduceAdd, Nat.reduceEqDiff, Nat.reduceLeDiff, Nat.reduceSub, Nat.reduceMul, Int.reduceEq, reduceIte, L7, R7, cWo, cWd, cYs, Wo.ys, Wo.ss, cSi3, cSi, frzAt, pos, frz]
  first | rfl | simp [Wo.setS, Wo.setY, Wo.way]
set_option maxHeartbeats 4000000 in
theorem doOf_3 (w : Wo) (h : WoOk w) (i : Int) (q : Nat) (t : ByteArray) (t0 : t.size = 0) (hi : i = 0 ∨ i = 1) (hq : q < (w.way i).length) : Meets Tryz.prog 7 [.agg (cWo w), .agg (cAct 3 i q 0 t)] [] (.tup [.agg (cWo (w.setY i ((w.way i).eraseIdx q))), .int .i64 0]) [] := by
 have la := h.la
 have lb := h.lb
 rcases hi with rfl | rfl
 ·
  skip
  have hq : q < w.a.length := hq
  have hwl : IntKind.i64.wrap ((w.a.length : Int) - 1) = (w.a.length : Int) - 1 := by rw [IntWalk.i64_in _ (by omega)]
  have hf : wthn (q : Int) 0 ((w.a.length : Int) - 1) = true := wthn_iff.2 (by omega)
  have hgq : w.a[q]? = some (nth w.a q) := nth_get? _ _ hq
  obtain ⟨n, hn⟩ : ∃ n : Int, n = (q : Int) := ⟨_, rfl⟩
  rw [← hn] at hf ⊢
  refine Meets.of_walk Tryz.func7 Tryz.ntmps7 low7 res7 (by simp) fun x hx => ?_
  simp only [go_sem, Nat.reduceLT, Nat.reduceAdd, Nat.reduceEqDiff, Nat.reduceLeDiff, Nat.reduceSub, Nat.reduceMul, Int.reduceEq, reduceIte, L7, R7, cWo, cWd, cAct]
  refine ops_call (.pureE (between_meets 3 1 5) (by simp [go_sem, Nat.reduceLT, Nat.reduceAdd, Nat.reduceEqDiff, Nat.reduceLeDiff, Nat.reduceSub, Nat.reduceMul, Int.reduceEq, reduceIte])) ?_
  rw [show wthn 3 1 5 = true from by decide]
  simp only [go_sem, Nat.reduceLT, Nat.reduceAdd, Nat.reduceEqDiff, Nat.reduceLeDiff, Nat.reduceSub, Nat.reduceMul, Int.reduceEq, reduceIte, Int.ofNat_zero, Int.natCast_one, Int.cast_ofNat_Int, Int.reduceLT, Int.reduceLE, Int.reduceToNat, Nat.reduceLT, Int.toNat_zero, Int.natCast_zero, Int.le_refl, Int.lt_irrefl, Int.reduceAdd, frz, false_or, or_true, cAct, txt_nil, t0]
  refine ops_call (.pureE (between_meets 0 0 1) (by simp [go_sem, Nat.reduceLT, Nat.reduceAdd, Nat.reduceEqDiff, Nat.reduceLeDiff, Nat.reduceSub, Nat.reduceMul, Int.reduceEq, reduceIte])) ?_
  rw [show wthn 0 0 1 = true from by decide]
  simp only [go_sem, Nat.reduceLT, Nat.reduceAdd, Nat.reduceEqDiff, Nat.reduceLeDiff, Nat.reduceSub, Nat.reduceMul, Int.reduceEq, reduceIte, Int.ofNat_zero, Int.natCast_one, Int.cast_ofNat_Int, Int.reduceLT, Int.reduceLE, Int.reduceToNat, Nat.reduceLT, Int.toNat_zero, Int.natCast_zero, Int.le_refl, Int.lt_irrefl, Int.reduceAdd, frz, false_or, or_true, cAct, cWo, cWd]
  refine ops_call (.heapE [] (r' := .agg [.arr 3 2, .arr 4 2]) (H' := [.box (cWo w), .box (cAct 3 0 n 0 t), .box [.nilsl, .nilsl]] ++ hCW w w) (copyWorld_meets w) (by simp) (by simp) (by simp [go_sem, Nat.reduceLT, Nat.reduceAdd, Nat.reduceEqDiff, Nat.reduceLeDiff, Nat.reduceSub, Nat.reduceMul, Int.reduceEq, reduceIte, cWo, cWd]) rfl rfl rfl) ?_
  simp only [go_sem, Nat.reduceLT, Nat.reduceAdd, Nat.reduceEqDiff, Nat.reduceLeDiff, Nat.reduceSub, Nat.reduceMul, Int.reduceEq, reduceIte, Int.ofNat_zero, Int.natCast_one, Int.cast_ofNat_Int, Int.reduceLT, Int.reduceLE, Int.reduceToNat, Nat.reduceLT, Int.toNat_zero, Int.natCast_zero, Int.le_refl, Int.lt_irrefl, Int.reduceAdd, frz, false_or, or_true, cAct, hCW, cWo, cWd, Wo.ss, Wo.ys, cYs, cSi3, cSi, List.map_cons, List.map_nil, List.cons_append, List.nil_append, List.length_map, hwl]
  refine ops_call (.pureE (between_meets n 0 ((w.a.length : Int) - 1)) (by simp [go_sem, Nat.reduceLT, Nat.reduceAdd, Nat.reduceEqDiff, Nat.reduceLeDiff, Nat.reduceSub, Nat.reduceMul, Int.reduceEq, reduceIte])) ?_
  rw [hf]
  rw [hn]
  simp only [go_sem, Nat.reduceLT, Nat.reduceAdd, Nat.reduceEqDiff, Nat.reduceLeDiff, Nat.reduceSub, Nat.reduceMul, Int.reduceEq, reduceIte, Int.ofNat_zero, Int.natCast_one, Int.cast_ofNat_Int, Int.reduceLT, Int.reduceLE, Int.reduceToNat, Nat.reduceLT, Int.toNat_zero, Int.natCast_zero, Int.le_refl, Int.lt_irrefl, Int.reduceAdd, frz, false_or, or_true, cAct, cSi3, cSi]
  refine ops_call (.pureE (without_meets w.a q hq (by omega)) (by simp [go_sem, Nat.reduceLT, Nat.reduceAdd, Nat.reduceEqDiff, Nat.reduceLeDiff, Nat.reduceSub, Nat.reduceMul, Int.reduceEq, reduceIte])) ?_
  simp only [go_sem, Nat.reduceLT, Nat.reduceAdd, Nat.reduceEqDiff, Nat.reduceLeDiff, Nat.reduceSub, Nat.reduceMul, Int.reduceEq, reduceIte, Int.ofNat_zero, Int.natCast_one, Int.cast_ofNat_Int, Int.reduceLT, Int.reduceLE, Int.reduceToNat, Nat.reduceLT, Int.toNat_zero, Int.natCast_zero, Int.le_refl, Int.lt_irrefl, Int.reduceAdd, frz, false_or, or_true, cSi3, cSi, cAct]
  repeat refine ⟨rfl, ?_⟩
  try simp only [go_sem, Nat.reduceLT, Nat.reduceAdd, Nat.reduceEqDiff, Nat.reduceLeDiff, Nat.reduceSub, Nat.reduceMul, Int.reduceEq, reduceIte, Int.ofNat_zero, Int.natCast_one, Int.cast_ofNat_Int, Int.reduceLT, Int.reduceLE, Int.reduceToNat, Nat.reduceLT, Int.toNat_zero, Int.natCast_zero, Int.le_refl, Int.lt_irrefl, Int.reduceAdd, frz, false_or, or_true]
  refine ret_weak (weak_pu 4 rfl rfl (by simp [frz, PV.isPure])) ?_
  refine ret_weak (weak_shut 3 rfl) ?_
  refine ret_pure hx ?_
  simp [go_sem, Nat.reduceLT, Nat.reduceAdd, Nat.reduceEqDiff, Nat.reduceLeDiff, Nat.reduceSub, Nat.reduceMul, Int.reduceEq, reduceIte, L7, R7, cWo, cWd, cYs, Wo.ys, Wo.ss, cSi3, cSi, frzAt, pos, frz]
  first | rfl | simp [Wo.setS, Wo.setY, Wo.way]
 ·
  skip
  have hq : q < w.b.length := hq
  have hwl : IntKind.i64.wrap ((w.b.length : Int) - 1) = (w.b.length : Int) - 1 := by rw [IntWalk.i64_in _ (by omega)]
  have hf : wthn (q : Int) 0 ((w.b.length : Int) - 1) = true := wthn_iff.2 (by omega)
  have hgq : w.b[q]? = some (nth w.b q) := nth_get? _ _ hq
  obtain ⟨n, hn⟩ : ∃ n : Int, n = (q : Int) := ⟨_, rfl⟩
  rw [← hn] at hf ⊢
  refine Meets.of_walk Tryz.func7 Tryz.ntmps7 low7 res7 (by simp) fun x hx => ?_
  simp only [go_sem, Nat.reduceLT, Nat.reduceAdd, Nat.reduceEqDiff, Nat.reduceLeDiff, Nat.reduceSub, Nat.reduceMul, Int.reduceEq, reduceIte, L7, R7, cWo, cWd, cAct]
  refine ops_call (.pureE (between_meets 3 1 5) (by simp [go_sem, Nat.reduceLT, Nat.reduceAdd, Nat.reduceEqDiff, Nat.reduceLeDiff, Nat.reduceSub, Nat.reduceMul, Int.reduceEq, reduceIte])) ?_
  rw [show wthn 3 1 5 = true from by decide]
  simp only [go_sem, Nat.reduceLT, Nat.reduceAdd, Nat.reduceEqDiff, Nat.reduceLeDiff, Nat.reduceSub, Nat.reduceMul, Int.reduceEq, reduceIte, Int.ofNat_zero, Int.natCast_one, Int.cast_ofNat_Int, Int.reduceLT, Int.reduceLE, Int.reduceToNat, Nat.reduceLT, Int.toNat_zero, Int.natCast_zero, Int.le_refl, Int.lt_irrefl, Int.reduceAdd, frz, false_or, or_true, cAct, txt_nil, t0]
  refine ops_call (.pureE (between_meets 1 0 1) (by simp [go_sem, Nat.reduceLT, Nat.reduceAdd, Nat.reduceEqDiff, Nat.reduceLeDiff, Nat.reduceSub, Nat.reduceMul, Int.reduceEq, reduceIte])) ?_
  rw [show wthn 1 0 1 = true from by decide]
  simp only [go_sem, Nat.reduceLT, Nat.reduceAdd, Nat.reduceEqDiff, Nat.reduceLeDiff, Nat.reduceSub, Nat.reduceMul, Int.reduceEq, reduceIte, Int.ofNat_zero, Int.natCast_one, Int.cast_ofNat_Int, Int.reduceLT, Int.reduceLE, Int.reduceToNat, Nat.reduceLT, Int.toNat_zero, Int.natCast_zero, Int.le_refl, Int.lt_irrefl, Int.reduceAdd, frz, false_or, or_true, cAct, cWo, cWd]
  refine ops_call (.heapE [] (r' := .agg [.arr 3 2, .arr 4 2]) (H' := [.box (cWo w), .box (cAct 3 1 n 0 t), .box [.nilsl, .nilsl]] ++ hCW w w) (copyWorld_meets w) (by simp) (by simp) (by simp [go_sem, Nat.reduceLT, Nat.reduceAdd, Nat.reduceEqDiff, Nat.reduceLeDiff, Nat.reduceSub, Nat.reduceMul, Int.reduceEq, reduceIte, cWo, cWd]) rfl rfl rfl) ?_
  simp only [go_sem, Nat.reduceLT, Nat.reduceAdd, Nat.reduceEqDiff, Nat.reduceLeDiff, Nat.reduceSub, Nat.reduceMul, Int.reduceEq, reduceIte, Int.ofNat_zero, Int.natCast_one, Int.cast_ofNat_Int, Int.reduceLT, Int.reduceLE, Int.reduceToNat, Nat.reduceLT, Int.toNat_zero, Int.natCast_zero, Int.le_refl, Int.lt_irrefl, Int.reduceAdd, frz, false_or, or_true, cAct, hCW, cWo, cWd, Wo.ss, Wo.ys, cYs, cSi3, cSi, List.map_cons, List.map_nil, List.cons_append, List.nil_append, List.length_map, hwl]
  refine ops_call (.pureE (between_meets n 0 ((w.b.length : Int) - 1)) (by simp [go_sem, Nat.reduceLT, Nat.reduceAdd, Nat.reduceEqDiff, Nat.reduceLeDiff, Nat.reduceSub, Nat.reduceMul, Int.reduceEq, reduceIte])) ?_
  rw [hf]
  rw [hn]
  simp only [go_sem, Nat.reduceLT, Nat.reduceAdd, Nat.reduceEqDiff, Nat.reduceLeDiff, Nat.reduceSub, Nat.reduceMul, Int.reduceEq, reduceIte, Int.ofNat_zero, Int.natCast_one, Int.cast_ofNat_Int, Int.reduceLT, Int.reduceLE, Int.reduceToNat, Nat.reduceLT, Int.toNat_zero, Int.natCast_zero, Int.le_refl, Int.lt_irrefl, Int.reduceAdd, frz, false_or, or_true, cAct, cSi3, cSi]
  refine ops_call (.pureE (without_meets w.b q hq (by omega)) (by simp [go_sem, Nat.reduceLT, Nat.reduceAdd, Nat.reduceEqDiff, Nat.reduceLeDiff, Nat.reduceSub, Nat.reduceMul, Int.reduceEq, reduceIte])) ?_
  simp only [go_sem, Nat.reduceLT, Nat.reduceAdd, Nat.reduceEqDiff, Nat.reduceLeDiff, Nat.reduceSub, Nat.reduceMul, Int.reduceEq, reduceIte, Int.ofNat_zero, Int.natCast_one, Int.cast_ofNat_Int, Int.reduceLT, Int.reduceLE, Int.reduceToNat, Nat.reduceLT, Int.toNat_zero, Int.natCast_zero, Int.le_refl, Int.lt_irrefl, Int.reduceAdd, frz, false_or, or_true, cSi3, cSi, cAct]
  repeat refine ⟨rfl, ?_⟩
  try simp only [go_sem, Nat.reduceLT, Nat.reduceAdd, Nat.reduceEqDiff, Nat.reduceLeDiff, Nat.reduceSub, Nat.reduceMul, Int.reduceEq, reduceIte, Int.ofNat_zero, Int.natCast_one, Int.cast_ofNat_Int, Int.reduceLT, Int.reduceLE, Int.reduceToNat, Nat.reduceLT, Int.toNat_zero, Int.natCast_zero, Int.le_refl, Int.lt_irrefl, Int.reduceAdd, frz, false_or, or_true]
  refine ret_weak (weak_pu 4 rfl rfl (by simp [frz, PV.isPure])) ?_
  refine ret_weak (weak_shut 3 rfl) ?_
  refine ret_pure hx ?_
  simp [go_sem, Nat.reduceLT, Nat.reduceAdd, Nat.reduceEqDiff, Nat.reduceLeDiff, Nat.reduceSub, Nat.reduceMul, Int.reduceEq, reduceIte, L7, R7, cWo, cWd, cYs, Wo.ys, Wo.ss, cSi3, cSi, frzAt, pos, frz]
  first | rfl | simp [Wo.setS, Wo.setY, Wo.way]
set_option maxHeartbeats 4000000 in
theorem doOf_4 (w : Wo) (h : WoOk w) (i : Int) (q : Nat) (t : ByteArray) (t0 : t.size = 0) (hi : i = 0 ∨ i = 1) (hq : q < (w.way i).length) : Meets Tryz.prog 7 [.agg (cWo w), .agg (cAct 4 i q 0 t)] []
    (.tup [.agg (if (w.way i).length = 30 then cWoN else cWo (w.setY i (w.way i ++ [nth (w.way i) q]))), .int .i64 (if (w.way i).length = 30 then 2 else 0)]) [] := by
  have la := h.la
  have lb := h.lb
  rcases hi with rfl | rfl
  · skip
    by_cases h30 : (w.a.length : Int) = 30
    · rw [if_pos (show (w.way 0).length = 30 by show w.a.length = 30; omega), if_pos (show (w.way 0).length = 30 by show w.a.length = 30; omega)]
      have hq : q < w.a.length := hq
      have hwl : IntKind.i64.wrap ((w.a.length : Int) - 1) = (w.a.length : Int) - 1 := by rw [IntWalk.i64_in _ (by omega)]
      have hf : wthn (q : Int) 0 ((w.a.length : Int) - 1) = true := wthn_iff.2 (by omega)
      have hgq : w.a[q]? = some (nth w.a q) := nth_get? _ _ hq
      obtain ⟨n, hn⟩ : ∃ n : Int, n = (q : Int) := ⟨_, rfl⟩
      rw [← hn] at hf ⊢
      refine Meets.of_walk Tryz.func7 Tryz.ntmps7 low7 res7 (by simp) fun x hx => ?_
      simp only [go_sem, Nat.reduceLT, Nat.reduceAdd, Nat.reduceEqDiff, Nat.reduceLeDiff, Nat.reduceSub, Nat.reduceMul, Int.reduceEq, reduceIte, L7, R7, cWo, cWd, cAct]
      refine ops_call (.pureE (between_meets 4 1 5) (by simp [go_sem, Nat.reduceLT, Nat.reduceAdd, Nat.reduceEqDiff, Nat.reduceLeDiff, Nat.reduceSub, Nat.reduceMul, Int.reduceEq, reduceIte])) ?_
      rw [show wthn 4 1 5 = true from by decide]
      simp only [go_sem, Nat.reduceLT, Nat.reduceAdd, Nat.reduceEqDiff, Nat.reduceLeDiff, Nat.reduceSub, Nat.reduceMul, Int.reduceEq, reduceIte, Int.ofNat_zero, Int.natCast_one, Int.cast_ofNat_Int, Int.reduceLT, Int.reduceLE, Int.reduceToNat, Nat.reduceLT, Int.toNat_zero, Int.natCast_zero, Int.le_refl, Int.lt_irrefl, Int.reduceAdd, frz, false_or, or_true, cAct, txt_nil, t0]
      refine ops_call (.pureE (between_meets 0 0 1) (by simp [go_sem, Nat.reduceLT, Nat.reduceAdd, Nat.reduceEqDiff, Nat.reduceLeDiff, Nat.reduceSub, Nat.reduceMul, Int.reduceEq, reduceIte])) ?_
      rw [show wthn 0 0 1 = true from by decide]
      simp only [go_sem, Nat.reduceLT, Nat.reduceAdd, Nat.reduceEqDiff, Nat.reduceLeDiff, Nat.reduceSub, Nat.reduceMul, Int.reduceEq, reduceIte, Int.ofNat_zero, Int.natCast_one, Int.cast_ofNat_Int, Int.reduceLT, Int.reduceLE, Int.reduceToNat, Nat.reduceLT, Int.toNat_zero, Int.natCast_zero, Int.le_refl, Int.lt_irrefl, Int.reduceAdd, frz, false_or, or_true, cAct, cWo, cWd]
      refine ops_call (.heapE [] (r' := .agg [.arr 3 2, .arr 4 2]) (H' := [.box (cWo w), .box (cAct 4 0 n 0 t), .box [.nilsl, .nilsl]] ++ hCW w w) (copyWorld_meets w) (by simp) (by simp) (by simp [go_sem, Nat.reduceLT, Nat.reduceAdd, Nat.reduceEqDiff, Nat.reduceLeDiff, Nat.reduceSub, Nat.reduceMul, Int.reduceEq, reduceIte, cWo, cWd]) rfl rfl rfl) ?_
      simp only [go_sem, Nat.reduceLT, Nat.reduceAdd, Nat.reduceEqDiff, Nat.reduceLeDiff, Nat.reduceSub, Nat.reduceMul, Int.reduceEq, reduceIte, Int.ofNat_zero, Int.natCast_one, Int.cast_ofNat_Int, Int.reduceLT, Int.reduceLE, Int.reduceToNat, Nat.reduceLT, Int.toNat_zero, Int.natCast_zero, Int.le_refl, Int.lt_irrefl, Int.reduceAdd, frz, false_or, or_true, cAct, hCW, cWo, cWd, Wo.ss, Wo.ys, cYs, cSi3, cSi, List.map_cons, List.map_nil, List.cons_append, List.nil_append, List.length_map, hwl]
      refine ops_call (.pureE (between_meets n 0 ((w.a.length : Int) - 1)) (by simp [go_sem, Nat.reduceLT, Nat.reduceAdd, Nat.reduceEqDiff, Nat.reduceLeDiff, Nat.reduceSub, Nat.reduceMul, Int.reduceEq, reduceIte])) ?_
      rw [hf]
      rw [hn]
      simp only [go_sem, Nat.reduceLT, Nat.reduceAdd, Nat.reduceEqDiff, Nat.reduceLeDiff, Nat.reduceSub, Nat.reduceMul, Int.reduceEq, reduceIte, Int.ofNat_zero, Int.natCast_one, Int.cast_ofNat_Int, Int.reduceLT, Int.reduceLE, Int.reduceToNat, Nat.reduceLT, Int.toNat_zero, Int.natCast_zero, Int.le_refl, Int.lt_irrefl, Int.reduceAdd, frz, false_or, or_true, cAct, cSi3, cSi]
      simp only [go_sem, Nat.reduceLT, Nat.reduceAdd, Nat.reduceEqDiff, Nat.reduceLeDiff, Nat.reduceSub, Nat.reduceMul, Int.reduceEq, reduceIte, Int.ofNat_zero, Int.natCast_one, Int.cast_ofNat_Int, Int.reduceLT, Int.reduceLE, Int.reduceToNat, Nat.reduceLT, Int.toNat_zero, Int.natCast_zero, Int.le_refl, Int.lt_irrefl, Int.reduceAdd, frz, false_or, or_true, h30, List.length_map]
      refine ret_pure hx ?_
      simp [go_sem, Nat.reduceLT, Nat.reduceAdd, Nat.reduceEqDiff, Nat.reduceLeDiff, Nat.reduceSub, Nat.reduceMul, Int.reduceEq, reduceIte, L7, R7, cWoN]
    · rw [if_neg (show ¬ (w.way 0).length = 30 by show ¬ w.a.length = 30; omega), if_neg (show ¬ (w.way 0).length = 30 by show ¬ w.a.length = 30; omega)]
      have hq : q < w.a.length := hq
      have hwl : IntKind.i64.wrap ((w.a.length : Int) - 1) = (w.a.length : Int) - 1 := by rw [IntWalk.i64_in _ (by omega)]
      have hf : wthn (q : Int) 0 ((w.a.length : Int) - 1) = true := wthn_iff.2 (by omega)
      have hgq : w.a[q]? = some (nth w.a q) := nth_get? _ _ hq
      obtain ⟨n, hn⟩ : ∃ n : Int, n = (q : Int) := ⟨_, rfl⟩
      rw [← hn] at hf ⊢
      refine Meets.of_walk Tryz.func7 Tryz.ntmps7 low7 res7 (by simp) fun x hx => ?_
      simp only [go_sem, Nat.reduceLT, Nat.reduceAdd, Nat.reduceEqDiff, Nat.reduceLeDiff, Nat.reduceSub, Nat.reduceMul, Int.reduceEq, reduceIte, L7, R7, cWo, cWd, cAct]
      refine ops_call (.pureE (between_meets 4 1 5) (by simp [go_sem, Nat.reduceLT, Nat.reduceAdd, Nat.reduceEqDiff, Nat.reduceLeDiff, Nat.reduceSub, Nat.reduceMul, Int.reduceEq, reduceIte])) ?_
      rw [show wthn 4 1 5 = true from by decide]
      simp only [go_sem, Nat.reduceLT, Nat.reduceAdd, Nat.reduceEqDiff, Nat.reduceLeDiff, Nat.reduceSub, Nat.reduceMul, Int.reduceEq, reduceIte, Int.ofNat_zero, Int.natCast_one, Int.cast_ofNat_Int, Int.reduceLT, Int.reduceLE, Int.reduceToNat, Nat.reduceLT, Int.toNat_zero, Int.natCast_zero, Int.le_refl, Int.lt_irrefl, Int.reduceAdd, frz, false_or, or_true, cAct, txt_nil, t0]
      refine ops_call (.pureE (between_meets 0 0 1) (by simp [go_sem, Nat.reduceLT, Nat.reduceAdd, Nat.reduceEqDiff, Nat.reduceLeDiff, Nat.reduceSub, Nat.reduceMul, Int.reduceEq, reduceIte])) ?_
      rw [show wthn 0 0 1 = true from by decide]
      simp only [go_sem, Nat.reduceLT, Nat.reduceAdd, Nat.reduceEqDiff, Nat.reduceLeDiff, Nat.reduceSub, Nat.reduceMul, Int.reduceEq, reduceIte, Int.ofNat_zero, Int.natCast_one, Int.cast_ofNat_Int, Int.reduceLT, Int.reduceLE, Int.reduceToNat, Nat.reduceLT, Int.toNat_zero, Int.natCast_zero, Int.le_refl, Int.lt_irrefl, Int.reduceAdd, frz, false_or, or_true, cAct, cWo, cWd]
      refine ops_call (.heapE [] (r' := .agg [.arr 3 2, .arr 4 2]) (H' := [.box (cWo w), .box (cAct 4 0 n 0 t), .box [.nilsl, .nilsl]] ++ hCW w w) (copyWorld_meets w) (by simp) (by simp) (by simp [go_sem, Nat.reduceLT, Nat.reduceAdd, Nat.reduceEqDiff, Nat.reduceLeDiff, Nat.reduceSub, Nat.reduceMul, Int.reduceEq, reduceIte, cWo, cWd]) rfl rfl rfl) ?_
      simp only [go_sem, Nat.reduceLT, Nat.reduceAdd, Nat.reduceEqDiff, Nat.reduceLeDiff, Nat.reduceSub, Nat.reduceMul, Int.reduceEq, reduceIte, Int.ofNat_zero, Int.natCast_one, Int.cast_ofNat_Int, Int.reduceLT, Int.reduceLE, Int.reduceToNat, Nat.reduceLT, Int.toNat_zero, Int.natCast_zero, Int.le_refl, Int.lt_irrefl, Int.reduceAdd, frz, false_or, or_true, cAct, hCW, cWo, cWd, Wo.ss, Wo.ys, cYs, cSi3, cSi, List.map_cons, List.map_nil, List.cons_append, List.nil_append, List.length_map, hwl]
      refine ops_call (.pureE (between_meets n 0 ((w.a.length : Int) - 1)) (by simp [go_sem, Nat.reduceLT, Nat.reduceAdd, Nat.reduceEqDiff, Nat.reduceLeDiff, Nat.reduceSub, Nat.reduceMul, Int.reduceEq, reduceIte])) ?_
      rw [hf]
      rw [hn]
      simp only [go_sem, Nat.reduceLT, Nat.reduceAdd, Nat.reduceEqDiff, Nat.reduceLeDiff, Nat.reduceSub, Nat.reduceMul, Int.reduceEq, reduceIte, Int.ofNat_zero, Int.natCast_one, Int.cast_ofNat_Int, Int.reduceLT, Int.reduceLE, Int.reduceToNat, Nat.reduceLT, Int.toNat_zero, Int.natCast_zero, Int.le_refl, Int.lt_irrefl, Int.reduceAdd, frz, false_or, or_true, cAct, cSi3, cSi]
      simp only [go_sem, Nat.reduceLT, Nat.reduceAdd, Nat.reduceEqDiff, Nat.reduceLeDiff, Nat.reduceSub, Nat.reduceMul, Int.reduceEq, reduceIte, Int.ofNat_zero, Int.natCast_one, Int.cast_ofNat_Int, Int.reduceLT, Int.reduceLE, Int.reduceToNat, Nat.reduceLT, Int.toNat_zero, Int.natCast_zero, Int.le_refl, Int.lt_irrefl, Int.reduceAdd, frz, false_or, or_true, h30, List.length_map]
      rw [app_arr rfl rfl (cE_row w.a) (by simp; omega)]
      simp only [go_sem, Nat.reduceLT, Nat.reduceAdd, Nat.reduceEqDiff, Nat.reduceLeDiff, Nat.reduceSub, Nat.reduceMul, Int.reduceEq, reduceIte, Int.ofNat_zero, Int.natCast_one, Int.cast_ofNat_Int, Int.reduceLT, Int.reduceLE, Int.reduceToNat, Nat.reduceLT, Int.toNat_zero, Int.natCast_zero, Int.le_refl, Int.lt_irrefl, Int.reduceAdd, frz, false_or, or_true, hgq, hq, cE]
      rw [app_arr rfl rfl (by simp) (by simp; omega)]
      have hce : List.map cE w.a ++ [[PV.int .i64 (nth w.a q).id.r, .int .i64 (nth w.a q).id.n, .int .i64 (nth w.a q).c, .str (nth w.a q).t, .list ((nth w.a q).ls.map cId)]] = (w.a ++ [nth w.a q]).map cE := by simp [cE]
      simp only [go_sem, Nat.reduceLT, Nat.reduceAdd, Nat.reduceEqDiff, Nat.reduceLeDiff, Nat.reduceSub, Nat.reduceMul, Int.reduceEq, reduceIte, Int.ofNat_zero, Int.natCast_one, Int.cast_ofNat_Int, Int.reduceLT, Int.reduceLE, Int.reduceToNat, Nat.reduceLT, Int.toNat_zero, Int.natCast_zero, Int.le_refl, Int.lt_irrefl, Int.reduceAdd, frz, false_or, or_true, hce]
      repeat refine ⟨rfl, ?_⟩
      try simp only [go_sem, Nat.reduceLT, Nat.reduceAdd, Nat.reduceEqDiff, Nat.reduceLeDiff, Nat.reduceSub, Nat.reduceMul, Int.reduceEq, reduceIte, Int.ofNat_zero, Int.natCast_one, Int.cast_ofNat_Int, Int.reduceLT, Int.reduceLE, Int.reduceToNat, Nat.reduceLT, Int.toNat_zero, Int.natCast_zero, Int.le_refl, Int.lt_irrefl, Int.reduceAdd, frz, false_or, or_true]
      refine ret_weak (weak_shut 6 rfl) ?_
      refine ret_weak (weak_pu 4 rfl rfl (by simp [frz, PV.isPure])) ?_
      refine ret_weak (weak_shut 3 rfl) ?_
      refine ret_pure hx ?_
      simp [go_sem, Nat.reduceLT, Nat.reduceAdd, Nat.reduceEqDiff, Nat.reduceLeDiff, Nat.reduceSub, Nat.reduceMul, Int.reduceEq, reduceIte, L7, R7, cWo, cWd, cYs, Wo.ys, Wo.ss, cSi3, cSi, frzAt, pos, frz]
      first | rfl | simp [Wo.setS, Wo.setY, Wo.way]
  · skip
    by_cases h30 : (w.b.length : Int) = 30
    · rw [if_pos (show (w.way 1).length = 30 by show w.b.length = 30; omega), if_pos (show (w.way 1).length = 30 by show w.b.length = 30; omega)]
      have hq : q < w.b.length := hq
      have hwl : IntKind.i64.wrap ((w.b.length : Int) - 1) = (w.b.length : Int) - 1 := by rw [IntWalk.i64_in _ (by omega)]
      have hf : wthn (q : Int) 0 ((w.b.length : Int) - 1) = true := wthn_iff.2 (by omega)
      have hgq : w.b[q]? = some (nth w.b q) := nth_get? _ _ hq
      obtain ⟨n, hn⟩ : ∃ n : Int, n = (q : Int) := ⟨_, rfl⟩
      rw [← hn] at hf ⊢
      refine Meets.of_walk Tryz.func7 Tryz.ntmps7 low7 res7 (by simp) fun x hx => ?_
      simp only [go_sem, Nat.reduceLT, Nat.reduceAdd, Nat.reduceEqDiff, Nat.reduceLeDiff, Nat.reduceSub, Nat.reduceMul, Int.reduceEq, reduceIte, L7, R7, cWo, cWd, cAct]
      refine ops_call (.pureE (between_meets 4 1 5) (by simp [go_sem, Nat.reduceLT, Nat.reduceAdd, Nat.reduceEqDiff, Nat.reduceLeDiff, Nat.reduceSub, Nat.reduceMul, Int.reduceEq, reduceIte])) ?_
      rw [show wthn 4 1 5 = true from by decide]
      simp only [go_sem, Nat.reduceLT, Nat.reduceAdd, Nat.reduceEqDiff, Nat.reduceLeDiff, Nat.reduceSub, Nat.reduceMul, Int.reduceEq, reduceIte, Int.ofNat_zero, Int.natCast_one, Int.cast_ofNat_Int, Int.reduceLT, Int.reduceLE, Int.reduceToNat, Nat.reduceLT, Int.toNat_zero, Int.natCast_zero, Int.le_refl, Int.lt_irrefl, Int.reduceAdd, frz, false_or, or_true, cAct, txt_nil, t0]
      refine ops_call (.pureE (between_meets 1 0 1) (by simp [go_sem, Nat.reduceLT, Nat.reduceAdd, Nat.reduceEqDiff, Nat.reduceLeDiff, Nat.reduceSub, Nat.reduceMul, Int.reduceEq, reduceIte])) ?_
      rw [show wthn 1 0 1 = true from by decide]
      simp only [go_sem, Nat.reduceLT, Nat.reduceAdd, Nat.reduceEqDiff, Nat.reduceLeDiff, Nat.reduceSub, Nat.reduceMul, Int.reduceEq, reduceIte, Int.ofNat_zero, Int.natCast_one, Int.cast_ofNat_Int, Int.reduceLT, Int.reduceLE, Int.reduceToNat, Nat.reduceLT, Int.toNat_zero, Int.natCast_zero, Int.le_refl, Int.lt_irrefl, Int.reduceAdd, frz, false_or, or_true, cAct, cWo, cWd]
      refine ops_call (.heapE [] (r' := .agg [.arr 3 2, .arr 4 2]) (H' := [.box (cWo w), .box (cAct 4 1 n 0 t), .box [.nilsl, .nilsl]] ++ hCW w w) (copyWorld_meets w) (by simp) (by simp) (by simp [go_sem, Nat.reduceLT, Nat.reduceAdd, Nat.reduceEqDiff, Nat.reduceLeDiff, Nat.reduceSub, Nat.reduceMul, Int.reduceEq, reduceIte, cWo, cWd]) rfl rfl rfl) ?_
      simp only [go_sem, Nat.reduceLT, Nat.reduceAdd, Nat.reduceEqDiff, Nat.reduceLeDiff, Nat.reduceSub, Nat.reduceMul, Int.reduceEq, reduceIte, Int.ofNat_zero, Int.natCast_one, Int.cast_ofNat_Int, Int.reduceLT, Int.reduceLE, Int.reduceToNat, Nat.reduceLT, Int.toNat_zero, Int.natCast_zero, Int.le_refl, Int.lt_irrefl, Int.reduceAdd, frz, false_or, or_true, cAct, hCW, cWo, cWd, Wo.ss, Wo.ys, cYs, cSi3, cSi, List.map_cons, List.map_nil, List.cons_append, List.nil_append, List.length_map, hwl]
      refine ops_call (.pureE (between_meets n 0 ((w.b.length : Int) - 1)) (by simp [go_sem, Nat.reduceLT, Nat.reduceAdd, Nat.reduceEqDiff, Nat.reduceLeDiff, Nat.reduceSub, Nat.reduceMul, Int.reduceEq, reduceIte])) ?_
      rw [hf]
      rw [hn]
      simp only [go_sem, Nat.reduceLT, Nat.reduceAdd, Nat.reduceEqDiff, Nat.reduceLeDiff, Nat.reduceSub, Nat.reduceMul, Int.reduceEq, reduceIte, Int.ofNat_zero, Int.natCast_one, Int.cast_ofNat_Int, Int.reduceLT, Int.reduceLE, Int.reduceToNat, Nat.reduceLT, Int.toNat_zero, Int.natCast_zero, Int.le_refl, Int.lt_irrefl, Int.reduceAdd, frz, false_or, or_true, cAct, cSi3, cSi]
      simp only [go_sem, Nat.reduceLT, Nat.reduceAdd, Nat.reduceEqDiff, Nat.reduceLeDiff, Nat.reduceSub, Nat.reduceMul, Int.reduceEq, reduceIte, Int.ofNat_zero, Int.natCast_one, Int.cast_ofNat_Int, Int.reduceLT, Int.reduceLE, Int.reduceToNat, Nat.reduceLT, Int.toNat_zero, Int.natCast_zero, Int.le_refl, Int.lt_irrefl, Int.reduceAdd, frz, false_or, or_true, h30, List.length_map]
      refine ret_pure hx ?_
      simp [go_sem, Nat.reduceLT, Nat.reduceAdd, Nat.reduceEqDiff, Nat.reduceLeDiff, Nat.reduceSub, Nat.reduceMul, Int.reduceEq, reduceIte, L7, R7, cWoN]
    · rw [if_neg (show ¬ (w.way 1).length = 30 by show ¬ w.b.length = 30; omega), if_neg (show ¬ (w.way 1).length = 30 by show ¬ w.b.length = 30; omega)]
      have hq : q < w.b.length := hq
      have hwl : IntKind.i64.wrap ((w.b.length : Int) - 1) = (w.b.length : Int) - 1 := by rw [IntWalk.i64_in _ (by omega)]
      have hf : wthn (q : Int) 0 ((w.b.length : Int) - 1) = true := wthn_iff.2 (by omega)
      have hgq : w.b[q]? = some (nth w.b q) := nth_get? _ _ hq
      obtain ⟨n, hn⟩ : ∃ n : Int, n = (q : Int) := ⟨_, rfl⟩
      rw [← hn] at hf ⊢
      refine Meets.of_walk Tryz.func7 Tryz.ntmps7 low7 res7 (by simp) fun x hx => ?_
      simp only [go_sem, Nat.reduceLT, Nat.reduceAdd, Nat.reduceEqDiff, Nat.reduceLeDiff, Nat.reduceSub, Nat.reduceMul, Int.reduceEq, reduceIte, L7, R7, cWo, cWd, cAct]
      refine ops_call (.pureE (between_meets 4 1 5) (by simp [go_sem, Nat.reduceLT, Nat.reduceAdd, Nat.reduceEqDiff, Nat.reduceLeDiff, Nat.reduceSub, Nat.reduceMul, Int.reduceEq, reduceIte])) ?_
      rw [show wthn 4 1 5 = true from by decide]
      simp only [go_sem, Nat.reduceLT, Nat.reduceAdd, Nat.reduceEqDiff, Nat.reduceLeDiff, Nat.reduceSub, Nat.reduceMul, Int.reduceEq, reduceIte, Int.ofNat_zero, Int.natCast_one, Int.cast_ofNat_Int, Int.reduceLT, Int.reduceLE, Int.reduceToNat, Nat.reduceLT, Int.toNat_zero, Int.natCast_zero, Int.le_refl, Int.lt_irrefl, Int.reduceAdd, frz, false_or, or_true, cAct, txt_nil, t0]
      refine ops_call (.pureE (between_meets 1 0 1) (by simp [go_sem, Nat.reduceLT, Nat.reduceAdd, Nat.reduceEqDiff, Nat.reduceLeDiff, Nat.reduceSub, Nat.reduceMul, Int.reduceEq, reduceIte])) ?_
      rw [show wthn 1 0 1 = true from by decide]
      simp only [go_sem, Nat.reduceLT, Nat.reduceAdd, Nat.reduceEqDiff, Nat.reduceLeDiff, Nat.reduceSub, Nat.reduceMul, Int.reduceEq, reduceIte, Int.ofNat_zero, Int.natCast_one, Int.cast_ofNat_Int, Int.reduceLT, Int.reduceLE, Int.reduceToNat, Nat.reduceLT, Int.toNat_zero, Int.natCast_zero, Int.le_refl, Int.lt_irrefl, Int.reduceAdd, frz, false_or, or_true, cAct, cWo, cWd]
      refine ops_call (.heapE [] (r' := .agg [.arr 3 2, .arr 4 2]) (H' := [.box (cWo w), .box (cAct 4 1 n 0 t), .box [.nilsl, .nilsl]] ++ hCW w w) (copyWorld_meets w) (by simp) (by simp) (by simp [go_sem, Nat.reduceLT, Nat.reduceAdd, Nat.reduceEqDiff, Nat.reduceLeDiff, Nat.reduceSub, Nat.reduceMul, Int.reduceEq, reduceIte, cWo, cWd]) rfl rfl rfl) ?_
      simp only [go_sem, Nat.reduceLT, Nat.reduceAdd, Nat.reduceEqDiff, Nat.reduceLeDiff, Nat.reduceSub, Nat.reduceMul, Int.reduceEq, reduceIte, Int.ofNat_zero, Int.natCast_one, Int.cast_ofNat_Int, Int.reduceLT, Int.reduceLE, Int.reduceToNat, Nat.reduceLT, Int.toNat_zero, Int.natCast_zero, Int.le_refl, Int.lt_irrefl, Int.reduceAdd, frz, false_or, or_true, cAct, hCW, cWo, cWd, Wo.ss, Wo.ys, cYs, cSi3, cSi, List.map_cons, List.map_nil, List.cons_append, List.nil_append, List.length_map, hwl]
      refine ops_call (.pureE (between_meets n 0 ((w.b.length : Int) - 1)) (by simp [go_sem, Nat.reduceLT, Nat.reduceAdd, Nat.reduceEqDiff, Nat.reduceLeDiff, Nat.reduceSub, Nat.reduceMul, Int.reduceEq, reduceIte])) ?_
      rw [hf]
      rw [hn]
      simp only [go_sem, Nat.reduceLT, Nat.reduceAdd, Nat.reduceEqDiff, Nat.reduceLeDiff, Nat.reduceSub, Nat.reduceMul, Int.reduceEq, reduceIte, Int.ofNat_zero, Int.natCast_one, Int.cast_ofNat_Int, Int.reduceLT, Int.reduceLE, Int.reduceToNat, Nat.reduceLT, Int.toNat_zero, Int.natCast_zero, Int.le_refl, Int.lt_irrefl, Int.reduceAdd, frz, false_or, or_true, cAct, cSi3, cSi]
      simp only [go_sem, Nat.reduceLT, Nat.reduceAdd, Nat.reduceEqDiff, Nat.reduceLeDiff, Nat.reduceSub, Nat.reduceMul, Int.reduceEq, reduceIte, Int.ofNat_zero, Int.natCast_one, Int.cast_ofNat_Int, Int.reduceLT, Int.reduceLE, Int.reduceToNat, Nat.reduceLT, Int.toNat_zero, Int.natCast_zero, Int.le_refl, Int.lt_irrefl, Int.reduceAdd, frz, false_or, or_true, h30, List.length_map]
      rw [app_arr rfl rfl (cE_row w.b) (by simp; omega)]
      simp only [go_sem, Nat.reduceLT, Nat.reduceAdd, Nat.reduceEqDiff, Nat.reduceLeDiff, Nat.reduceSub, Nat.reduceMul, Int.reduceEq, reduceIte, Int.ofNat_zero, Int.natCast_one, Int.cast_ofNat_Int, Int.reduceLT, Int.reduceLE, Int.reduceToNat, Nat.reduceLT, Int.toNat_zero, Int.natCast_zero, Int.le_refl, Int.lt_irrefl, Int.reduceAdd, frz, false_or, or_true, hgq, hq, cE]
      rw [app_arr rfl rfl (by simp) (by simp; omega)]
      have hce : List.map cE w.b ++ [[PV.int .i64 (nth w.b q).id.r, .int .i64 (nth w.b q).id.n, .int .i64 (nth w.b q).c, .str (nth w.b q).t, .list ((nth w.b q).ls.map cId)]] = (w.b ++ [nth w.b q]).map cE := by simp [cE]
      simp only [go_sem, Nat.reduceLT, Nat.reduceAdd, Nat.reduceEqDiff, Nat.reduceLeDiff, Nat.reduceSub, Nat.reduceMul, Int.reduceEq, reduceIte, Int.ofNat_zero, Int.natCast_one, Int.cast_ofNat_Int, Int.reduceLT, Int.reduceLE, Int.reduceToNat, Nat.reduceLT, Int.toNat_zero, Int.natCast_zero, Int.le_refl, Int.lt_irrefl, Int.reduceAdd, frz, false_or, or_true, hce]
      repeat refine ⟨rfl, ?_⟩
      try simp only [go_sem, Nat.reduceLT, Nat.reduceAdd, Nat.reduceEqDiff, Nat.reduceLeDiff, Nat.reduceSub, Nat.reduceMul, Int.reduceEq, reduceIte, Int.ofNat_zero, Int.natCast_one, Int.cast_ofNat_Int, Int.reduceLT, Int.reduceLE, Int.reduceToNat, Nat.reduceLT, Int.toNat_zero, Int.natCast_zero, Int.le_refl, Int.lt_irrefl, Int.reduceAdd, frz, false_or, or_true]
      refine ret_weak (weak_shut 6 rfl) ?_
      refine ret_weak (weak_pu 4 rfl rfl (by simp [frz, PV.isPure])) ?_
      refine ret_weak (weak_shut 3 rfl) ?_
      refine ret_pure hx ?_
      simp [go_sem, Nat.reduceLT, Nat.reduceAdd, Nat.reduceEqDiff, Nat.reduceLeDiff, Nat.reduceSub, Nat.reduceMul, Int.reduceEq, reduceIte, L7, R7, cWo, cWd, cYs, Wo.ys, Wo.ss, cSi3, cSi, frzAt, pos, frz]
      first | rfl | simp [Wo.setS, Wo.setY, Wo.way]
theorem doOf_meets (w : Wo) (h : WoOk w) (k i n c : Int) (t : ByteArray) : Meets Tryz.prog 7 [.agg (cWo w), .agg (cAct k i n c t)] [] (.tup [.agg (doC w k i n c t), .int .i64 (doErr w k i n c t)]) [] := by
 by_cases hk : k < 1 ∨ 5 < k
 ·
  have e : doErr w k i n c t = 7 := by rw [doErr, if_pos hk]
  rw [doC, e, if_neg (by decide)]
  exact doOf_kind w k i n c t hk
 ·
  by_cases he : extraB k n c t = true
  ·
   have e : doErr w k i n c t = 1 := by rw [doErr, if_neg hk, if_pos he]
   rw [doC, e, if_neg (by decide)]
   exact doOf_extra w k i n c t hk he
  ·
   by_cases hi : i = 0 ∨ i = 1
   ·
    have e : doErr w k i n c t = doErr0 w k i n c t := by rw [doErr, if_neg hk, if_neg he, if_neg (by simp [hi])]
    rw [doC, e]
    by_cases k1 : k = 1
    ·
     subst k1
     have n0 : n = 0 := by simpa [extraB] using he
     subst n0
     have e2 : doErr0 w 1 i 0 c t = apErr i (w.log i) c t := by rw [doErr0, if_pos rfl]
     have e3 : doW w 1 i 0 c t = sendW (w.setS i (settled (w.log i ++ [apE i (w.log i) c t]) (w.wts i))) (1 - i) (apE i (w.log i) c t) := by rw [doW, if_pos rfl]
     rw [e2, e3]
     exact doOf_1 w h i c t hi
    ·
     have c0 : c = 0 := by
      by_cases c0 : c = 0
      ·
       exact c0
      ·
       exact (he (by simp [extraB, k1, c0])).elim
     have t0 : t.size = 0 := by
      by_cases t0 : t.size = 0
      ·
       exact t0
      ·
       exact (he (by simp [extraB, k1, t0])).elim
     subst c0
     by_cases k5 : k = 5
     ·
      subst k5
      have n0 : n = 0 := by simpa [extraB, t0] using he
      subst n0
      have e2 : doErr0 w 5 i 0 0 t = 0 := by rw [doErr0, if_neg (by decide), if_pos rfl]; exact (allW_ok h hi).1
      have e3 : doW w 5 i 0 0 t = w.setS i (allW w i).2 := by rw [doW, if_neg (by decide), if_pos rfl]
      rw [e2, if_pos rfl, e3]
      exact doOf_5 w h i t t0 hi
     ·
      have hk3 : k = 2 ∨ k = 3 ∨ k = 4 := by omega
      by_cases hn : n < 0 ∨ ((w.way i).length : Int) ≤ n
      ·
       have e2 : doErr0 w k i n 0 t = 5 := by rw [doErr0, if_neg k1, if_neg k5, if_pos hn]
       rw [e2, if_neg (by decide)]
       exact doOf_n w h k i n t t0 hk3 hi hn
      ·
       obtain ⟨q, rfl⟩ : ∃ q : Nat, n = q := ⟨n.toNat, by omega⟩
       have hq : q < (w.way i).length := by omega
       rcases hk3 with rfl | rfl | rfl
       ·
        obtain ⟨-, y2, y3⟩ := h.by_ hi
        have hm := nthM hq
        have hr0 := rc_born h hi (y2 _ hm) (y3 _ hm)
        have e2 : doErr0 w 2 i q 0 t = 0 := by rw [doErr0, if_neg (by decide), if_neg (by decide), if_neg hn, if_pos rfl, Int.toNat_natCast]; exact hr0
        have e3 : doW w 2 i q 0 t = (w.setS i (rcSi i (w.log i) (w.wts i) (nth (w.way i) q)).2).setY i ((w.way i).eraseIdx q) := by rw [doW, if_neg (by decide), if_neg (by decide), if_pos rfl, Int.toNat_natCast]
        rw [e2, if_pos rfl, e3]
        exact doOf_2 w h i q t t0 hi hq
       ·
        have e2 : doErr0 w 3 i q 0 t = 0 := by rw [doErr0, if_neg (by decide), if_neg (by decide), if_neg hn, if_neg (by decide), if_pos rfl]
        have e3 : doW w 3 i q 0 t = w.setY i ((w.way i).eraseIdx q) := by rw [doW, if_neg (by decide), if_neg (by decide), if_neg (by decide), if_pos rfl, Int.toNat_natCast]
        rw [e2, if_pos rfl, e3]
        exact doOf_3 w h i q t t0 hi hq
       ·
        have e2 : doErr0 w 4 i q 0 t = if (w.way i).length = 30 then 2 else 0 := by rw [doErr0, if_neg (by decide), if_neg (by decide), if_neg hn, if_neg (by decide), if_neg (by decide)]
        have e3 : doW w 4 i q 0 t = w.setY i (w.way i ++ [nth (w.way i) q]) := by rw [doW, if_neg (by decide), if_neg (by decide), if_neg (by decide), if_neg (by decide), Int.toNat_natCast]
        have := doOf_4 w h i q t t0 hi hq
        rw [e2, e3]
        by_cases h30 : (w.way i).length = 30
        ·
         simp only [if_pos h30] at this ⊢
         rwa [if_neg (by decide)]
        ·
         simp only [if_neg h30, if_true] at this ⊢
         exact this
   ·
    have e : doErr w k i n c t = 3 := by rw [doErr, if_neg hk, if_neg he, if_pos hi]
    rw [doC, e, if_neg (by decide)]
    exact doOf_at w k i n c t hk he hi
end Go.Proofs.YtkgobnnkcnnfhaaGreat
/- WorldTells, as a contract. -/
namespace Go.Proofs.YtkgobnnkcnnfhaaGreat
set_option linter.unusedSimpArgs false
set_option linter.unusedVariables false
open Go.RowKit
theorem doC_wd (w : Wo) (k i n c : Int) (t : ByteArray) : doC w k i n c t = if doErr w k i n c t = 0 then cWd (doW w k i n c t).ss (doW w k i n c t).ys else cWoN := rfl
theorem okSs_new : okSs wNew.ss := (okSs_of wb_ok0).1
theorem okYs_new : okYs wNew.ys := (okSs_of wb_ok0).2
set_option maxRecDepth 10000 in
set_option maxHeartbeats 8000000 in
theorem worldTells_meets (ss : List Si) (ys : List (List Entry)) (k i n c : Int) (t : ByteArray) (hs : ss.length ≤ 1000000000000000) (hy : ys.length ≤ 1000000000000000) (ho : okSs ss) (hoy : okYs ys) :
    Meets Tryz.prog 3 [.agg (cWd ss ys), .agg (cAct k i n c t)] [] (.bool true) [] := by
  have hck := worldCheck_meets ss ys hs hy ho hoy
  have hck2 := checkWorld_meets ss ys hs hy ho hoy
  refine Meets.of_walk Tryz.func3 Tryz.ntmps3 low3 res3 (by simp) fun x hx => ?_
  simp only [go_sem, Nat.reduceLT, Nat.reduceAdd, Nat.reduceEqDiff, Nat.reduceLeDiff, Nat.reduceSub, Nat.reduceMul, Int.reduceEq, reduceIte, L3, R3, cWd, cAct]
  by_cases h : woErr ss ys = 0
  · obtain ⟨w, rfl, rfl, hw⟩ := woErr_inv h
    have hdo := woDo_ok w hw k i n c t
    have hdo2 := doOf_meets w hw k i n c t
    have hset := settle_ok w hw
    have hall := allAt_meets w 0 (.inl rfl) (hw.si (.inl rfl)) (hw.log (other_of (i := 0) (.inl rfl)))
    obtain ⟨-, hw2, -, -, -⟩ := allW_ok hw (i := 0) (.inl rfl)
    have hall2 := allAt_meets (w.setS 0 (allW w 0).2) 1 (.inr rfl) (hw2.si (.inr rfl)) (hw2.log (other_of (i := 1) (.inr rfl)))
    have hst : (w.setS 0 (allW w 0).2).setS 1 (allW (w.setS 0 (allW w 0).2) 1).2 = stW w := rfl
    rw [hst] at hall2
    have hok := (stW_ok hw).1
    generalize w.setS 0 (allW w 0).2 = w1 at *
    clear hst
    generalize stW w = w2 at *
    obtain ⟨o1, o2⟩ := okSs_of hok
    have hi2 := worldIs_meets 0 w2.ss w2.ys (by simp [Wo.ss]) (by simp [Wo.ys]) o1 o2
    rw [if_pos rfl] at hi2
    have hi1 : ∃ (e : Int) (d : List PV), (∃ ds dy, d = cWd ds dy) ∧ doErr w k i n c t = e ∧ doC w k i n c t = d ∧ Meets Tryz.prog 14 [.agg d, .int .i64 e, .int .i64 e, .agg d] [] (.bool true) [] := by
      refine ⟨_, _, doC_cWd w k i n c t, rfl, rfl, ?_⟩
      by_cases he : doErr w k i n c t = 0
      · obtain ⟨-, hok3, -, -⟩ := doW_ok hw he
        obtain ⟨p1, p2⟩ := okSs_of hok3
        have := worldIs_meets 0 (doW w k i n c t).ss (doW w k i n c t).ys (by simp [Wo.ss]) (by simp [Wo.ys]) p1 p2
        rw [if_pos rfl] at this
        rw [doC_wd, if_pos he, he]
        exact this
      · have := worldIs_meets (doErr w k i n c t) [] [] (by simp) (by simp) (by intro s h; cases h) (by intro s h; cases h)
        rw [if_neg he] at this
        rw [doC_wd, if_neg he]
        exact this
    obtain ⟨e, d, ⟨ds, dy, rfl⟩, e1, e2, hi1⟩ := hi1
    rw [e1, e2] at hdo hdo2
    refine ops_call (.pureE hdo (by simp [go_sem, Nat.reduceLT, Nat.reduceAdd, Nat.reduceEqDiff, Nat.reduceLeDiff, Nat.reduceSub, Nat.reduceMul, Int.reduceEq, reduceIte, cWo, cWd, cAct])) ?_
    simp only [go_sem, Nat.reduceLT, Nat.reduceAdd, Nat.reduceEqDiff, Nat.reduceLeDiff, Nat.reduceSub, Nat.reduceMul, Int.reduceEq, reduceIte, cWd]
    refine ops_call (.pureE hset (by simp [go_sem, Nat.reduceLT, Nat.reduceAdd, Nat.reduceEqDiff, Nat.reduceLeDiff, Nat.reduceSub, Nat.reduceMul, Int.reduceEq, reduceIte, cWo, cWd])) ?_
    simp only [go_sem, Nat.reduceLT, Nat.reduceAdd, Nat.reduceEqDiff, Nat.reduceLeDiff, Nat.reduceSub, Nat.reduceMul, Int.reduceEq, reduceIte, cWo, cWd]
    rw [h] at hck hck2
    refine ops_call (.pureE hck2 (by simp [go_sem, Nat.reduceLT, Nat.reduceAdd, Nat.reduceEqDiff, Nat.reduceLeDiff, Nat.reduceSub, Nat.reduceMul, Int.reduceEq, reduceIte, cWd])) ?_
    simp only [go_sem, Nat.reduceLT, Nat.reduceAdd, Nat.reduceEqDiff, Nat.reduceLeDiff, Nat.reduceSub, Nat.reduceMul, Int.reduceEq, reduceIte, cWo, cWd, cAct]
    refine ops_call (.pureE hdo2 (by simp [go_sem, Nat.reduceLT, Nat.reduceAdd, Nat.reduceEqDiff, Nat.reduceLeDiff, Nat.reduceSub, Nat.reduceMul, Int.reduceEq, reduceIte, cWo, cWd, cAct])) ?_
    simp only [go_sem, Nat.reduceLT, Nat.reduceAdd, Nat.reduceEqDiff, Nat.reduceLeDiff, Nat.reduceSub, Nat.reduceMul, Int.reduceEq, reduceIte, cWo, cWd]
    refine ops_call (.pureE hall (by simp [go_sem, Nat.reduceLT, Nat.reduceAdd, Nat.reduceEqDiff, Nat.reduceLeDiff, Nat.reduceSub, Nat.reduceMul, Int.reduceEq, reduceIte, cWo, cWd])) ?_
    simp only [go_sem, Nat.reduceLT, Nat.reduceAdd, Nat.reduceEqDiff, Nat.reduceLeDiff, Nat.reduceSub, Nat.reduceMul, Int.reduceEq, reduceIte, cWo, cWd]
    refine ops_call (.pureE hall2 (by simp [go_sem, Nat.reduceLT, Nat.reduceAdd, Nat.reduceEqDiff, Nat.reduceLeDiff, Nat.reduceSub, Nat.reduceMul, Int.reduceEq, reduceIte, cWo, cWd])) ?_
    simp only [go_sem, Nat.reduceLT, Nat.reduceAdd, Nat.reduceEqDiff, Nat.reduceLeDiff, Nat.reduceSub, Nat.reduceMul, Int.reduceEq, reduceIte, cWo, cWd]
    refine ops_call (.pure worldBegun_meets) ?_
    simp only [go_sem, Nat.reduceLT, Nat.reduceAdd, Nat.reduceEqDiff, Nat.reduceLeDiff, Nat.reduceSub, Nat.reduceMul, Int.reduceEq, reduceIte, cWo, cWd]
    refine ops_call (.pure woNew_meets) ?_
    simp only [go_sem, Nat.reduceLT, Nat.reduceAdd, Nat.reduceEqDiff, Nat.reduceLeDiff, Nat.reduceSub, Nat.reduceMul, Int.reduceEq, reduceIte, cWo, cWd]
    refine ops_call (.pure newWorld_meets) ?_
    simp only [go_sem, Nat.reduceLT, Nat.reduceAdd, Nat.reduceEqDiff, Nat.reduceLeDiff, Nat.reduceSub, Nat.reduceMul, Int.reduceEq, reduceIte, cWo, cWd]
    refine ops_call (.pureE (sameWorld_meets wNew.ss wNew.ys (by decide) (by decide) okSs_new okYs_new) (by simp [go_sem, Nat.reduceLT, Nat.reduceAdd, Nat.reduceEqDiff, Nat.reduceLeDiff, Nat.reduceSub, Nat.reduceMul, Int.reduceEq, reduceIte, cWd, cWo])) ?_
    simp only [go_sem, Nat.reduceLT, Nat.reduceAdd, Nat.reduceEqDiff, Nat.reduceLeDiff, Nat.reduceSub, Nat.reduceMul, Int.reduceEq, reduceIte, cWo, cWd]
    refine ops_call (.pureE hck (by simp [go_sem, Nat.reduceLT, Nat.reduceAdd, Nat.reduceEqDiff, Nat.reduceLeDiff, Nat.reduceSub, Nat.reduceMul, Int.reduceEq, reduceIte, cWd])) ?_
    simp only [go_sem, Nat.reduceLT, Nat.reduceAdd, Nat.reduceEqDiff, Nat.reduceLeDiff, Nat.reduceSub, Nat.reduceMul, Int.reduceEq, reduceIte, cWo, cWd]
    refine ops_call (.pureE hck2 (by simp [go_sem, Nat.reduceLT, Nat.reduceAdd, Nat.reduceEqDiff, Nat.reduceLeDiff, Nat.reduceSub, Nat.reduceMul, Int.reduceEq, reduceIte, cWd])) ?_
    simp only [go_sem, Nat.reduceLT, Nat.reduceAdd, Nat.reduceEqDiff, Nat.reduceLeDiff, Nat.reduceSub, Nat.reduceMul, Int.reduceEq, reduceIte, cWo, cWd]
    refine ops_call (.pureE hi1 (by simp [go_sem, Nat.reduceLT, Nat.reduceAdd, Nat.reduceEqDiff, Nat.reduceLeDiff, Nat.reduceSub, Nat.reduceMul, Int.reduceEq, reduceIte, cWd])) ?_
    simp only [go_sem, Nat.reduceLT, Nat.reduceAdd, Nat.reduceEqDiff, Nat.reduceLeDiff, Nat.reduceSub, Nat.reduceMul, Int.reduceEq, reduceIte, cWo, cWd]
    refine ops_call (.pureE hi2 (by simp [go_sem, Nat.reduceLT, Nat.reduceAdd, Nat.reduceEqDiff, Nat.reduceLeDiff, Nat.reduceSub, Nat.reduceMul, Int.reduceEq, reduceIte, cWd])) ?_
    simp only [go_sem, Nat.reduceLT, Nat.reduceAdd, Nat.reduceEqDiff, Nat.reduceLeDiff, Nat.reduceSub, Nat.reduceMul, Int.reduceEq, reduceIte]
    repeat refine ⟨rfl, ?_⟩
    refine ret_pure hx ?_
    simp [go_sem, Nat.reduceLT, Nat.reduceAdd, Nat.reduceEqDiff, Nat.reduceLeDiff, Nat.reduceSub, Nat.reduceMul, Int.reduceEq, reduceIte, L3, R3]
  · have hdo := woDo_bad ss ys k i n c t hs hy ho hoy h
    have hset := settle_bad ss ys hs hy ho hoy h
    have hi1 := worldIs_meets (woErr ss ys) [] [] (by simp) (by simp) (by intro s h; cases h) (by intro s h; cases h)
    rw [if_neg h] at hi1
    refine ops_call (.pureE hdo (by simp [go_sem, Nat.reduceLT, Nat.reduceAdd, Nat.reduceEqDiff, Nat.reduceLeDiff, Nat.reduceSub, Nat.reduceMul, Int.reduceEq, reduceIte, cWd, cAct])) ?_
    simp only [go_sem, Nat.reduceLT, Nat.reduceAdd, Nat.reduceEqDiff, Nat.reduceLeDiff, Nat.reduceSub, Nat.reduceMul, Int.reduceEq, reduceIte, cWoN]
    refine ops_call (.pureE hset (by simp [go_sem, Nat.reduceLT, Nat.reduceAdd, Nat.reduceEqDiff, Nat.reduceLeDiff, Nat.reduceSub, Nat.reduceMul, Int.reduceEq, reduceIte, cWd])) ?_
    simp only [go_sem, Nat.reduceLT, Nat.reduceAdd, Nat.reduceEqDiff, Nat.reduceLeDiff, Nat.reduceSub, Nat.reduceMul, Int.reduceEq, reduceIte, cWoN, cWd]
    refine ops_call (.pureE hck2 (by simp [go_sem, Nat.reduceLT, Nat.reduceAdd, Nat.reduceEqDiff, Nat.reduceLeDiff, Nat.reduceSub, Nat.reduceMul, Int.reduceEq, reduceIte, cWd])) ?_
    simp only [go_sem, Nat.reduceLT, Nat.reduceAdd, Nat.reduceEqDiff, Nat.reduceLeDiff, Nat.reduceSub, Nat.reduceMul, Int.reduceEq, reduceIte, h, cWd]
    refine ops_call (.pure worldBegun_meets) ?_
    simp only [go_sem, Nat.reduceLT, Nat.reduceAdd, Nat.reduceEqDiff, Nat.reduceLeDiff, Nat.reduceSub, Nat.reduceMul, Int.reduceEq, reduceIte, cWo, cWd]
    refine ops_call (.pure woNew_meets) ?_
    simp only [go_sem, Nat.reduceLT, Nat.reduceAdd, Nat.reduceEqDiff, Nat.reduceLeDiff, Nat.reduceSub, Nat.reduceMul, Int.reduceEq, reduceIte, cWo, cWd]
    refine ops_call (.pure newWorld_meets) ?_
    simp only [go_sem, Nat.reduceLT, Nat.reduceAdd, Nat.reduceEqDiff, Nat.reduceLeDiff, Nat.reduceSub, Nat.reduceMul, Int.reduceEq, reduceIte, cWo, cWd]
    refine ops_call (.pureE (sameWorld_meets wNew.ss wNew.ys (by decide) (by decide) okSs_new okYs_new) (by simp [go_sem, Nat.reduceLT, Nat.reduceAdd, Nat.reduceEqDiff, Nat.reduceLeDiff, Nat.reduceSub, Nat.reduceMul, Int.reduceEq, reduceIte, cWd, cWo])) ?_
    simp only [go_sem, Nat.reduceLT, Nat.reduceAdd, Nat.reduceEqDiff, Nat.reduceLeDiff, Nat.reduceSub, Nat.reduceMul, Int.reduceEq, reduceIte, cWo, cWd]
    refine ops_call (.pureE hck (by simp [go_sem, Nat.reduceLT, Nat.reduceAdd, Nat.reduceEqDiff, Nat.reduceLeDiff, Nat.reduceSub, Nat.reduceMul, Int.reduceEq, reduceIte, cWd])) ?_
    simp only [go_sem, Nat.reduceLT, Nat.reduceAdd, Nat.reduceEqDiff, Nat.reduceLeDiff, Nat.reduceSub, Nat.reduceMul, Int.reduceEq, reduceIte, cWo, cWd]
    refine ops_call (.pureE hck2 (by simp [go_sem, Nat.reduceLT, Nat.reduceAdd, Nat.reduceEqDiff, Nat.reduceLeDiff, Nat.reduceSub, Nat.reduceMul, Int.reduceEq, reduceIte, cWd])) ?_
    simp only [go_sem, Nat.reduceLT, Nat.reduceAdd, Nat.reduceEqDiff, Nat.reduceLeDiff, Nat.reduceSub, Nat.reduceMul, Int.reduceEq, reduceIte, cWo, cWd]
    refine ops_call (.pureE hi1 (by simp [go_sem, Nat.reduceLT, Nat.reduceAdd, Nat.reduceEqDiff, Nat.reduceLeDiff, Nat.reduceSub, Nat.reduceMul, Int.reduceEq, reduceIte, cWd, cWoN, cYs])) ?_
    simp only [go_sem, Nat.reduceLT, Nat.reduceAdd, Nat.reduceEqDiff, Nat.reduceLeDiff, Nat.reduceSub, Nat.reduceMul, Int.reduceEq, reduceIte, cWoN]
    refine ops_call (.pureE hi1 (by simp [go_sem, Nat.reduceLT, Nat.reduceAdd, Nat.reduceEqDiff, Nat.reduceLeDiff, Nat.reduceSub, Nat.reduceMul, Int.reduceEq, reduceIte, cWd, cWoN, cYs])) ?_
    simp only [go_sem, Nat.reduceLT, Nat.reduceAdd, Nat.reduceEqDiff, Nat.reduceLeDiff, Nat.reduceSub, Nat.reduceMul, Int.reduceEq, reduceIte]
    repeat refine ⟨rfl, ?_⟩
    refine ret_pure hx ?_
    simp [go_sem, Nat.reduceLT, Nat.reduceAdd, Nat.reduceEqDiff, Nat.reduceLeDiff, Nat.reduceSub, Nat.reduceMul, Int.reduceEq, reduceIte, L3, R3]
end Go.Proofs.YtkgobnnkcnnfhaaGreat
/- From an argument's reading as data to what the walks ask of memory; and from a walk that ends in 'true' to a law's statement. -/
namespace Go.Proofs.YtkgobnnkcnnfhaaGreat
open Go.RowKit Go.ChangeShapes Go.WideShapes Go.ChangeAt
section
variable {H : Type} {enc : TypeId × Value → H} {P : Program} {w : World} {sp : Nat → Bool} {held : Bool}
theorem trodAll_stays (hl : laidOutB P = true) {W W' : World} (hb : Below W.heap.size W W') : ∀ {ts : List TypeId} {vs : List Value} {ds : List (DataW H)} {ps : List MemPlace},
    (∀ t ∈ ts, P.readableRec t = true ∧ t < P.types.size) → (∀ x ∈ ps, x.block < W.heap.size) → DataW.TrodAll enc P W 0 (fun _ => true) true ts vs ds ps → DataW.TrodAll enc P W' 0 (fun b => decide (b < W.heap.size)) true ts vs ds ps
  | [], [], [], _, _, _, h => h
  | t :: ts, v :: vs, d :: ds, _, hr, hlt, h => by
    obtain ⟨p, q, h1, h2, rfl⟩ := h
    refine ⟨p, q, Below.trod hl (hr t (by simp)).1 (hr t (by simp)).2 h1 hb (fun x hx => hlt x (by simp [hx])), trodAll_stays hl hb (fun t' ht => hr t' (by simp [ht])) (fun x hx => hlt x (by simp [hx])) h2, rfl⟩
  | [], [], _ :: _, _, _, _, h => h.elim
  | [], _ :: _, _, _, _, _, h => by cases h
  | _ :: _, [], _, _, _, _, h => by cases h
  | _ :: _, _ :: _, [], _, _, _, h => h.elim
theorem law_post {f : Func} {s : ChangeSpec} {apart : Bool} {W W' : World} {args : Array Value} {ds gs : List (DataW H)} {before : List MemPlace} {tb : TypeId}
    (hl : laidOutB P = true) (hpar : ∀ t ∈ f.params.toList, P.readableRec t = true ∧ t < P.types.size) (hres : f.resultTypes = #[tb]) (hub : P.underlying tb = some .bool) (hvars : s.vars = [])
    (hW : DataW.Whole enc P f.params.toList s.vars apart W args.toList ds gs before)
    (hs : s.fn H (ds ++ gs) = { results := [.lit (.bool true)], args := ds }) (hb : Below W.heap.size W W') : s.post enc P f apart true false false W args (.bool true) W' := by
  have hlt := hW.lt
  have hW' := hW
  obtain ⟨p, q, hA, hV, rfl, hfz, hnd⟩ := hW
  rw [hvars] at hV
  have hq : gs = [] ∧ q = [] := by
    cases gs with
    | nil => exact ⟨rfl, hV⟩
    | cons g gs => exact hV.elim
  obtain ⟨rfl, rfl⟩ := hq
  refine ⟨ds, [], _, [], p, [], hW', ?_, ?_, ?_, hb.frame _, fun h => by cases h⟩
  · rw [hs, hres]
    exact trodAll_mk1 (shut_bool hub true)
  · rw [hs]
    exact trodAll_stays hl hb hpar (fun x hx => hlt x (by simp [hx])) hA
  · rw [hs, hvars]
    rfl
theorem parsOf {ts : List TypeId} (h : (ts.all fun t => P.readableRec t && decide (t < P.types.size)) = true) : ∀ t ∈ ts, P.readableRec t = true ∧ t < P.types.size := by
 intro t ht
 have := List.all_eq_true.1 h t ht
 simpa only [Bool.and_eq_true, decide_eq_true_eq] using this
end
def I64 (n : Int) : Prop := -9223372036854775808 ≤ n ∧ n ≤ 9223372036854775807
theorem i64_of_wf {n : Int} (h : (Lit.int .i64 n).wf = true) : I64 n := by simpa [Lit.wf, IntKind.min, IntKind.max, IntKind.signed, IntKind.bits, I64] using h
section
variable {H : Type} {enc : TypeId × Value → H} {w : World} {sp : Nat → Bool} {held : Bool}
theorem lawOwn : ownKnob Tryz.prog.godebug = none := by kernel_rfl
theorem lawLaid : laidOutB Tryz.prog = true := by kernel_rfl
theorem lawBool : Tryz.prog.underlying 4 = some .bool := by kernel_rfl
theorem undInt' : Tryz.prog.underlying 3 = some (.int .i64) := by kernel_rfl
theorem cellsInt : Tryz.prog.cellsOf 3 = 1 := by kernel_rfl
theorem undId : Tryz.prog.underlying 50 = some (.struct (Tryz.prog.fieldsOf 50)) := by kernel_rfl
theorem cellsId : Tryz.prog.cellsOf 50 = 2 := by kernel_rfl
end
end Go.Proofs.YtkgobnnkcnnfhaaGreat
/- From an argument's reading as data to abstract values; from a contract of a law to its statement. -/
namespace Go.Proofs.YtkgobnnkcnnfhaaGreat
open Go.RowKit Go.ChangeShapes Go.WideShapes Go.ChangeAt
def Shows (w : World) (ps : List PV) (cs : List Value) : Prop := cs.length = ps.length ∧ ∀ (j : Nat) p v, ps[j]? = some p → cs[j]? = some v → RepP (fun b _ => b < w.heap.size) w p v
section
variable {H : Type} {enc : TypeId × Value → H} {P : Program} {w : World} {sp : Nat → Bool} {held : Bool}
def Opens (enc : TypeId × Value → H) (P : Program) (w : World) (sp : Nat → Bool) (held : Bool) (t : TypeId) (n : Nat) (R : List PV → Prop) : Prop :=
 P.cellsOf t = n ∧ ∀ fuel cs (y : DataW H × List MemPlace), DataW.trod enc P w 0 sp held fuel t cs = some y → (∀ k ∈ y.1.weights P t, k ≤ reachBytes) → ∃ ps, ps.length = n ∧ R ps ∧ Shows w ps cs
theorem Opens.mono {t : TypeId} {n : Nat} {R R' : List PV → Prop} (h : Opens enc P w sp held t n R) (hR : ∀ ps, R ps → R' ps) : Opens enc P w sp held t n R' :=
 ⟨h.1, fun fuel cs y hy hw => by obtain ⟨ps, h1, h2, h3⟩ := h.2 fuel cs y hy hw; exact ⟨ps, h1, hR ps h2, h3⟩⟩
theorem shows1 {p : PV} {v : Value} (h : RepP (fun b _ => b < w.heap.size) w p v) : Shows w [p] [v] := by
 refine ⟨rfl, fun j q u hj hu => ?_⟩
 cases j with
 | zero => simp at hj hu; subst hj; subst hu; exact h
 | succ j => simp at hj
theorem opens_int {t : TypeId} (ht : P.underlying t = some (.int .i64)) (hc : P.cellsOf t = 1) : Opens enc P w sp held t 1 fun ps => ∃ n, I64 n ∧ ps = [.int .i64 n] := by
 refine ⟨hc, fun fuel cs y h _ => ?_⟩
 obtain ⟨n, rfl, -, hw⟩ := DataW.trod_int ht h
 exact ⟨[.int .i64 n], rfl, ⟨n, i64_of_wf hw, rfl⟩, shows1 (.int _ _)⟩
theorem opens_str {t : TypeId} (ht : P.underlying t = some .string) (hc : P.cellsOf t = 1) : Opens enc P w sp held t 1 fun ps => ∃ s : ByteArray, s.size ≤ reachBytes ∧ ps = [.str s] := by
 refine ⟨hc, fun fuel cs y h hw => ?_⟩
 obtain ⟨s, rfl, rfl, -⟩ := DataW.trod_string ht h
 have hs := hw s.data.toList.length (by simp [DataW.weights])
 exact ⟨[.str s], rfl, ⟨s, by simpa using hs, rfl⟩, shows1 (.str _)⟩
theorem trod_elems2 {t e : TypeId} {fuel : Nat} {v : Value} {x : DataW H × List MemPlace} (ht : P.underlying t = some (.slice e)) (hsz : 0 < P.cellsOf e) (h : DataW.trod enc P w 0 sp held fuel t [v] = some x) (hw : ∀ k ∈ x.1.weights P t, k ≤ reachBytes) :
    ∃ a n c, v = .slice a n c ∧ n ≤ c ∧ c ≤ maxLen ∧ n * P.bytesOf e ≤ reachBytes ∧ ∀ k, k < n → ∃ b o cs m y, a = some ⟨b, o, none⟩ ∧ b < w.heap.size ∧ cs.length = P.cellsOf e ∧ (∀ j, j < P.cellsOf e → w.cell? ⟨b, o + k * P.cellsOf e + j, none⟩ = cs[j]?) ∧
      DataW.trod enc P w 0 sp held m e cs = some y ∧ ∀ q ∈ y.1.weights P e, q ≤ reachBytes := by
  have memAll : ∀ (ds : List (DataW H)) (d : DataW H), d ∈ ds → ∀ q ∈ d.weights P e, q ∈ DataW.weightsAll P e ds := by
    intro ds
    induction ds with
    | nil => intro d hd; cases hd
    | cons d0 ds ih =>
      intro d hd q hq
      simp only [DataW.weightsAll, List.mem_append]
      rcases List.mem_cons.1 hd with rfl | hd
      · exact .inl hq
      · exact .inr (ih d hd q hq)
  rcases DataW.trod_slice ht h with ⟨hv, -⟩ | ⟨a, len, cap, elems, rest, m, -, hv, hx, -, h1, h2, hl, hel, -, -⟩
  · exact ⟨none, 0, 0, by simpa using hv, by omega, by unfold maxLen; omega, by omega, fun k hk => by omega⟩
  · obtain rfl : v = .slice (some a) len cap := by simpa using hv
    have hwt : len * P.bytesOf e ≤ reachBytes := by
      have := hw ((elems.length + rest.length) * P.bytesOf e) (by rw [hx]; simp [DataW.weights, ht])
      have h3 : len * P.bytesOf e ≤ (elems.length + rest.length) * P.bytesOf e := Nat.mul_le_mul_right _ (by omega)
      omega
    have key : ∀ k, k < len → ∃ cs y, w.cells? 0 (a.add (k * P.cellsOf e)) (P.cellsOf e) = some cs ∧ DataW.trod enc P w 0 sp held m e cs = some y ∧ ∀ q ∈ y.1.weights P e, q ≤ reachBytes := by
      intro k hk
      have := hel k hk
      rw [List.getElem?_eq_getElem (by omega)] at this
      obtain ⟨cs, hcs, hy⟩ := Option.bind_eq_some_iff.1 this
      refine ⟨cs, _, hcs, hy, fun q hq => hw q ?_⟩
      rw [hx]
      simp only [DataW.weights, ht, List.mem_cons, List.mem_append]
      exact .inr (.inl (memAll _ _ (List.mem_map.2 ⟨_, List.getElem_mem _, rfl⟩) q hq))
    refine ⟨some a, len, cap, rfl, h1, h2, hwt, fun k hk => ?_⟩
    obtain ⟨cs0, y0, hc0, -⟩ := key 0 (by omega)
    have h0 := (World.cells?_some hc0).2.2 0 hsz
    obtain ⟨ab, ao, asp⟩ := a
    have hl0 := (World.cells?_some hc0).2.1
    have has : asp = none := by
      simp only [Nat.zero_mul, Addr.add, if_true] at h0
      rw [List.getElem?_eq_getElem (by omega)] at h0
      cases asp with
      | none => rfl
      | some s =>
        simp only [World.cell?] at h0
        split at h0 <;> simp at h0
    subst has
    obtain ⟨cs, y, hcs, hy, hq⟩ := key k hk
    have h3 := World.cells?_some hcs
    have add_eq : ∀ (o n : Nat), (⟨ab, o, none⟩ : Addr).add n = ⟨ab, o + n, none⟩ := by
      intro o n; unfold Addr.add; split <;> simp_all
    refine ⟨ab, ao, cs, m, y, rfl, ?_, h3.2.1, fun j hj => ?_, hy, hq⟩
    · exact World.cells?_block (a := ⟨ab, ao, none⟩) (by simpa [add_eq] using hc0) hsz
    · have := h3.2.2 j hj
      simpa [add_eq] using this
theorem list_choose {α : Type} {n : Nat} {Q : Nat → α → Prop} (h : ∀ k, k < n → ∃ x, Q k x) : ∃ l : List α, l.length = n ∧ ∀ (k : Nat) x, l[k]? = some x → Q k x := by
 induction n with
 | zero => exact ⟨[], rfl, fun k x hk => by simp at hk⟩
 | succ n ih =>
  obtain ⟨l, h1, h2⟩ := ih fun k hk => h k (by omega)
  obtain ⟨x, hx⟩ := h n (by omega)
  refine ⟨l ++ [x], by simp [h1], fun k y hk => ?_⟩
  by_cases hlt : k < l.length
  ·
   rw [List.getElem?_append_left hlt] at hk; exact h2 k y hk
  ·
   rw [List.getElem?_append_right (by omega)] at hk
   have : k - l.length = 0 := by
    have := (List.getElem?_eq_some_iff.1 hk).1
    simp at this; omega
   rw [this] at hk
   simp at hk
   subst hk
   rw [show k = n by omega]; exact hx
theorem opens_slice {t e : TypeId} {n : Nat} {R : List PV → Prop} (ht : P.underlying t = some (.slice e)) (hc : P.cellsOf t = 1) (hn : 0 < n) (he : Opens enc P w sp held e n R) :
    Opens enc P w sp held t 1 fun ps => ∃ rows, rows.length * P.bytesOf e ≤ reachBytes ∧ (∀ row ∈ rows, row.length = n ∧ R row) ∧ ps = [.list rows] := by
  refine ⟨hc, fun fuel cs y h hw => ?_⟩
  have hcs : ∃ v, cs = [v] := by
    rcases DataW.trod_slice ht h with ⟨hv, -⟩ | ⟨a, len, cap, elems, rest, m, -, hv, -⟩ <;> exact ⟨_, hv⟩
  obtain ⟨v, rfl⟩ := hcs
  obtain ⟨hce, he⟩ := he
  obtain ⟨a, len, c, rfl, h1, h2, hby, h3⟩ := trod_elems2 ht (by omega) h hw
  rw [hce] at h3
  obtain ⟨rows, r1, r2⟩ := list_choose (Q := fun k (row : List PV) => row.length = n ∧ R row ∧ ∃ b o cs, a = some ⟨b, o, none⟩ ∧ b < w.heap.size ∧ cs.length = n ∧ (∀ j, j < n → w.cell? ⟨b, o + k * n + j, none⟩ = cs[j]?) ∧ Shows w row cs) fun k hk => by
    obtain ⟨b, o, cs, m, y, q1, q2, q3, q4, q5, q6⟩ := h3 k hk
    obtain ⟨ps, p1, p2, p3⟩ := he m cs y q5 q6
    exact ⟨ps, p1, p2, b, o, cs, q1, q2, q3, q4, p3⟩
  refine ⟨[.list rows], rfl, ⟨rows, by rw [r1]; exact hby, fun row hr => ?_, rfl⟩, shows1 ?_⟩
  · obtain ⟨k, hk⟩ := List.getElem?_of_mem hr
    exact ⟨(r2 k row hk).1, (r2 k row hk).2.1⟩
  · have key : ∀ k row j p, rows[k]? = some row → row[j]? = some p → ∃ b o, a = some ⟨b, o, none⟩ ∧ b < w.heap.size ∧ ∃ u, w.cell? ⟨b, o + k * n + j, none⟩ = some u ∧ RepP (fun b _ => b < w.heap.size) w p u := by
      intro k row j p hk hj
      obtain ⟨hl, -, b, o, cs, q1, q2, q3, q4, q5⟩ := r2 k row hk
      have hlt : j < n := by rw [← hl]; exact (List.getElem?_eq_some_iff.1 hj).1
      refine ⟨b, o, q1, q2, cs[j]'(by omega), ?_, ?_⟩
      · rw [q4 j hlt, List.getElem?_eq_getElem (by omega)]
      · exact q5.2 j p _ hj (List.getElem?_eq_getElem (by omega))
    have := RepP.list (S := fun b _ => b < w.heap.size) (w := w) rows a c n (fun k j => match a with | some ad => (w.cell? ⟨ad.block, ad.off + k * n + j, none⟩).getD Go.undef | none => Go.undef) (by omega) h2 hn (fun row hr => by
        obtain ⟨k, hk⟩ := List.getElem?_of_mem hr
        exact (r2 k row hk).1) (fun k row j p hk hj => by
        obtain ⟨b, o, q1, q2, u, q3, q4⟩ := key k row j p hk hj
        subst q1
        exact ⟨b, o, rfl, q2, by simp [q3]⟩) (fun k row j p hk hj => by
        obtain ⟨b, o, q1, q2, u, q3, q4⟩ := key k row j p hk hj
        subst q1
        simp only [q3, Option.getD_some]
        exact q4)
    rw [r1] at this
    exact this
def offs : Nat → List (TypeId × Nat) → List (TypeId × Nat)
 | _, [] => []
 | o, (t, n) :: r => (t, o) :: offs (o + n) r
def RAll : List (Nat × (List PV → Prop)) → List PV → Prop
 | [], ps => ps = []
 | (n, R) :: r, ps => ∃ a b, ps = a ++ b ∧ a.length = n ∧ R a ∧ RAll r b
def OpensAll (enc : TypeId × Value → H) (P : Program) (w : World) (sp : Nat → Bool) (held : Bool) : List (TypeId × Nat × (List PV → Prop)) → Prop
 | [] => True
 | (t, n, R) :: r => Opens enc P w sp held t n R ∧ OpensAll enc P w sp held r
theorem shows_append {a b : List PV} {cs ds : List Value} (h1 : Shows w a cs) (h2 : Shows w b ds) : Shows w (a ++ b) (cs ++ ds) := by
 refine ⟨by simp [h1.1, h2.1], fun j p v hj hv => ?_⟩
 by_cases hlt : j < a.length
 ·
  rw [List.getElem?_append_left hlt] at hj
  rw [List.getElem?_append_left (by rw [h1.1]; exact hlt)] at hv
  exact h1.2 j p v hj hv
 ·
  rw [List.getElem?_append_right (by omega)] at hj
  rw [List.getElem?_append_right (by rw [h1.1]; omega), h1.1] at hv
  exact h2.2 _ p v hj hv
theorem opens_fields : ∀ (fl : List (TypeId × Nat × (List PV → Prop))) (o : Nat) (cs : List Value), OpensAll enc P w sp held fl → cs.length = o + (fl.map (·.2.1)).sum →
    (∀ (i : Nat) (t' : TypeId) (o' : Nat), (offs o (fl.map fun f => (f.1, f.2.1)))[i]? = some (t', o') → ∃ n y, DataW.trod enc P w 0 sp held n t' ((cs.drop o').take (P.cellsOf t')) = some y ∧ ∀ k ∈ y.1.weights P t', k ≤ reachBytes) →
    ∃ ps, ps.length = (fl.map (·.2.1)).sum ∧ RAll (fl.map (·.2)) ps ∧ Shows w ps (cs.drop o)
  | [], o, cs, _, hl, _ => ⟨[], rfl, rfl, by
      rw [List.drop_eq_nil_of_le (by simp at hl; omega)]
      exact ⟨rfl, fun j p v hj => by simp at hj⟩⟩
  | (t, n, R) :: fl, o, cs, ho, hl, hx => by
    obtain ⟨⟨hc, h1⟩, h2⟩ := ho
    obtain ⟨m, y, hy, hwy⟩ := hx 0 t o rfl
    obtain ⟨ps, p1, p2, p3⟩ := h1 m _ y hy hwy
    simp only [List.map_cons, List.sum_cons] at hl
    obtain ⟨qs, q1, q2, q3⟩ := opens_fields fl (o + n) cs h2 (by omega) fun i t' o' hi => hx (i + 1) t' o' hi
    refine ⟨ps ++ qs, by simp [p1, q1], ⟨ps, qs, rfl, p1, p2, q2⟩, ?_⟩
    rw [hc] at p3
    have : cs.drop o = (cs.drop o).take n ++ cs.drop (o + n) := by rw [← List.drop_drop, List.take_append_drop]
    rw [this]
    exact shows_append p3 q3
theorem opens_struct {t : TypeId} {n : Nat} (fl : List (TypeId × Nat × (List PV → Prop))) (hs : P.underlying t = some (.struct (P.fieldsOf t))) (hf : (P.fieldsOf t).toList.map (fun f => (f.type, f.offset)) = offs 0 (fl.map fun f => (f.1, f.2.1)))
    (hc : P.cellsOf t = n) (hn : (fl.map (·.2.1)).sum = n) (ho : OpensAll enc P w sp held fl) : Opens enc P w sp held t n (RAll (fl.map (·.2))) := by
  refine ⟨hc, fun fuel cs y h hw => ?_⟩
  obtain ⟨xs, m, _, hy, hl, hlen, hq⟩ := DataW.trod_struct hs h
  have hx : ∀ (i : Nat) (t' : TypeId) (o' : Nat), (offs 0 (fl.map fun f => (f.1, f.2.1)))[i]? = some (t', o') → ∃ n y, DataW.trod enc P w 0 sp held n t' ((cs.drop o').take (P.cellsOf t')) = some y ∧ ∀ k ∈ y.1.weights P t', k ≤ reachBytes := by
    intro i t' o' hi
    rw [← hf, List.getElem?_map] at hi
    obtain ⟨f, h1, h2⟩ := Option.map_eq_some_iff.1 hi
    simp only [Prod.mk.injEq] at h2
    obtain ⟨rfl, rfl⟩ := h2
    have h3 := hq i f (by simpa using h1)
    have hi2 : i < (P.fieldsOf t).toList.length := (List.getElem?_eq_some_iff.1 h1).1
    have hi3 : i < xs.length := by rw [hlen]; simpa using hi2
    refine ⟨m, xs[i], by rw [h3]; simp, fun k hk => hw k ?_⟩
    rw [hy]
    simp only [DataW.weights, hs]
    refine DataW.weights_mem_each (j := i) (t := f.type) (d := xs[i].1) ?_ ?_ k hk
    · rw [List.getElem?_map, h1]; rfl
    · rw [List.getElem?_map, List.getElem?_eq_getElem hi3]; rfl
  obtain ⟨ps, h1, h2, h3⟩ := opens_fields fl 0 cs ho (by omega) hx
  exact ⟨ps, by omega, h2, h3⟩
theorem open_agg {t : TypeId} {n : Nat} {R : List PV → Prop} (ho : Opens enc P w sp held t n R) {v : Value} (h1 : ∃ cs, v = .agg cs) {d : DataW H} {p : List MemPlace} (h : DataW.Trod enc P w 0 sp held t v d p) (hw : ∀ k ∈ d.weights P t, k ≤ reachBytes) (S : Nat → Nat → Prop) (hS : ∀ b o, b < w.heap.size → S b o) (C : Conc) : ∃ ps, R ps ∧ RepV S w C (.agg ps) v := by
 obtain ⟨fuel, hf⟩ := h
 obtain ⟨cs, rfl⟩ := h1
 obtain ⟨ps, p1, p2, p3⟩ := ho.2 fuel _ _ hf hw
 have hk : ∀ (j : Nat) q x, ps[j]? = some q → cs.toList[j]? = some x → RepP (fun b _ => b < w.heap.size) w q x := fun j q x hj hx => p3.2 j q x hj hx
 refine ⟨ps, p2, ?_⟩
 have := RepV.agg (S := S) (w := w) (C := C) ps cs.toList p3.1 (fun j x hx => ?_) fun j q x hj hx => .pure ((hk j q x hj hx).mono (fun b o h => hS b o h) fun _ _ _ => rfl)
 ·
  simpa using this
 ·
  have hlt : j < ps.length := by rw [← p3.1]; exact (List.getElem?_eq_some_iff.1 hx).1
  exact (hk j _ x (List.getElem?_eq_getElem hlt) hx).one
end
def lawCx (w : World) : Cx := ⟨w, fun b _ => b < w.heap.size, ⟨0, fun _ => 0, fun _ => Go.undef, fun _ => 0⟩, []⟩
theorem lawHR (w : World) : HR (lawCx w) (lawCx w).C0 [] w :=
 ⟨rfl, fun id ob h => by simp at h, fun id id' ob ob' b h => by simp at h, fun id ob b h => by simp at h, fun b o h => ⟨h, fun id ob h => by simp at h, rfl⟩, Nat.le_refl _, rfl, rfl, rfl, fun b _ _ => rfl, Nat.le_refl _, fun i hi => rfl, fun i hi => .inl ⟨rfl, rfl⟩⟩
theorem lawStab {w : World} {b o : Nat} (h : b < w.heap.size) : Stab (lawCx w) (lawCx w).C0 [] w b o := ⟨.inl h, h, fun id ob h => by simp at h⟩
def Arg (w : World) (p : PV) (v : Value) : Prop := RepV (Stab (lawCx w) (lawCx w).C0 [] w) w (lawCx w).C0 p v
theorem Arg.of {w : World} {p : PV} {v : Value} (h : RepP (fun b _ => b < w.heap.size) w p v) : Arg w p v := .pure (h.mono (fun _ _ h => lawStab h) fun _ _ _ => rfl)
inductive ArgsAre (w : World) : List PV → List Value → Prop
 | nil : ArgsAre w [] []
 | cons {p : PV} {v : Value} {ps : List PV} {vs : List Value} (h : Arg w p v) (t : ArgsAre w ps vs) : ArgsAre w (p :: ps) (v :: vs)
theorem ArgsAre.reps {w : World} {ps : List PV} {vs : List Value} (h : ArgsAre w ps vs) : Reps (Stab (lawCx w) (lawCx w).C0 [] w) w (lawCx w).C0 ps vs := by
 induction h with
 | nil => exact ⟨rfl, fun j p v hj => by simp at hj⟩
 | cons h t ih =>
  refine ⟨by simp [ih.1], fun j p v hj hv => ?_⟩
  cases j with
  | zero => simp at hj hv; subst hj; subst hv; exact h
  | succ j => exact ih.2 j p v (by simpa using hj) (by simpa using hv)
theorem law_calls {P : Program} {f : Nat} {args : List PV} {vs : Array Value} {w : World} (h : Meets P f args [] (.bool true) []) (hp : ArgsAre w args vs.toList) : Calls P f vs w fun e w' => e = .returned (.bool true) ∧ Below w.heap.size w w' := by
 refine (h (lawCx w) vs rfl (lawHR w) hp.reps).mono fun e w' ⟨v, C', h1, h2, h3⟩ => ?_
 have hv := h3.bool_inv
 subst hv
 exact ⟨h1, ⟨h2.os, h2.tape, h2.output, h2.size, fun b hb => h2.frame b hb fun i ob0 hi => by simp [lawCx] at hi⟩⟩
end Go.Proofs.YtkgobnnkcnnfhaaGreat
/- Arguments of laws, opened: ids, entries, lists of them. -/
namespace Go.Proofs.YtkgobnnkcnnfhaaGreat
open Go.RowKit Go.ChangeShapes Go.WideShapes Go.ChangeAt
section
variable {H : Type} {enc : TypeId × Value → H} {w : World} {sp : Nat → Bool} {held : Bool}
theorem rows_map {α : Type} {f : α → List PV} {Q : α → Prop} {n : Nat} : ∀ {rows : List (List PV)}, (∀ row ∈ rows, row.length = n ∧ ∃ x, Q x ∧ row = f x) → ∃ l : List α, (∀ x ∈ l, Q x) ∧ rows = l.map f
 | [], _ => ⟨[], by simp, rfl⟩
 | row :: rows, h => by
  obtain ⟨-, x, h1, rfl⟩ := h row (by simp)
  obtain ⟨l, h2, rfl⟩ := rows_map (rows := rows) fun row hr => h row (by simp [hr])
  exact ⟨x :: l, by simpa using ⟨h1, h2⟩, rfl⟩
theorem opInt : Opens enc Tryz.prog w sp held 3 1 fun ps => ∃ n, I64 n ∧ ps = [.int .i64 n] := opens_int undInt' cellsInt
theorem opStr : Opens enc Tryz.prog w sp held 9 1 fun ps => ∃ s : ByteArray, s.size ≤ reachBytes ∧ ps = [.str s] := opens_str (by kernel_rfl) (by kernel_rfl)
def wfId (x : Id) : Prop := I64 x.r ∧ I64 x.n
theorem opId : Opens enc Tryz.prog w sp held 50 2 fun ps => ∃ x : Id, wfId x ∧ ps = cId x :=
 (opens_struct [(3, 1, _), (3, 1, _)] undId (by kernel_rfl) cellsId rfl ⟨opInt, opInt, trivial⟩).mono (by
  rintro ps ⟨a, b, rfl, -, ⟨n, hn, rfl⟩, c, d, rfl, -, ⟨m, hm, rfl⟩, rfl⟩
  exact ⟨⟨n, m⟩, ⟨hn, hm⟩, rfl⟩)
theorem opIds : Opens enc Tryz.prog w sp held 51 1 fun ps => ∃ l : List Id, l.length * 16 ≤ reachBytes ∧ (∀ x ∈ l, wfId x) ∧ ps = [.list (l.map cId)] :=
 (opens_slice (by kernel_rfl) (by kernel_rfl) (by omega) opId).mono (by
  rintro ps ⟨rows, hm, hr, rfl⟩
  obtain ⟨l, h1, rfl⟩ := rows_map hr
  rw [show Tryz.prog.bytesOf 50 = 16 by kernel_rfl] at hm
  exact ⟨l, by simpa using hm, h1, rfl⟩)
def wfE (e : Entry) : Prop := wfId e.id ∧ I64 e.c ∧ e.t.size ≤ reachBytes ∧ e.ls.length * 16 ≤ reachBytes ∧ ∀ x ∈ e.ls, wfId x
theorem undEntry : Tryz.prog.underlying 53 = some (.struct (Tryz.prog.fieldsOf 53)) := by kernel_rfl
theorem opEntry : Opens enc Tryz.prog w sp held 53 5 fun ps => ∃ e : Entry, wfE e ∧ ps = cE e :=
 (opens_struct [(50, 2, _), (3, 1, _), (9, 1, _), (51, 1, _)] undEntry (by kernel_rfl) (by kernel_rfl) rfl ⟨opId, opInt, opStr, opIds, trivial⟩).mono (by
  rintro ps ⟨a, b, rfl, -, ⟨x, hx, rfl⟩, c, d, rfl, -, ⟨n, hn, rfl⟩, f, g, rfl, -, ⟨s, hs, rfl⟩, k, q, rfl, -, ⟨l, hl, hq, rfl⟩, rfl⟩
  exact ⟨⟨x, n, s, l⟩, ⟨hx, hn, hs, hl, hq⟩, rfl⟩)
end
end Go.Proofs.YtkgobnnkcnnfhaaGreat
/- Arguments of laws, opened: lists of entries, of ids. -/
namespace Go.Proofs.YtkgobnnkcnnfhaaGreat
open Go.RowKit Go.ChangeShapes Go.WideShapes Go.ChangeAt
section
variable {H : Type} {enc : TypeId × Value → H} {w : World} {sp : Nat → Bool} {held : Bool}
theorem opEntries : Opens enc Tryz.prog w sp held 45 1 fun ps => ∃ l : List Entry, l.length ≤ reachBytes ∧ (∀ e ∈ l, wfE e) ∧ ps = [.list (l.map cE)] :=
 (opens_slice (by kernel_rfl) (by kernel_rfl) (by omega) opEntry).mono (by
  rintro ps ⟨rows, hm, hr, rfl⟩
  obtain ⟨l, h1, rfl⟩ := rows_map hr
  have hb : 1 ≤ Tryz.prog.bytesOf 53 := by decide +kernel
  refine ⟨l, ?_, h1, rfl⟩
  have h2 : (l.map cE).length * 1 ≤ (l.map cE).length * Tryz.prog.bytesOf 53 := Nat.mul_le_mul_left _ hb
  rw [List.length_map] at h2 hm
  omega)
end
end Go.Proofs.YtkgobnnkcnnfhaaGreat
/- Arguments of laws, opened: sites. -/
namespace Go.Proofs.YtkgobnnkcnnfhaaGreat
open Go.RowKit Go.ChangeShapes Go.WideShapes Go.ChangeAt
section
variable {H : Type} {enc : TypeId × Value → H} {w : World} {sp : Nat → Bool} {held : Bool}
theorem undSite : Tryz.prog.underlying 47 = some (.struct (Tryz.prog.fieldsOf 47)) := by kernel_rfl
theorem opSite : Opens enc Tryz.prog w sp held 47 3 fun ps => ∃ (r : Int) (lg ws : List Entry), (I64 r ∧ lg.length ≤ reachBytes ∧ ws.length ≤ reachBytes ∧ (∀ e ∈ lg, wfE e) ∧ ∀ e ∈ ws, wfE e) ∧ ps = cSi r lg ws :=
 (opens_struct [(3, 1, _), (45, 1, _), (45, 1, _)] undSite (by kernel_rfl) (by kernel_rfl) rfl ⟨opInt, opEntries, opEntries, trivial⟩).mono (by
  rintro ps ⟨a, b, rfl, -, ⟨x, hx, rfl⟩, c, d, rfl, -, ⟨y, hy, hy2, rfl⟩, k, q, rfl, -, ⟨l, hl, hl2, rfl⟩, rfl⟩
  exact ⟨x, y, l, ⟨hx, hy, hl, hy2, hl2⟩, rfl⟩)
end
end Go.Proofs.YtkgobnnkcnnfhaaGreat
/- Arguments of laws, opened: worlds, acts. -/
namespace Go.Proofs.YtkgobnnkcnnfhaaGreat
open Go.RowKit Go.ChangeShapes Go.WideShapes Go.ChangeAt
section
variable {H : Type} {enc : TypeId × Value → H} {w : World} {sp : Nat → Bool} {held : Bool}
def goodSi (s : Si) : Prop := s.2.1.length ≤ reachBytes ∧ s.2.2.length ≤ reachBytes
theorem opSites : Opens enc Tryz.prog w sp held 22 1 fun ps => ∃ ss : List Si, ss.length ≤ reachBytes ∧ (∀ s ∈ ss, goodSi s) ∧ ps = [.list (ss.map cSi3)] :=
 (opens_slice (by kernel_rfl) (by kernel_rfl) (by omega) opSite).mono (by
  rintro ps ⟨rows, hm, hr, rfl⟩
  obtain ⟨l, h1, rfl⟩ := rows_map (f := cSi3) (Q := goodSi) (n := 3) (fun row h => by
   obtain ⟨a, r, lg, ws, ⟨-, b, c, -, -⟩, d⟩ := hr row h
   exact ⟨a, (r, lg, ws), ⟨b, c⟩, d⟩)
  have hb : 1 ≤ Tryz.prog.bytesOf 47 := by decide +kernel
  refine ⟨l, ?_, h1, rfl⟩
  have h2 : (l.map cSi3).length * 1 ≤ (l.map cSi3).length * Tryz.prog.bytesOf 47 := Nat.mul_le_mul_left _ hb
  rw [List.length_map] at h2 hm
  omega)
theorem opWays : Opens enc Tryz.prog w sp held 23 1 fun ps => ∃ ys : List (List Entry), ys.length ≤ reachBytes ∧ (∀ l ∈ ys, l.length ≤ reachBytes) ∧ ps = [.list (cYs ys)] :=
 (opens_slice (by kernel_rfl) (by kernel_rfl) (by omega) opEntries).mono (by
  rintro ps ⟨rows, hm, hr, rfl⟩
  obtain ⟨l, h1, rfl⟩ := rows_map (f := fun l : List Entry => [PV.list (l.map cE)]) (Q := fun l => l.length ≤ reachBytes) (n := 1) (fun row h => by
   obtain ⟨a, l, b, -, d⟩ := hr row h
   exact ⟨a, l, b, d⟩)
  have hb : 1 ≤ Tryz.prog.bytesOf 45 := by decide +kernel
  refine ⟨l, ?_, h1, rfl⟩
  have h2 : (l.map fun l : List Entry => [PV.list (l.map cE)]).length * 1 ≤ (l.map fun l : List Entry => [PV.list (l.map cE)]).length * Tryz.prog.bytesOf 45 := Nat.mul_le_mul_left _ hb
  rw [List.length_map] at h2 hm
  omega)
theorem undWorld : Tryz.prog.underlying 25 = some (.struct (Tryz.prog.fieldsOf 25)) := by kernel_rfl
theorem opWorld : Opens enc Tryz.prog w sp held 25 2 fun ps => ∃ (ss : List Si) (ys : List (List Entry)), (ss.length ≤ reachBytes ∧ ys.length ≤ reachBytes ∧ (∀ s ∈ ss, goodSi s) ∧ ∀ l ∈ ys, l.length ≤ reachBytes) ∧ ps = cWd ss ys :=
 (opens_struct [(22, 1, _), (23, 1, _)] undWorld (by kernel_rfl) (by kernel_rfl) rfl ⟨opSites, opWays, trivial⟩).mono (by
  rintro ps ⟨a, b, rfl, -, ⟨ss, h1, h2, rfl⟩, c, d, rfl, -, ⟨ys, h3, h4, rfl⟩, rfl⟩
  exact ⟨ss, ys, ⟨h1, h3, h2, h4⟩, rfl⟩)
set_option maxRecDepth 100000 in
theorem argWorld {b0 : Nat} {v : Value} {d : DataW H} {p : List MemPlace} (hv : Value.okWide Tryz.prog w .any b0 25 v) (h : DataW.Trod enc Tryz.prog w 0 sp held 25 v d p) (hw : ∀ k ∈ d.weights Tryz.prog 25, k ≤ reachBytes) :
    ∃ (ss : List Si) (ys : List (List Entry)), (ss.length ≤ 1000000000000000 ∧ ys.length ≤ 1000000000000000 ∧ okSs ss ∧ okYs ys) ∧ Arg w (.agg (cWd ss ys)) v := by
  obtain ⟨cs, rfl, -⟩ := okWide_struct undWorld hv
  obtain ⟨ps, ⟨ss, ys, ⟨a, b, c, d⟩, rfl⟩, h4⟩ := open_agg opWorld ⟨_, rfl⟩ h hw (Stab (lawCx w) (lawCx w).C0 [] w) (fun _ _ h => lawStab h) _
  unfold goodSi at c
  simp only [reachBytes] at a b c d
  exact ⟨ss, ys, ⟨by omega, by omega, fun s hs => by have := c s hs; omega, fun l hl => by have := d l hl; omega⟩, h4⟩
theorem undAct : Tryz.prog.underlying 27 = some (.struct (Tryz.prog.fieldsOf 27)) := by kernel_rfl
theorem opAct : Opens enc Tryz.prog w sp held 27 5 fun ps => ∃ (k i n c : Int) (t : ByteArray), True ∧ ps = [.int .i64 k, .int .i64 i, .int .i64 n, .int .i64 c, .str t] :=
 (opens_struct [(3, 1, _), (3, 1, _), (3, 1, _), (3, 1, _), (9, 1, _)] undAct (by kernel_rfl) (by kernel_rfl) rfl ⟨opInt, opInt, opInt, opInt, opStr, trivial⟩).mono (by
  rintro ps ⟨a, b, rfl, -, ⟨x, hx, rfl⟩, c, d, rfl, -, ⟨y, hy, rfl⟩, k, q, rfl, -, ⟨l, hl, rfl⟩, k2, q2, rfl, -, ⟨l2, hl2, rfl⟩, k3, q3, rfl, -, ⟨t, ht, rfl⟩, rfl⟩
  exact ⟨x, y, l, l2, t, trivial, rfl⟩)
set_option maxRecDepth 100000 in
theorem argAct {b0 : Nat} {v : Value} {d : DataW H} {p : List MemPlace} (hv : Value.okWide Tryz.prog w .any b0 27 v) (h : DataW.Trod enc Tryz.prog w 0 sp held 27 v d p) (hw : ∀ k ∈ d.weights Tryz.prog 27, k ≤ reachBytes) :
    ∃ (k i n c : Int) (t : ByteArray), Arg w (.agg [.int .i64 k, .int .i64 i, .int .i64 n, .int .i64 c, .str t]) v := by
  obtain ⟨cs, rfl, -⟩ := okWide_struct undAct hv
  obtain ⟨ps, ⟨k, i, n, c, t, -, rfl⟩, h4⟩ := open_agg opAct ⟨_, rfl⟩ h hw (Stab (lawCx w) (lawCx w).C0 [] w) (fun _ _ h => lawStab h) _
  exact ⟨k, i, n, c, t, h4⟩
end
end Go.Proofs.YtkgobnnkcnnfhaaGreat
