/- Joined texts of this claim: L26 V12 L29 Open Op1 Op2 Op4 Op7 Op8. -/
import Derived.Test.YtkgobnnkcnnfhaaKE
import Derived.Test.YtkgobnnkcnnfhaaProg
import Derived.Test.YtkgobnnkcnnfhaaKB
import Derived.ProofKit
import Derived.OpenShut
import Derived.Carry
import Derived.SizedLaws
import Derived.Test.YtkgobnnkcnnfhaaKC
import Derived.Test.YtkgobnnkcnnfhaaKD
set_option linter.unusedSimpArgs false
set_option linter.unusedVariables false
set_option linter.unusedSectionVars false
/- What must be in any case of worlds. -/
namespace Go.Proofs.Ytkgobnnkcnnfhaa
set_option linter.unusedSimpArgs false
set_option linter.unusedVariables false
open Go.RowKit
def wbT1 : ByteArray := ⟨#[112, 117, 116, 32, 97, 32, 120]⟩
def wbT2 : ByteArray := ⟨#[112, 117, 116, 32, 97, 32, 121]⟩
def wbT3 : ByteArray := ⟨#[112, 117, 116, 32, 98, 32, 122]⟩
def wa1 : Entry := ⟨⟨0, 1⟩, 1, wbT1, []⟩
def wb1 : Entry := ⟨⟨1, 1⟩, 1, wbT2, []⟩
def wb2 : Entry := ⟨⟨1, 2⟩, 1, wbT3, [⟨0, 1⟩, ⟨1, 1⟩]⟩
def wbW1 : Wo := ⟨[wa1], [], [], [], [], [wa1]⟩
def wbW2 : Wo := ⟨[wa1], [], [wb1], [], [wb1], [wa1]⟩
def wbW3 : Wo := ⟨[wa1], [], [wb1, wa1], [], [wb1], []⟩
def wbW4 : Wo := ⟨[wa1], [], [wb1, wa1], [], [], []⟩
def wbW5 : Wo := ⟨[wa1], [], [wb1, wa1, wb2], [], [wb2], []⟩
def wbW6 : Wo := ⟨[wa1], [wb2], [wb1, wa1, wb2], [], [], []⟩
def wbS : Wo := ⟨[wa1, wb1, wb2], [], [wb1, wa1, wb2], [], [], []⟩
def wbA : List (List PV) := [cAct 1 0 0 1 wbT1, cAct 1 1 0 1 wbT2, cAct 2 1 0 0 ⟨#[]⟩, cAct 3 0 0 0 ⟨#[]⟩, cAct 1 1 0 1 wbT3, cAct 2 0 0 0 ⟨#[]⟩]
theorem wb_h1 : sortI (headsC [] 1) = [] := by rw [← heads_eq (log_ok.1 (by decide +kernel))]; decide +kernel
theorem wb_h2 : sortI (headsC [wb1, wa1] 1) = [⟨0, 1⟩, ⟨1, 1⟩] := by rw [← heads_eq (log_ok.1 (by decide +kernel))]; decide +kernel
theorem wb_ok0 : WoOk wNew := woErr_ok.1 (by decide +kernel)
theorem wb_ok1 : WoOk wbW1 := woErr_ok.1 (by decide +kernel)
theorem wb_ok2 : WoOk wbW2 := woErr_ok.1 (by decide +kernel)
theorem wb_ok3 : WoOk wbW3 := woErr_ok.1 (by decide +kernel)
theorem wb_ok4 : WoOk wbW4 := woErr_ok.1 (by decide +kernel)
theorem wb_ok5 : WoOk wbW5 := woErr_ok.1 (by decide +kernel)
theorem wb_ok6 : WoOk wbW6 := woErr_ok.1 (by decide +kernel)
theorem wb_a1 : apE 0 [] 1 wbT1 = wa1 := by rw [apE, wb_h1]; rfl
theorem wb_a2 : apE 1 [] 1 wbT2 = wb1 := by rw [apE, wb_h1]; rfl
theorem wb_a3 : apE 1 [wb1, wa1] 1 wbT3 = wb2 := by rw [apE, wb_h2]; rfl
theorem wb_x1 : apErr 0 [] 1 wbT1 = 0 := by rw [apErr, wb_h1]; decide +kernel
theorem wb_x2 : apErr 1 [] 1 wbT2 = 0 := by rw [apErr, wb_h1]; decide +kernel
theorem wb_x3 : apErr 1 [wb1, wa1] 1 wbT3 = 0 := by rw [apErr, wb_h2]; decide +kernel
theorem doErr_app {w : Wo} {i c : Int} {t : ByteArray} (hi : i = 0 ∨ i = 1) (h : apErr i (w.log i) c t = 0) : doErr w 1 i 0 c t = 0 := by
  rw [doErr, if_neg (by decide), if_neg (by simp [extraB]), if_neg (by simp [hi]), doErr0, if_pos rfl, h]
theorem doW_app {w : Wo} {i c : Int} {t : ByteArray} {e : Entry} (h : apE i (w.log i) c t = e) : doW w 1 i 0 c t = sendW (w.setS i (settled (w.log i ++ [e]) (w.wts i))) (1 - i) e := by
  rw [doW, if_pos rfl, h]
theorem wb_y1 : doErr wNew 1 0 0 1 wbT1 = 0 := doErr_app (w := wNew) (.inl rfl) wb_x1
theorem wb_y2 : doErr wbW1 1 1 0 1 wbT2 = 0 := doErr_app (w := wbW1) (.inr rfl) wb_x2
theorem wb_y5 : doErr wbW4 1 1 0 1 wbT3 = 0 := doErr_app (w := wbW4) (.inr rfl) wb_x3
theorem wb_c1 : doC wNew 1 0 0 1 wbT1 = cWo wbW1 := by
  rw [doC, if_pos wb_y1, doW_app (w := wNew) (e := wa1) wb_a1]; rfl
theorem wb_c2 : doC wbW1 1 1 0 1 wbT2 = cWo wbW2 := by
  rw [doC, if_pos wb_y2, doW_app (w := wbW1) (e := wb1) wb_a2]; rfl
theorem wb_y3 : doErr wbW2 2 1 0 0 ⟨#[]⟩ = 0 := by decide +kernel
theorem wb_z3 : doW wbW2 2 1 0 0 ⟨#[]⟩ = wbW3 := by kernel_rfl
theorem wb_c3 : doC wbW2 2 1 0 0 ⟨#[]⟩ = cWo wbW3 := by rw [doC, if_pos wb_y3, wb_z3]
theorem wb_y4 : doErr wbW3 3 0 0 0 ⟨#[]⟩ = 0 := by decide +kernel
theorem wb_z4 : doW wbW3 3 0 0 0 ⟨#[]⟩ = wbW4 := by kernel_rfl
theorem wb_c4 : doC wbW3 3 0 0 0 ⟨#[]⟩ = cWo wbW4 := by rw [doC, if_pos wb_y4, wb_z4]
theorem wb_c5 : doC wbW4 1 1 0 1 wbT3 = cWo wbW5 := by
  rw [doC, if_pos wb_y5, doW_app (w := wbW4) (e := wb2) wb_a3]; rfl
theorem wb_y6 : doErr wbW5 2 0 0 0 ⟨#[]⟩ = 0 := by decide +kernel
theorem wb_z6 : doW wbW5 2 0 0 0 ⟨#[]⟩ = wbW6 := by kernel_rfl
theorem wb_c6 : doC wbW5 2 0 0 0 ⟨#[]⟩ = cWo wbW6 := by rw [doC, if_pos wb_y6, wb_z6]
theorem wb_s : stW wbW6 = wbS := by kernel_rfl
theorem acts_meets : Meets Try.prog 16 [] [] (.list wbA) [] := by
  refine Meets.of_walk Try.func16 Try.ntmps16 low16 res16 (by simp) fun x hx => ?_
  simp only [go_sem, Nat.reduceLT, Nat.reduceAdd, Nat.reduceEqDiff, Nat.reduceLeDiff, Nat.reduceSub, Nat.reduceMul, Int.reduceEq, eq_self, reduceIte, L16, R16]
  refine ret_pure hx ?_
  simp [go_sem, Nat.reduceLT, Nat.reduceAdd, Nat.reduceEqDiff, Nat.reduceLeDiff, Nat.reduceSub, Nat.reduceMul, Int.reduceEq, eq_self, reduceIte, L16, R16, wbA, cAct, wbT1, wbT2, wbT3]
def wbAt : Nat → Wo
  | 0 => wbW6
  | 1 => wbW5
  | 2 => wbW4
  | 3 => wbW3
  | 4 => wbW2
  | 5 => wbW1
  | _ => wNew
theorem wbAt1 : wbAt 1 = wbW5 := rfl
theorem wbAt2 : wbAt 2 = wbW4 := rfl
theorem wbAt3 : wbAt 3 = wbW3 := rfl
theorem wbAt4 : wbAt 4 = wbW2 := rfl
theorem wbAt5 : wbAt 5 = wbW1 := rfl
theorem wbAt0 : wbAt 0 = wbW6 := rfl
theorem wbAt6 : wbAt 6 = wNew := rfl
set_option maxRecDepth 10000 in
set_option maxHeartbeats 4000000 in
theorem worldBegun_meets : Meets Try.prog 6 [] [] (.bool true) [] := by
  have d1 := woDo_ok wNew wb_ok0 1 0 0 1 wbT1
  have d2 := woDo_ok wbW1 wb_ok1 1 1 0 1 wbT2
  have d3 := woDo_ok wbW2 wb_ok2 2 1 0 0 ⟨#[]⟩
  have d4 := woDo_ok wbW3 wb_ok3 3 0 0 0 ⟨#[]⟩
  have d5 := woDo_ok wbW4 wb_ok4 1 1 0 1 wbT3
  have d6 := woDo_ok wbW5 wb_ok5 2 0 0 0 ⟨#[]⟩
  rw [wb_c1, wb_y1] at d1
  rw [wb_c2, wb_y2] at d2
  rw [wb_c3, wb_y3] at d3
  rw [wb_c4, wb_y4] at d4
  rw [wb_c5, wb_y5] at d5
  rw [wb_c6, wb_y6] at d6
  have hst := settle_ok wbW6 wb_ok6
  rw [wb_s] at hst
  obtain ⟨o1, o2⟩ := okSs_of wb_ok6
  have hck := worldCheck_meets wbW6.ss wbW6.ys (by simp [Wo.ss]) (by simp [Wo.ys]) o1 o2
  rw [woErr_ok.2 wb_ok6] at hck
  have wrk : ∀ k : Int, 0 ≤ k → k < 7 → IntKind.i64.wrap k = k := fun k h1 h2 => by rw [IntKind.wrap_i64]; omega
  refine Meets.of_walk Try.func6 Try.ntmps6 low6 res6 (by simp) fun x hx => ?_
  simp only [go_sem, Nat.reduceLT, Nat.reduceAdd, Nat.reduceEqDiff, Nat.reduceLeDiff, Nat.reduceSub, Nat.reduceMul, Int.reduceEq, eq_self, reduceIte, L6, R6]
  refine ops_call (.pure woNew_meets) ?_
  simp only [go_sem, Nat.reduceLT, Nat.reduceAdd, Nat.reduceEqDiff, Nat.reduceLeDiff, Nat.reduceSub, Nat.reduceMul, Int.reduceEq, eq_self, reduceIte, Int.ofNat_zero, Int.natCast_one, Int.cast_ofNat_Int, Int.reduceLT, Int.reduceLE, Int.reduceToNat, Nat.reduceLT, Int.toNat_zero, Int.natCast_zero, Int.le_refl, Int.lt_irrefl, Int.reduceAdd, frz, false_or, or_true, cWo, cWd]
  refine loop_inv [1, 2] 1 (fun m st => m ≤ 6 ∧ st = ⟨mkE .top [(1, .ptr 0 0), (2, .int .i64 ((6 - m : Nat) : Int))], [.box (cWo (wbAt m))]⟩) 6 (by simp [hx]) (by simp) ?_ ?_
  · refine ⟨by omega, ?_⟩
    simp [trim_mk, go_sem, Nat.reduceLT, Nat.reduceAdd, Nat.reduceEqDiff, Nat.reduceLeDiff, Nat.reduceSub, Nat.reduceMul, Int.reduceEq, eq_self, reduceIte, subHeap, renObj, renCell, renLeaf, pos, List.range_succ, cWo, cWd, wbAt6]
  · rintro m st ⟨hm, rfl⟩
    have hm6 : m = 0 ∨ m = 1 ∨ m = 2 ∨ m = 3 ∨ m = 4 ∨ m = 5 ∨ m = 6 := by omega
    rcases hm6 with rfl | rfl | rfl | rfl | rfl | rfl | rfl
    · have e1 : (wbAt 0) = wbW6 := rfl
      rw [e1]
      simp only [go_sem, Nat.reduceLT, Nat.reduceAdd, Nat.reduceEqDiff, Nat.reduceLeDiff, Nat.reduceSub, Nat.reduceMul, Int.reduceEq, eq_self, reduceIte, Int.ofNat_zero, Int.natCast_one, Int.cast_ofNat_Int, Int.reduceLT, Int.reduceLE, Int.reduceToNat, Nat.reduceLT, Int.toNat_zero, Int.natCast_zero, Int.le_refl, Int.lt_irrefl, Int.reduceAdd, frz, false_or, or_true, cWo, cWd]
      refine ops_call (.pure acts_meets) ?_
      simp only [go_sem, Nat.reduceLT, Nat.reduceAdd, Nat.reduceEqDiff, Nat.reduceLeDiff, Nat.reduceSub, Nat.reduceMul, Int.reduceEq, eq_self, reduceIte, Int.ofNat_zero, Int.natCast_one, Int.cast_ofNat_Int, Int.reduceLT, Int.reduceLE, Int.reduceToNat, Nat.reduceLT, Int.toNat_zero, Int.natCast_zero, Int.le_refl, Int.lt_irrefl, Int.reduceAdd, frz, false_or, or_true, wbA, cWo, cWd, cAct, List.length_cons, List.length_nil]
      refine ops_call (.pureE hst (by simp [go_sem, Nat.reduceLT, Nat.reduceAdd, Nat.reduceEqDiff, Nat.reduceLeDiff, Nat.reduceSub, Nat.reduceMul, Int.reduceEq, eq_self, reduceIte, cWo, cWd])) ?_
      simp only [go_sem, Nat.reduceLT, Nat.reduceAdd, Nat.reduceEqDiff, Nat.reduceLeDiff, Nat.reduceSub, Nat.reduceMul, Int.reduceEq, eq_self, reduceIte, Int.ofNat_zero, Int.natCast_one, Int.cast_ofNat_Int, Int.reduceLT, Int.reduceLE, Int.reduceToNat, Nat.reduceLT, Int.toNat_zero, Int.natCast_zero, Int.le_refl, Int.lt_irrefl, Int.reduceAdd, frz, false_or, or_true, cWo, cWd]
      refine ops_call (.pureE hck (by simp [go_sem, Nat.reduceLT, Nat.reduceAdd, Nat.reduceEqDiff, Nat.reduceLeDiff, Nat.reduceSub, Nat.reduceMul, Int.reduceEq, eq_self, reduceIte, cWd])) ?_
      simp only [go_sem, Nat.reduceLT, Nat.reduceAdd, Nat.reduceEqDiff, Nat.reduceLeDiff, Nat.reduceSub, Nat.reduceMul, Int.reduceEq, eq_self, reduceIte, Int.ofNat_zero, Int.natCast_one, Int.cast_ofNat_Int, Int.reduceLT, Int.reduceLE, Int.reduceToNat, Nat.reduceLT, Int.toNat_zero, Int.natCast_zero, Int.le_refl, Int.lt_irrefl, Int.reduceAdd, frz, false_or, or_true, cWo, cWd, Wo.ss, wbS, wbW6, cSi3, cSi, List.map_cons, List.map_nil, List.length_cons, List.length_nil]
      refine ret_pure hx ?_
      simp [go_sem, Nat.reduceLT, Nat.reduceAdd, Nat.reduceEqDiff, Nat.reduceLeDiff, Nat.reduceSub, Nat.reduceMul, Int.reduceEq, eq_self, reduceIte, L6, R6]
    · skip
      rw [wbAt1]
      simp only [go_sem, Nat.reduceLT, Nat.reduceAdd, Nat.reduceEqDiff, Nat.reduceLeDiff, Nat.reduceSub, Nat.reduceMul, Int.reduceEq, eq_self, reduceIte, Int.ofNat_zero, Int.natCast_one, Int.cast_ofNat_Int, Int.reduceLT, Int.reduceLE, Int.reduceToNat, Nat.reduceLT, Int.toNat_zero, Int.natCast_zero, Int.le_refl, Int.lt_irrefl, Int.reduceAdd, frz, false_or, or_true, cWo, cWd]
      refine ops_call (.pure acts_meets) ?_
      simp only [go_sem, Nat.reduceLT, Nat.reduceAdd, Nat.reduceEqDiff, Nat.reduceLeDiff, Nat.reduceSub, Nat.reduceMul, Int.reduceEq, eq_self, reduceIte, Int.ofNat_zero, Int.natCast_one, Int.cast_ofNat_Int, Int.reduceLT, Int.reduceLE, Int.reduceToNat, Nat.reduceLT, Int.toNat_zero, Int.natCast_zero, Int.le_refl, Int.lt_irrefl, Int.reduceAdd, frz, false_or, or_true, wbA, cWo, cWd, cAct, List.length_cons, List.length_nil]
      refine ops_call (.pure acts_meets) ?_
      simp only [go_sem, Nat.reduceLT, Nat.reduceAdd, Nat.reduceEqDiff, Nat.reduceLeDiff, Nat.reduceSub, Nat.reduceMul, Int.reduceEq, eq_self, reduceIte, Int.ofNat_zero, Int.natCast_one, Int.cast_ofNat_Int, Int.reduceLT, Int.reduceLE, Int.reduceToNat, Nat.reduceLT, Int.toNat_zero, Int.natCast_zero, Int.le_refl, Int.lt_irrefl, Int.reduceAdd, frz, false_or, or_true, wbA, cWo, cWd, cAct, List.length_cons, List.length_nil]
      refine ops_call (.pureE d6 (by simp [go_sem, Nat.reduceLT, Nat.reduceAdd, Nat.reduceEqDiff, Nat.reduceLeDiff, Nat.reduceSub, Nat.reduceMul, Int.reduceEq, eq_self, reduceIte, cWo, cWd, cAct])) ?_
      simp only [go_sem, Nat.reduceLT, Nat.reduceAdd, Nat.reduceEqDiff, Nat.reduceLeDiff, Nat.reduceSub, Nat.reduceMul, Int.reduceEq, eq_self, reduceIte, Int.ofNat_zero, Int.natCast_one, Int.cast_ofNat_Int, Int.reduceLT, Int.reduceLE, Int.reduceToNat, Nat.reduceLT, Int.toNat_zero, Int.natCast_zero, Int.le_refl, Int.lt_irrefl, Int.reduceAdd, frz, false_or, or_true, cWo, cWd, wrk]
      repeat refine ⟨rfl, ?_⟩
      refine ⟨by simp, 0, by omega, ?_⟩
      simp [trim_mk, go_sem, Nat.reduceLT, Nat.reduceAdd, Nat.reduceEqDiff, Nat.reduceLeDiff, Nat.reduceSub, Nat.reduceMul, Int.reduceEq, eq_self, reduceIte, subHeap, renObj, renCell, renLeaf, pos, List.range_succ, cWo, cWd, wrk, wbAt0]
    · skip
      rw [wbAt2]
      simp only [go_sem, Nat.reduceLT, Nat.reduceAdd, Nat.reduceEqDiff, Nat.reduceLeDiff, Nat.reduceSub, Nat.reduceMul, Int.reduceEq, eq_self, reduceIte, Int.ofNat_zero, Int.natCast_one, Int.cast_ofNat_Int, Int.reduceLT, Int.reduceLE, Int.reduceToNat, Nat.reduceLT, Int.toNat_zero, Int.natCast_zero, Int.le_refl, Int.lt_irrefl, Int.reduceAdd, frz, false_or, or_true, cWo, cWd]
      refine ops_call (.pure acts_meets) ?_
      simp only [go_sem, Nat.reduceLT, Nat.reduceAdd, Nat.reduceEqDiff, Nat.reduceLeDiff, Nat.reduceSub, Nat.reduceMul, Int.reduceEq, eq_self, reduceIte, Int.ofNat_zero, Int.natCast_one, Int.cast_ofNat_Int, Int.reduceLT, Int.reduceLE, Int.reduceToNat, Nat.reduceLT, Int.toNat_zero, Int.natCast_zero, Int.le_refl, Int.lt_irrefl, Int.reduceAdd, frz, false_or, or_true, wbA, cWo, cWd, cAct, List.length_cons, List.length_nil]
      refine ops_call (.pure acts_meets) ?_
      simp only [go_sem, Nat.reduceLT, Nat.reduceAdd, Nat.reduceEqDiff, Nat.reduceLeDiff, Nat.reduceSub, Nat.reduceMul, Int.reduceEq, eq_self, reduceIte, Int.ofNat_zero, Int.natCast_one, Int.cast_ofNat_Int, Int.reduceLT, Int.reduceLE, Int.reduceToNat, Nat.reduceLT, Int.toNat_zero, Int.natCast_zero, Int.le_refl, Int.lt_irrefl, Int.reduceAdd, frz, false_or, or_true, wbA, cWo, cWd, cAct, List.length_cons, List.length_nil]
      refine ops_call (.pureE d5 (by simp [go_sem, Nat.reduceLT, Nat.reduceAdd, Nat.reduceEqDiff, Nat.reduceLeDiff, Nat.reduceSub, Nat.reduceMul, Int.reduceEq, eq_self, reduceIte, cWo, cWd, cAct])) ?_
      simp only [go_sem, Nat.reduceLT, Nat.reduceAdd, Nat.reduceEqDiff, Nat.reduceLeDiff, Nat.reduceSub, Nat.reduceMul, Int.reduceEq, eq_self, reduceIte, Int.ofNat_zero, Int.natCast_one, Int.cast_ofNat_Int, Int.reduceLT, Int.reduceLE, Int.reduceToNat, Nat.reduceLT, Int.toNat_zero, Int.natCast_zero, Int.le_refl, Int.lt_irrefl, Int.reduceAdd, frz, false_or, or_true, cWo, cWd, wrk]
      repeat refine ⟨rfl, ?_⟩
      refine ⟨by simp, 1, by omega, ?_⟩
      simp [trim_mk, go_sem, Nat.reduceLT, Nat.reduceAdd, Nat.reduceEqDiff, Nat.reduceLeDiff, Nat.reduceSub, Nat.reduceMul, Int.reduceEq, eq_self, reduceIte, subHeap, renObj, renCell, renLeaf, pos, List.range_succ, cWo, cWd, wrk, wbAt1]
    · skip
      rw [wbAt3]
      simp only [go_sem, Nat.reduceLT, Nat.reduceAdd, Nat.reduceEqDiff, Nat.reduceLeDiff, Nat.reduceSub, Nat.reduceMul, Int.reduceEq, eq_self, reduceIte, Int.ofNat_zero, Int.natCast_one, Int.cast_ofNat_Int, Int.reduceLT, Int.reduceLE, Int.reduceToNat, Nat.reduceLT, Int.toNat_zero, Int.natCast_zero, Int.le_refl, Int.lt_irrefl, Int.reduceAdd, frz, false_or, or_true, cWo, cWd]
      refine ops_call (.pure acts_meets) ?_
      simp only [go_sem, Nat.reduceLT, Nat.reduceAdd, Nat.reduceEqDiff, Nat.reduceLeDiff, Nat.reduceSub, Nat.reduceMul, Int.reduceEq, eq_self, reduceIte, Int.ofNat_zero, Int.natCast_one, Int.cast_ofNat_Int, Int.reduceLT, Int.reduceLE, Int.reduceToNat, Nat.reduceLT, Int.toNat_zero, Int.natCast_zero, Int.le_refl, Int.lt_irrefl, Int.reduceAdd, frz, false_or, or_true, wbA, cWo, cWd, cAct, List.length_cons, List.length_nil]
      refine ops_call (.pure acts_meets) ?_
      simp only [go_sem, Nat.reduceLT, Nat.reduceAdd, Nat.reduceEqDiff, Nat.reduceLeDiff, Nat.reduceSub, Nat.reduceMul, Int.reduceEq, eq_self, reduceIte, Int.ofNat_zero, Int.natCast_one, Int.cast_ofNat_Int, Int.reduceLT, Int.reduceLE, Int.reduceToNat, Nat.reduceLT, Int.toNat_zero, Int.natCast_zero, Int.le_refl, Int.lt_irrefl, Int.reduceAdd, frz, false_or, or_true, wbA, cWo, cWd, cAct, List.length_cons, List.length_nil]
      refine ops_call (.pureE d4 (by simp [go_sem, Nat.reduceLT, Nat.reduceAdd, Nat.reduceEqDiff, Nat.reduceLeDiff, Nat.reduceSub, Nat.reduceMul, Int.reduceEq, eq_self, reduceIte, cWo, cWd, cAct])) ?_
      simp only [go_sem, Nat.reduceLT, Nat.reduceAdd, Nat.reduceEqDiff, Nat.reduceLeDiff, Nat.reduceSub, Nat.reduceMul, Int.reduceEq, eq_self, reduceIte, Int.ofNat_zero, Int.natCast_one, Int.cast_ofNat_Int, Int.reduceLT, Int.reduceLE, Int.reduceToNat, Nat.reduceLT, Int.toNat_zero, Int.natCast_zero, Int.le_refl, Int.lt_irrefl, Int.reduceAdd, frz, false_or, or_true, cWo, cWd, wrk]
      repeat refine ⟨rfl, ?_⟩
      refine ⟨by simp, 2, by omega, ?_⟩
      simp [trim_mk, go_sem, Nat.reduceLT, Nat.reduceAdd, Nat.reduceEqDiff, Nat.reduceLeDiff, Nat.reduceSub, Nat.reduceMul, Int.reduceEq, eq_self, reduceIte, subHeap, renObj, renCell, renLeaf, pos, List.range_succ, cWo, cWd, wrk, wbAt2]
    · skip
      rw [wbAt4]
      simp only [go_sem, Nat.reduceLT, Nat.reduceAdd, Nat.reduceEqDiff, Nat.reduceLeDiff, Nat.reduceSub, Nat.reduceMul, Int.reduceEq, eq_self, reduceIte, Int.ofNat_zero, Int.natCast_one, Int.cast_ofNat_Int, Int.reduceLT, Int.reduceLE, Int.reduceToNat, Nat.reduceLT, Int.toNat_zero, Int.natCast_zero, Int.le_refl, Int.lt_irrefl, Int.reduceAdd, frz, false_or, or_true, cWo, cWd]
      refine ops_call (.pure acts_meets) ?_
      simp only [go_sem, Nat.reduceLT, Nat.reduceAdd, Nat.reduceEqDiff, Nat.reduceLeDiff, Nat.reduceSub, Nat.reduceMul, Int.reduceEq, eq_self, reduceIte, Int.ofNat_zero, Int.natCast_one, Int.cast_ofNat_Int, Int.reduceLT, Int.reduceLE, Int.reduceToNat, Nat.reduceLT, Int.toNat_zero, Int.natCast_zero, Int.le_refl, Int.lt_irrefl, Int.reduceAdd, frz, false_or, or_true, wbA, cWo, cWd, cAct, List.length_cons, List.length_nil]
      refine ops_call (.pure acts_meets) ?_
      simp only [go_sem, Nat.reduceLT, Nat.reduceAdd, Nat.reduceEqDiff, Nat.reduceLeDiff, Nat.reduceSub, Nat.reduceMul, Int.reduceEq, eq_self, reduceIte, Int.ofNat_zero, Int.natCast_one, Int.cast_ofNat_Int, Int.reduceLT, Int.reduceLE, Int.reduceToNat, Nat.reduceLT, Int.toNat_zero, Int.natCast_zero, Int.le_refl, Int.lt_irrefl, Int.reduceAdd, frz, false_or, or_true, wbA, cWo, cWd, cAct, List.length_cons, List.length_nil]
      refine ops_call (.pureE d3 (by simp [go_sem, Nat.reduceLT, Nat.reduceAdd, Nat.reduceEqDiff, Nat.reduceLeDiff, Nat.reduceSub, Nat.reduceMul, Int.reduceEq, eq_self, reduceIte, cWo, cWd, cAct])) ?_
      simp only [go_sem, Nat.reduceLT, Nat.reduceAdd, Nat.reduceEqDiff, Nat.reduceLeDiff, Nat.reduceSub, Nat.reduceMul, Int.reduceEq, eq_self, reduceIte, Int.ofNat_zero, Int.natCast_one, Int.cast_ofNat_Int, Int.reduceLT, Int.reduceLE, Int.reduceToNat, Nat.reduceLT, Int.toNat_zero, Int.natCast_zero, Int.le_refl, Int.lt_irrefl, Int.reduceAdd, frz, false_or, or_true, cWo, cWd, wrk]
      repeat refine ⟨rfl, ?_⟩
      refine ⟨by simp, 3, by omega, ?_⟩
      simp [trim_mk, go_sem, Nat.reduceLT, Nat.reduceAdd, Nat.reduceEqDiff, Nat.reduceLeDiff, Nat.reduceSub, Nat.reduceMul, Int.reduceEq, eq_self, reduceIte, subHeap, renObj, renCell, renLeaf, pos, List.range_succ, cWo, cWd, wrk, wbAt3]
    · skip
      rw [wbAt5]
      simp only [go_sem, Nat.reduceLT, Nat.reduceAdd, Nat.reduceEqDiff, Nat.reduceLeDiff, Nat.reduceSub, Nat.reduceMul, Int.reduceEq, eq_self, reduceIte, Int.ofNat_zero, Int.natCast_one, Int.cast_ofNat_Int, Int.reduceLT, Int.reduceLE, Int.reduceToNat, Nat.reduceLT, Int.toNat_zero, Int.natCast_zero, Int.le_refl, Int.lt_irrefl, Int.reduceAdd, frz, false_or, or_true, cWo, cWd]
      refine ops_call (.pure acts_meets) ?_
      simp only [go_sem, Nat.reduceLT, Nat.reduceAdd, Nat.reduceEqDiff, Nat.reduceLeDiff, Nat.reduceSub, Nat.reduceMul, Int.reduceEq, eq_self, reduceIte, Int.ofNat_zero, Int.natCast_one, Int.cast_ofNat_Int, Int.reduceLT, Int.reduceLE, Int.reduceToNat, Nat.reduceLT, Int.toNat_zero, Int.natCast_zero, Int.le_refl, Int.lt_irrefl, Int.reduceAdd, frz, false_or, or_true, wbA, cWo, cWd, cAct, List.length_cons, List.length_nil]
      refine ops_call (.pure acts_meets) ?_
      simp only [go_sem, Nat.reduceLT, Nat.reduceAdd, Nat.reduceEqDiff, Nat.reduceLeDiff, Nat.reduceSub, Nat.reduceMul, Int.reduceEq, eq_self, reduceIte, Int.ofNat_zero, Int.natCast_one, Int.cast_ofNat_Int, Int.reduceLT, Int.reduceLE, Int.reduceToNat, Nat.reduceLT, Int.toNat_zero, Int.natCast_zero, Int.le_refl, Int.lt_irrefl, Int.reduceAdd, frz, false_or, or_true, wbA, cWo, cWd, cAct, List.length_cons, List.length_nil]
      refine ops_call (.pureE d2 (by simp [go_sem, Nat.reduceLT, Nat.reduceAdd, Nat.reduceEqDiff, Nat.reduceLeDiff, Nat.reduceSub, Nat.reduceMul, Int.reduceEq, eq_self, reduceIte, cWo, cWd, cAct])) ?_
      simp only [go_sem, Nat.reduceLT, Nat.reduceAdd, Nat.reduceEqDiff, Nat.reduceLeDiff, Nat.reduceSub, Nat.reduceMul, Int.reduceEq, eq_self, reduceIte, Int.ofNat_zero, Int.natCast_one, Int.cast_ofNat_Int, Int.reduceLT, Int.reduceLE, Int.reduceToNat, Nat.reduceLT, Int.toNat_zero, Int.natCast_zero, Int.le_refl, Int.lt_irrefl, Int.reduceAdd, frz, false_or, or_true, cWo, cWd, wrk]
      repeat refine ⟨rfl, ?_⟩
      refine ⟨by simp, 4, by omega, ?_⟩
      simp [trim_mk, go_sem, Nat.reduceLT, Nat.reduceAdd, Nat.reduceEqDiff, Nat.reduceLeDiff, Nat.reduceSub, Nat.reduceMul, Int.reduceEq, eq_self, reduceIte, subHeap, renObj, renCell, renLeaf, pos, List.range_succ, cWo, cWd, wrk, wbAt4]
    · skip
      rw [wbAt6]
      simp only [go_sem, Nat.reduceLT, Nat.reduceAdd, Nat.reduceEqDiff, Nat.reduceLeDiff, Nat.reduceSub, Nat.reduceMul, Int.reduceEq, eq_self, reduceIte, Int.ofNat_zero, Int.natCast_one, Int.cast_ofNat_Int, Int.reduceLT, Int.reduceLE, Int.reduceToNat, Nat.reduceLT, Int.toNat_zero, Int.natCast_zero, Int.le_refl, Int.lt_irrefl, Int.reduceAdd, frz, false_or, or_true, cWo, cWd]
      refine ops_call (.pure acts_meets) ?_
      simp only [go_sem, Nat.reduceLT, Nat.reduceAdd, Nat.reduceEqDiff, Nat.reduceLeDiff, Nat.reduceSub, Nat.reduceMul, Int.reduceEq, eq_self, reduceIte, Int.ofNat_zero, Int.natCast_one, Int.cast_ofNat_Int, Int.reduceLT, Int.reduceLE, Int.reduceToNat, Nat.reduceLT, Int.toNat_zero, Int.natCast_zero, Int.le_refl, Int.lt_irrefl, Int.reduceAdd, frz, false_or, or_true, wbA, cWo, cWd, cAct, List.length_cons, List.length_nil]
      refine ops_call (.pure acts_meets) ?_
      simp only [go_sem, Nat.reduceLT, Nat.reduceAdd, Nat.reduceEqDiff, Nat.reduceLeDiff, Nat.reduceSub, Nat.reduceMul, Int.reduceEq, eq_self, reduceIte, Int.ofNat_zero, Int.natCast_one, Int.cast_ofNat_Int, Int.reduceLT, Int.reduceLE, Int.reduceToNat, Nat.reduceLT, Int.toNat_zero, Int.natCast_zero, Int.le_refl, Int.lt_irrefl, Int.reduceAdd, frz, false_or, or_true, wbA, cWo, cWd, cAct, List.length_cons, List.length_nil]
      refine ops_call (.pureE d1 (by simp [go_sem, Nat.reduceLT, Nat.reduceAdd, Nat.reduceEqDiff, Nat.reduceLeDiff, Nat.reduceSub, Nat.reduceMul, Int.reduceEq, eq_self, reduceIte, cWo, cWd, cAct])) ?_
      simp only [go_sem, Nat.reduceLT, Nat.reduceAdd, Nat.reduceEqDiff, Nat.reduceLeDiff, Nat.reduceSub, Nat.reduceMul, Int.reduceEq, eq_self, reduceIte, Int.ofNat_zero, Int.natCast_one, Int.cast_ofNat_Int, Int.reduceLT, Int.reduceLE, Int.reduceToNat, Nat.reduceLT, Int.toNat_zero, Int.natCast_zero, Int.le_refl, Int.lt_irrefl, Int.reduceAdd, frz, false_or, or_true, cWo, cWd, wrk]
      repeat refine ⟨rfl, ?_⟩
      refine ⟨by simp, 5, by omega, ?_⟩
      simp [trim_mk, go_sem, Nat.reduceLT, Nat.reduceAdd, Nat.reduceEqDiff, Nat.reduceLeDiff, Nat.reduceSub, Nat.reduceMul, Int.reduceEq, eq_self, reduceIte, subHeap, renObj, renCell, renLeaf, pos, List.range_succ, cWo, cWd, wrk, wbAt5]
end Go.Proofs.Ytkgobnnkcnnfhaa
/- Worlds, in the law text's words: SameWorld at one world twice, worldIs, CheckWorld: contracts. -/
namespace Go.Proofs.Ytkgobnnkcnnfhaa
set_option linter.unusedSimpArgs false
set_option linter.unusedVariables false
open Go.RowKit
end Go.Proofs.Ytkgobnnkcnnfhaa
/- WorldRight, as a contract. -/
namespace Go.Proofs.Ytkgobnnkcnnfhaa
set_option linter.unusedSimpArgs false
set_option linter.unusedVariables false
open Go.RowKit
theorem take_cE2 {A lg u : List Entry} (h : A = lg ++ u) : List.take lg.length (List.map cE A) = List.map cE lg := by
  rw [← List.map_take, h, List.take_left]
theorem doW_logs {w : Wo} (h : WoOk w) {k i n c : Int} {t : ByteArray} (he : doErr w k i n c t = 0) : (∃ x, (doW w k i n c t).p = w.p ++ x ∧ (i = 1 → x = [])) ∧ ∃ x, (doW w k i n c t).q = w.q ++ x ∧ (i = 0 → x = []) := by
  obtain ⟨hi, -, ⟨x, hx⟩, hy⟩ := doW_ok h he
  rcases hi with rfl | rfl
  · exact ⟨⟨x, hx, fun h => by cases h⟩, [], by rw [List.append_nil]; exact hy, fun _ => rfl⟩
  · exact ⟨⟨[], by rw [List.append_nil]; exact hy, fun _ => rfl⟩, x, hx, fun h => by cases h⟩
set_option maxRecDepth 10000 in
set_option maxHeartbeats 8000000 in
theorem worldRight_meets (ss : List Si) (ys : List (List Entry)) (k i n c : Int) (t : ByteArray) (hs : ss.length ≤ 1000000000000000) (hy : ys.length ≤ 1000000000000000) (ho : okSs ss) (hoy : okYs ys) :
    Meets Try.prog 4 [.agg (cWd ss ys), .agg (cAct k i n c t)] [] (.bool true) [] := by
  refine Meets.of_walk Try.func4 Try.ntmps4 low4 res4 (by simp) fun x hx => ?_
  simp only [go_sem, Nat.reduceLT, Nat.reduceAdd, Nat.reduceEqDiff, Nat.reduceLeDiff, Nat.reduceSub, Nat.reduceMul, Int.reduceEq, eq_self, reduceIte, L4, R4, cWd, cAct]
  by_cases h : woErr ss ys = 0
  · obtain ⟨w, rfl, rfl, hw⟩ := woErr_inv h
    have hdo := woDo_ok w hw k i n c t
    by_cases he : doErr w k i n c t = 0
    · obtain ⟨hi, hok2, -, -⟩ := doW_ok hw he
      obtain ⟨⟨xs, x1, x2⟩, ysx, y1, y2⟩ := doW_logs hw he
      rw [doC, if_pos he, he] at hdo
      generalize doW w k i n c t = w2 at *
      obtain ⟨o1, o2⟩ := okSs_of hok2
      have hck2 := worldCheck_meets w2.ss w2.ys (by simp [Wo.ss]) (by simp [Wo.ys]) o1 o2
      rw [woErr_ok.2 hok2] at hck2
      have l0 := (hw.log (i := 0) (.inl rfl)).len
      have l1 := (hw.log (i := 1) (.inr rfl)).len
      have l0 : w.p.length ≤ 40 := l0
      have l1 : w.q.length ≤ 40 := l1
      refine ops_call (.pureE hdo (by simp [go_sem, Nat.reduceLT, Nat.reduceAdd, Nat.reduceEqDiff, Nat.reduceLeDiff, Nat.reduceSub, Nat.reduceMul, Int.reduceEq, eq_self, reduceIte, cWo, cWd, cAct])) ?_
      simp only [go_sem, Nat.reduceLT, Nat.reduceAdd, Nat.reduceEqDiff, Nat.reduceLeDiff, Nat.reduceSub, Nat.reduceMul, Int.reduceEq, eq_self, reduceIte, cWo, cWd, cAct]
      refine ops_call (.pure worldBegun_meets) ?_
      simp only [go_sem, Nat.reduceLT, Nat.reduceAdd, Nat.reduceEqDiff, Nat.reduceLeDiff, Nat.reduceSub, Nat.reduceMul, Int.reduceEq, eq_self, reduceIte, cWo, cWd, cAct]
      refine ops_call (.pureE hck2 (by simp [go_sem, Nat.reduceLT, Nat.reduceAdd, Nat.reduceEqDiff, Nat.reduceLeDiff, Nat.reduceSub, Nat.reduceMul, Int.reduceEq, eq_self, reduceIte, cWd])) ?_
      rcases hi with rfl | rfl
      · have q2 := y2 rfl
        rw [q2, List.append_nil] at y1
        have y1' : w2.q = w.q ++ [] := by rw [y1, List.append_nil]
        have e1 : ¬ ((w2.q.length : Int) ≠ (w.q.length : Int)) := by rw [y1]; simp
        have e2 : ((w2.q.length : Int) = (w.q.length : Int)) = True := by rw [y1]; simp
        clear y1
        have y1 := y1'
        simp only [go_sem, Nat.reduceLT, Nat.reduceAdd, Nat.reduceEqDiff, Nat.reduceLeDiff, Nat.reduceSub, Nat.reduceMul, Int.reduceEq, eq_self, reduceIte, cWo, cWd, Wo.ss, Wo.ys, cSi3, cSi, cAct, Int.ofNat_zero, Int.natCast_one, Int.cast_ofNat_Int, Int.reduceLT, Int.reduceLE, Int.reduceToNat, Nat.reduceLT, Int.toNat_zero, Int.natCast_zero, Int.le_refl, Int.lt_irrefl, Int.reduceAdd, frz, false_or, or_true, List.map_cons, List.map_nil, List.length_cons, List.length_nil]
        refine loop_inv [2, 3, 5, 7] 3 (fun m st => ∃ j : Nat, j + m = 2 ∧
          st = ⟨mkE .top [(2, .ptr 0 0), (3, .ptr 1 0), (5, .ptr 2 0), (7, .int .i64 j)], [.box (cWo w), .box (cAct k 0 n c t), .box (cWo w2)]⟩) 2 (by simp [hx]) (by simp) ?_ ?_
        · refine ⟨0, by omega, ?_⟩
          simp [trim_mk, go_sem, Nat.reduceLT, Nat.reduceAdd, Nat.reduceEqDiff, Nat.reduceLeDiff, Nat.reduceSub, Nat.reduceMul, Int.reduceEq, eq_self, reduceIte, subHeap, renObj, renCell, renLeaf, pos, List.range_succ, cWo, cWd, Wo.ss, Wo.ys, cSi3, cSi, cAct]
        · rintro m st ⟨j, hj, rfl⟩
          by_cases hj2 : j < 2
          · obtain rfl | rfl : j = 0 ∨ j = 1 := by omega
            · skip
              have hle : w.p.length ≤ w2.p.length := by rw [x1]; simp
              have hnl : ¬ (w2.p.length : Int) < (w.p.length : Int) := by omega
              have hrow : (∀ row ∈ List.map cE w2.p, row.length = 5) = True := eq_true (cE_row w2.p)
              have htk := take_cE2 x1
              have k1 : IntKind.i64.wrap 1 = 1 := by decide
              have k2 : IntKind.i64.wrap 2 = 2 := by decide
              have wl := i64_up (k := w.p.length) (by omega)
              have ho := trivial
              simp only [go_sem, Nat.reduceLT, Nat.reduceAdd, Nat.reduceEqDiff, Nat.reduceLeDiff, Nat.reduceSub, Nat.reduceMul, Int.reduceEq, eq_self, reduceIte, cWo, cWd, Wo.ss, Wo.ys, cSi3, cSi, Int.ofNat_zero, Int.natCast_one, Int.cast_ofNat_Int, Int.reduceLT, Int.reduceLE, Int.reduceToNat, Nat.reduceLT, Int.toNat_zero, Int.natCast_zero, Int.le_refl, Int.lt_irrefl, Int.reduceAdd, frz, false_or, or_true, List.map_cons, List.map_nil, hle, hnl, hrow, htk, wl, List.length_map, Int.sub_zero, Int.natCast_nonneg]
              refine ops_call (.pureE (sameLog_meets w.p (by omega)) (by simp [go_sem, Nat.reduceLT, Nat.reduceAdd, Nat.reduceEqDiff, Nat.reduceLeDiff, Nat.reduceSub, Nat.reduceMul, Int.reduceEq, eq_self, reduceIte, htk])) ?_
              simp only [go_sem, Nat.reduceLT, Nat.reduceAdd, Nat.reduceEqDiff, Nat.reduceLeDiff, Nat.reduceSub, Nat.reduceMul, Int.reduceEq, eq_self, reduceIte, cWo, cWd, Wo.ss, Wo.ys, cSi3, cSi, Int.ofNat_zero, Int.natCast_one, Int.cast_ofNat_Int, Int.reduceLT, Int.reduceLE, Int.reduceToNat, Nat.reduceLT, Int.toNat_zero, Int.natCast_zero, Int.le_refl, Int.lt_irrefl, Int.reduceAdd, frz, false_or, or_true, List.map_cons, List.map_nil, cAct, ho, k1, k2]
              repeat refine ⟨rfl, ?_⟩
              try simp only [go_sem, Nat.reduceLT, Nat.reduceAdd, Nat.reduceEqDiff, Nat.reduceLeDiff, Nat.reduceSub, Nat.reduceMul, Int.reduceEq, eq_self, reduceIte, Int.ofNat_zero, Int.natCast_one, Int.cast_ofNat_Int, Int.reduceLT, Int.reduceLE, Int.reduceToNat, Nat.reduceLT, Int.toNat_zero, Int.natCast_zero, Int.le_refl, Int.lt_irrefl, Int.reduceAdd, frz, false_or, or_true, k1, k2]
              refine ⟨by simp, m - 1, by omega, 0 + 1, by omega, ?_⟩
              simp [trim_mk, go_sem, Nat.reduceLT, Nat.reduceAdd, Nat.reduceEqDiff, Nat.reduceLeDiff, Nat.reduceSub, Nat.reduceMul, Int.reduceEq, eq_self, reduceIte, subHeap, renObj, renCell, renLeaf, pos, List.range_succ, cWo, cWd, Wo.ss, Wo.ys, cSi3, cSi, cAct, k1, k2]
            · skip
              have hle : w.q.length ≤ w2.q.length := by rw [y1]; simp
              have hnl : ¬ (w2.q.length : Int) < (w.q.length : Int) := by omega
              have hrow : (∀ row ∈ List.map cE w2.q, row.length = 5) = True := eq_true (cE_row w2.q)
              have htk := take_cE2 y1
              have k1 : IntKind.i64.wrap 1 = 1 := by decide
              have k2 : IntKind.i64.wrap 2 = 2 := by decide
              have wl := i64_up (k := w.q.length) (by omega)
              have ho := e2
              simp only [go_sem, Nat.reduceLT, Nat.reduceAdd, Nat.reduceEqDiff, Nat.reduceLeDiff, Nat.reduceSub, Nat.reduceMul, Int.reduceEq, eq_self, reduceIte, cWo, cWd, Wo.ss, Wo.ys, cSi3, cSi, Int.ofNat_zero, Int.natCast_one, Int.cast_ofNat_Int, Int.reduceLT, Int.reduceLE, Int.reduceToNat, Nat.reduceLT, Int.toNat_zero, Int.natCast_zero, Int.le_refl, Int.lt_irrefl, Int.reduceAdd, frz, false_or, or_true, List.map_cons, List.map_nil, hle, hnl, hrow, htk, wl, List.length_map, Int.sub_zero, Int.natCast_nonneg]
              refine ops_call (.pureE (sameLog_meets w.q (by omega)) (by simp [go_sem, Nat.reduceLT, Nat.reduceAdd, Nat.reduceEqDiff, Nat.reduceLeDiff, Nat.reduceSub, Nat.reduceMul, Int.reduceEq, eq_self, reduceIte, htk])) ?_
              simp only [go_sem, Nat.reduceLT, Nat.reduceAdd, Nat.reduceEqDiff, Nat.reduceLeDiff, Nat.reduceSub, Nat.reduceMul, Int.reduceEq, eq_self, reduceIte, cWo, cWd, Wo.ss, Wo.ys, cSi3, cSi, Int.ofNat_zero, Int.natCast_one, Int.cast_ofNat_Int, Int.reduceLT, Int.reduceLE, Int.reduceToNat, Nat.reduceLT, Int.toNat_zero, Int.natCast_zero, Int.le_refl, Int.lt_irrefl, Int.reduceAdd, frz, false_or, or_true, List.map_cons, List.map_nil, cAct, ho, k1, k2]
              repeat refine ⟨rfl, ?_⟩
              try simp only [go_sem, Nat.reduceLT, Nat.reduceAdd, Nat.reduceEqDiff, Nat.reduceLeDiff, Nat.reduceSub, Nat.reduceMul, Int.reduceEq, eq_self, reduceIte, Int.ofNat_zero, Int.natCast_one, Int.cast_ofNat_Int, Int.reduceLT, Int.reduceLE, Int.reduceToNat, Nat.reduceLT, Int.toNat_zero, Int.natCast_zero, Int.le_refl, Int.lt_irrefl, Int.reduceAdd, frz, false_or, or_true, k1, k2]
              refine ⟨by simp, m - 1, by omega, 1 + 1, by omega, ?_⟩
              simp [trim_mk, go_sem, Nat.reduceLT, Nat.reduceAdd, Nat.reduceEqDiff, Nat.reduceLeDiff, Nat.reduceSub, Nat.reduceMul, Int.reduceEq, eq_self, reduceIte, subHeap, renObj, renCell, renLeaf, pos, List.range_succ, cWo, cWd, Wo.ss, Wo.ys, cSi3, cSi, cAct, k1, k2]
          · obtain rfl : j = 2 := by omega
            simp only [go_sem, Nat.reduceLT, Nat.reduceAdd, Nat.reduceEqDiff, Nat.reduceLeDiff, Nat.reduceSub, Nat.reduceMul, Int.reduceEq, eq_self, reduceIte, Int.ofNat_zero, Int.natCast_one, Int.cast_ofNat_Int, Int.reduceLT, Int.reduceLE, Int.reduceToNat, Nat.reduceLT, Int.toNat_zero, Int.natCast_zero, Int.le_refl, Int.lt_irrefl, Int.reduceAdd, frz, false_or, or_true]
            refine ret_pure hx ?_
            simp [go_sem, Nat.reduceLT, Nat.reduceAdd, Nat.reduceEqDiff, Nat.reduceLeDiff, Nat.reduceSub, Nat.reduceMul, Int.reduceEq, eq_self, reduceIte, L4, R4]
      · have q2 := x2 rfl
        rw [q2, List.append_nil] at x1
        have x1' : w2.p = w.p ++ [] := by rw [x1, List.append_nil]
        have e2 : ((w2.p.length : Int) = (w.p.length : Int)) = True := by rw [x1]; simp
        clear x1
        have x1 := x1'
        simp only [go_sem, Nat.reduceLT, Nat.reduceAdd, Nat.reduceEqDiff, Nat.reduceLeDiff, Nat.reduceSub, Nat.reduceMul, Int.reduceEq, eq_self, reduceIte, cWo, cWd, Wo.ss, Wo.ys, cSi3, cSi, cAct, Int.ofNat_zero, Int.natCast_one, Int.cast_ofNat_Int, Int.reduceLT, Int.reduceLE, Int.reduceToNat, Nat.reduceLT, Int.toNat_zero, Int.natCast_zero, Int.le_refl, Int.lt_irrefl, Int.reduceAdd, frz, false_or, or_true, List.map_cons, List.map_nil, List.length_cons, List.length_nil]
        refine loop_inv [2, 3, 5, 7] 3 (fun m st => ∃ j : Nat, j + m = 2 ∧
          st = ⟨mkE .top [(2, .ptr 0 0), (3, .ptr 1 0), (5, .ptr 2 0), (7, .int .i64 j)], [.box (cWo w), .box (cAct k 1 n c t), .box (cWo w2)]⟩) 2 (by simp [hx]) (by simp) ?_ ?_
        · refine ⟨0, by omega, ?_⟩
          simp [trim_mk, go_sem, Nat.reduceLT, Nat.reduceAdd, Nat.reduceEqDiff, Nat.reduceLeDiff, Nat.reduceSub, Nat.reduceMul, Int.reduceEq, eq_self, reduceIte, subHeap, renObj, renCell, renLeaf, pos, List.range_succ, cWo, cWd, Wo.ss, Wo.ys, cSi3, cSi, cAct]
        · rintro m st ⟨j, hj, rfl⟩
          by_cases hj2 : j < 2
          · obtain rfl | rfl : j = 0 ∨ j = 1 := by omega
            · skip
              have hle : w.p.length ≤ w2.p.length := by rw [x1]; simp
              have hnl : ¬ (w2.p.length : Int) < (w.p.length : Int) := by omega
              have hrow : (∀ row ∈ List.map cE w2.p, row.length = 5) = True := eq_true (cE_row w2.p)
              have htk := take_cE2 x1
              have k1 : IntKind.i64.wrap 1 = 1 := by decide
              have k2 : IntKind.i64.wrap 2 = 2 := by decide
              have wl := i64_up (k := w.p.length) (by omega)
              have ho := e2
              simp only [go_sem, Nat.reduceLT, Nat.reduceAdd, Nat.reduceEqDiff, Nat.reduceLeDiff, Nat.reduceSub, Nat.reduceMul, Int.reduceEq, eq_self, reduceIte, cWo, cWd, Wo.ss, Wo.ys, cSi3, cSi, Int.ofNat_zero, Int.natCast_one, Int.cast_ofNat_Int, Int.reduceLT, Int.reduceLE, Int.reduceToNat, Nat.reduceLT, Int.toNat_zero, Int.natCast_zero, Int.le_refl, Int.lt_irrefl, Int.reduceAdd, frz, false_or, or_true, List.map_cons, List.map_nil, hle, hnl, hrow, htk, wl, List.length_map, Int.sub_zero, Int.natCast_nonneg]
              refine ops_call (.pureE (sameLog_meets w.p (by omega)) (by simp [go_sem, Nat.reduceLT, Nat.reduceAdd, Nat.reduceEqDiff, Nat.reduceLeDiff, Nat.reduceSub, Nat.reduceMul, Int.reduceEq, eq_self, reduceIte, htk])) ?_
              simp only [go_sem, Nat.reduceLT, Nat.reduceAdd, Nat.reduceEqDiff, Nat.reduceLeDiff, Nat.reduceSub, Nat.reduceMul, Int.reduceEq, eq_self, reduceIte, cWo, cWd, Wo.ss, Wo.ys, cSi3, cSi, Int.ofNat_zero, Int.natCast_one, Int.cast_ofNat_Int, Int.reduceLT, Int.reduceLE, Int.reduceToNat, Nat.reduceLT, Int.toNat_zero, Int.natCast_zero, Int.le_refl, Int.lt_irrefl, Int.reduceAdd, frz, false_or, or_true, List.map_cons, List.map_nil, cAct, ho, k1, k2]
              repeat refine ⟨rfl, ?_⟩
              try simp only [go_sem, Nat.reduceLT, Nat.reduceAdd, Nat.reduceEqDiff, Nat.reduceLeDiff, Nat.reduceSub, Nat.reduceMul, Int.reduceEq, eq_self, reduceIte, Int.ofNat_zero, Int.natCast_one, Int.cast_ofNat_Int, Int.reduceLT, Int.reduceLE, Int.reduceToNat, Nat.reduceLT, Int.toNat_zero, Int.natCast_zero, Int.le_refl, Int.lt_irrefl, Int.reduceAdd, frz, false_or, or_true, k1, k2]
              refine ⟨by simp, m - 1, by omega, 0 + 1, by omega, ?_⟩
              simp [trim_mk, go_sem, Nat.reduceLT, Nat.reduceAdd, Nat.reduceEqDiff, Nat.reduceLeDiff, Nat.reduceSub, Nat.reduceMul, Int.reduceEq, eq_self, reduceIte, subHeap, renObj, renCell, renLeaf, pos, List.range_succ, cWo, cWd, Wo.ss, Wo.ys, cSi3, cSi, cAct, k1, k2]
            · skip
              have hle : w.q.length ≤ w2.q.length := by rw [y1]; simp
              have hnl : ¬ (w2.q.length : Int) < (w.q.length : Int) := by omega
              have hrow : (∀ row ∈ List.map cE w2.q, row.length = 5) = True := eq_true (cE_row w2.q)
              have htk := take_cE2 y1
              have k1 : IntKind.i64.wrap 1 = 1 := by decide
              have k2 : IntKind.i64.wrap 2 = 2 := by decide
              have wl := i64_up (k := w.q.length) (by omega)
              have ho := trivial
              simp only [go_sem, Nat.reduceLT, Nat.reduceAdd, Nat.reduceEqDiff, Nat.reduceLeDiff, Nat.reduceSub, Nat.reduceMul, Int.reduceEq, eq_self, reduceIte, cWo, cWd, Wo.ss, Wo.ys, cSi3, cSi, Int.ofNat_zero, Int.natCast_one, Int.cast_ofNat_Int, Int.reduceLT, Int.reduceLE, Int.reduceToNat, Nat.reduceLT, Int.toNat_zero, Int.natCast_zero, Int.le_refl, Int.lt_irrefl, Int.reduceAdd, frz, false_or, or_true, List.map_cons, List.map_nil, hle, hnl, hrow, htk, wl, List.length_map, Int.sub_zero, Int.natCast_nonneg]
              refine ops_call (.pureE (sameLog_meets w.q (by omega)) (by simp [go_sem, Nat.reduceLT, Nat.reduceAdd, Nat.reduceEqDiff, Nat.reduceLeDiff, Nat.reduceSub, Nat.reduceMul, Int.reduceEq, eq_self, reduceIte, htk])) ?_
              simp only [go_sem, Nat.reduceLT, Nat.reduceAdd, Nat.reduceEqDiff, Nat.reduceLeDiff, Nat.reduceSub, Nat.reduceMul, Int.reduceEq, eq_self, reduceIte, cWo, cWd, Wo.ss, Wo.ys, cSi3, cSi, Int.ofNat_zero, Int.natCast_one, Int.cast_ofNat_Int, Int.reduceLT, Int.reduceLE, Int.reduceToNat, Nat.reduceLT, Int.toNat_zero, Int.natCast_zero, Int.le_refl, Int.lt_irrefl, Int.reduceAdd, frz, false_or, or_true, List.map_cons, List.map_nil, cAct, ho, k1, k2]
              repeat refine ⟨rfl, ?_⟩
              try simp only [go_sem, Nat.reduceLT, Nat.reduceAdd, Nat.reduceEqDiff, Nat.reduceLeDiff, Nat.reduceSub, Nat.reduceMul, Int.reduceEq, eq_self, reduceIte, Int.ofNat_zero, Int.natCast_one, Int.cast_ofNat_Int, Int.reduceLT, Int.reduceLE, Int.reduceToNat, Nat.reduceLT, Int.toNat_zero, Int.natCast_zero, Int.le_refl, Int.lt_irrefl, Int.reduceAdd, frz, false_or, or_true, k1, k2]
              refine ⟨by simp, m - 1, by omega, 1 + 1, by omega, ?_⟩
              simp [trim_mk, go_sem, Nat.reduceLT, Nat.reduceAdd, Nat.reduceEqDiff, Nat.reduceLeDiff, Nat.reduceSub, Nat.reduceMul, Int.reduceEq, eq_self, reduceIte, subHeap, renObj, renCell, renLeaf, pos, List.range_succ, cWo, cWd, Wo.ss, Wo.ys, cSi3, cSi, cAct, k1, k2]
          · obtain rfl : j = 2 := by omega
            simp only [go_sem, Nat.reduceLT, Nat.reduceAdd, Nat.reduceEqDiff, Nat.reduceLeDiff, Nat.reduceSub, Nat.reduceMul, Int.reduceEq, eq_self, reduceIte, Int.ofNat_zero, Int.natCast_one, Int.cast_ofNat_Int, Int.reduceLT, Int.reduceLE, Int.reduceToNat, Nat.reduceLT, Int.toNat_zero, Int.natCast_zero, Int.le_refl, Int.lt_irrefl, Int.reduceAdd, frz, false_or, or_true]
            refine ret_pure hx ?_
            simp [go_sem, Nat.reduceLT, Nat.reduceAdd, Nat.reduceEqDiff, Nat.reduceLeDiff, Nat.reduceSub, Nat.reduceMul, Int.reduceEq, eq_self, reduceIte, L4, R4]
    · rw [doC, if_neg he] at hdo
      refine ops_call (.pureE hdo (by simp [go_sem, Nat.reduceLT, Nat.reduceAdd, Nat.reduceEqDiff, Nat.reduceLeDiff, Nat.reduceSub, Nat.reduceMul, Int.reduceEq, eq_self, reduceIte, cWo, cWd, cAct])) ?_
      simp only [go_sem, Nat.reduceLT, Nat.reduceAdd, Nat.reduceEqDiff, Nat.reduceLeDiff, Nat.reduceSub, Nat.reduceMul, Int.reduceEq, eq_self, reduceIte, cWoN]
      refine ops_call (.pure worldBegun_meets) ?_
      simp only [go_sem, Nat.reduceLT, Nat.reduceAdd, Nat.reduceEqDiff, Nat.reduceLeDiff, Nat.reduceSub, Nat.reduceMul, Int.reduceEq, eq_self, reduceIte, he, Int.ofNat_zero, Int.natCast_one, Int.cast_ofNat_Int, Int.reduceLT, Int.reduceLE, Int.reduceToNat, Nat.reduceLT, Int.toNat_zero, Int.natCast_zero, Int.le_refl, Int.lt_irrefl, Int.reduceAdd, frz, false_or, or_true, List.length_nil]
      refine ret_pure hx ?_
      simp [go_sem, Nat.reduceLT, Nat.reduceAdd, Nat.reduceEqDiff, Nat.reduceLeDiff, Nat.reduceSub, Nat.reduceMul, Int.reduceEq, eq_self, reduceIte, L4, R4]
  · have hdo := woDo_bad ss ys k i n c t hs hy ho hoy h
    refine ops_call (.pureE hdo (by simp [go_sem, Nat.reduceLT, Nat.reduceAdd, Nat.reduceEqDiff, Nat.reduceLeDiff, Nat.reduceSub, Nat.reduceMul, Int.reduceEq, eq_self, reduceIte, cWd, cAct])) ?_
    simp only [go_sem, Nat.reduceLT, Nat.reduceAdd, Nat.reduceEqDiff, Nat.reduceLeDiff, Nat.reduceSub, Nat.reduceMul, Int.reduceEq, eq_self, reduceIte, cWoN]
    refine ops_call (.pure worldBegun_meets) ?_
    simp only [go_sem, Nat.reduceLT, Nat.reduceAdd, Nat.reduceEqDiff, Nat.reduceLeDiff, Nat.reduceSub, Nat.reduceMul, Int.reduceEq, eq_self, reduceIte, h, Int.ofNat_zero, Int.natCast_one, Int.cast_ofNat_Int, Int.reduceLT, Int.reduceLE, Int.reduceToNat, Nat.reduceLT, Int.toNat_zero, Int.natCast_zero, Int.le_refl, Int.lt_irrefl, Int.reduceAdd, frz, false_or, or_true, List.length_nil]
    refine ret_pure hx ?_
    simp [go_sem, Nat.reduceLT, Nat.reduceAdd, Nat.reduceEqDiff, Nat.reduceLeDiff, Nat.reduceSub, Nat.reduceMul, Int.reduceEq, eq_self, reduceIte, L4, R4]
end Go.Proofs.Ytkgobnnkcnnfhaa
/- From an argument's reading as data to what the walks ask of memory; and from a walk that ends in 'true' to a law's statement. -/
namespace Go.Proofs.Ytkgobnnkcnnfhaa
open Go.RowKit Go.ChangeShapes Go.WideShapes Go.ChangeAt

section
variable {H : Type} {enc : TypeId × Value → H} {P : Program} {w : World} {sp : Nat → Bool} {held : Bool}

theorem trodAll_stays (hl : laidOutB P = true) {W W' : World} (hb : Below W.heap.size W W') : ∀ {ts : List TypeId} {vs : List Value} {ds : List (DataW H)} {ps : List MemPlace},
    (∀ t ∈ ts, P.readableRec t = true ∧ t < P.types.size) → (∀ x ∈ ps, x.block < W.heap.size) → DataW.TrodAll enc P W 0 (fun _ => true) true ts vs ds ps → DataW.TrodAll enc P W' 0 (fun b => decide (b < W.heap.size)) true ts vs ds ps
  | [], [], [], _, _, _, h => h
  | t :: ts, v :: vs, d :: ds, _, hr, hlt, h => by
    obtain ⟨p, q, h1, h2, rfl⟩ := h
    refine ⟨p, q, Below.trod hl (hr t (by simp)).1 (hr t (by simp)).2 h1 hb (fun x hx => hlt x (by simp [hx])), trodAll_stays hl hb (fun t' ht => hr t' (by simp [ht])) (fun x hx => hlt x (by simp [hx])) h2, rfl⟩
  | [], [], _ :: _, _, _, _, h => h.elim
  | [], _ :: _, _, _, _, _, h => by cases h
  | _ :: _, [], _, _, _, _, h => by cases h
  | _ :: _, _ :: _, [], _, _, _, h => h.elim

/-- A LAW's END: it has answered true, and of what was there nothing has turned. -/
theorem law_post {f : Func} {s : ChangeSpec} {apart : Bool} {W W' : World} {args : Array Value} {ds gs : List (DataW H)} {before : List MemPlace} {tb : TypeId}
    (hl : laidOutB P = true) (hpar : ∀ t ∈ f.params.toList, P.readableRec t = true ∧ t < P.types.size) (hres : f.resultTypes = #[tb]) (hub : P.underlying tb = some .bool) (hvars : s.vars = [])
    (hW : DataW.Whole enc P f.params.toList s.vars apart W args.toList ds gs before)
    (hs : s.fn H (ds ++ gs) = { results := [.lit (.bool true)], args := ds }) (hb : Below W.heap.size W W') : s.post enc P f apart true false false W args (.bool true) W' := by
  have hlt := hW.lt
  have hW' := hW
  obtain ⟨p, q, hA, hV, rfl, hfz, hnd⟩ := hW
  rw [hvars] at hV
  have hq : gs = [] ∧ q = [] := by
    cases gs with
    | nil => exact ⟨rfl, hV⟩
    | cons g gs => exact hV.elim
  obtain ⟨rfl, rfl⟩ := hq
  refine ⟨ds, [], _, [], p, [], hW', ?_, ?_, ?_, hb.frame _, fun h => by cases h⟩
  · rw [hs, hres]
    exact trodAll_mk1 (shut_bool hub true)
  · rw [hs]
    exact trodAll_stays hl hb hpar (fun x hx => hlt x (by simp [hx])) hA
  · rw [hs, hvars]
    rfl

theorem parsOf {ts : List TypeId} (h : (ts.all fun t => P.readableRec t && decide (t < P.types.size)) = true) : ∀ t ∈ ts, P.readableRec t = true ∧ t < P.types.size := by
  intro t ht
  have := List.all_eq_true.1 h t ht
  simpa only [Bool.and_eq_true, decide_eq_true_eq] using this

end

/-- within the bounds of Go's int -/
def I64 (n : Int) : Prop := -9223372036854775808 ≤ n ∧ n ≤ 9223372036854775807
theorem i64_of_wf {n : Int} (h : (Lit.int .i64 n).wf = true) : I64 n := by simpa [Lit.wf, IntKind.min, IntKind.max, IntKind.signed, IntKind.bits, I64] using h

section
variable {H : Type} {enc : TypeId × Value → H} {w : World} {sp : Nat → Bool} {held : Bool}
theorem lawOwn : ownKnob Try.prog.godebug = none := by kernel_rfl
theorem lawLaid : laidOutB Try.prog = true := by kernel_rfl
theorem lawBool : Try.prog.underlying 4 = some .bool := by kernel_rfl
theorem undInt' : Try.prog.underlying 3 = some (.int .i64) := by kernel_rfl
theorem cellsInt : Try.prog.cellsOf 3 = 1 := by kernel_rfl
theorem undId : Try.prog.underlying 35 = some (.struct (Try.prog.fieldsOf 35)) := by kernel_rfl
theorem cellsId : Try.prog.cellsOf 35 = 2 := by kernel_rfl
end

end Go.Proofs.Ytkgobnnkcnnfhaa
/- From an argument's reading as data to abstract values; from a contract of a law to its statement. -/
namespace Go.Proofs.Ytkgobnnkcnnfhaa
open Go.RowKit Go.ChangeShapes Go.WideShapes Go.ChangeAt

/-- cells in memory show abstract values -/
def Shows (w : World) (ps : List PV) (cs : List Value) : Prop := cs.length = ps.length ∧ ∀ (j : Nat) p v, ps[j]? = some p → cs[j]? = some v → RepP (fun b _ => b < w.heap.size) w p v

section
variable {H : Type} {enc : TypeId × Value → H} {P : Program} {w : World} {sp : Nat → Bool} {held : Bool}

/-- what a type's reading gives: n cells, R of their abstract values -/
def Opens (enc : TypeId × Value → H) (P : Program) (w : World) (sp : Nat → Bool) (held : Bool) (t : TypeId) (n : Nat) (R : List PV → Prop) : Prop :=
  P.cellsOf t = n ∧ ∀ fuel cs (y : DataW H × List MemPlace), DataW.trod enc P w 0 sp held fuel t cs = some y → (∀ k ∈ y.1.weights P t, k ≤ reachBytes) → ∃ ps, ps.length = n ∧ R ps ∧ Shows w ps cs

theorem Opens.mono {t : TypeId} {n : Nat} {R R' : List PV → Prop} (h : Opens enc P w sp held t n R) (hR : ∀ ps, R ps → R' ps) : Opens enc P w sp held t n R' :=
  ⟨h.1, fun fuel cs y hy hw => by obtain ⟨ps, h1, h2, h3⟩ := h.2 fuel cs y hy hw; exact ⟨ps, h1, hR ps h2, h3⟩⟩

theorem shows1 {p : PV} {v : Value} (h : RepP (fun b _ => b < w.heap.size) w p v) : Shows w [p] [v] := by
  refine ⟨rfl, fun j q u hj hu => ?_⟩
  cases j with
  | zero => simp at hj hu; subst hj; subst hu; exact h
  | succ j => simp at hj

theorem opens_int {t : TypeId} (ht : P.underlying t = some (.int .i64)) (hc : P.cellsOf t = 1) : Opens enc P w sp held t 1 fun ps => ∃ n, I64 n ∧ ps = [.int .i64 n] := by
  refine ⟨hc, fun fuel cs y h _ => ?_⟩
  obtain ⟨n, rfl, -, hw⟩ := DataW.trod_int ht h
  exact ⟨[.int .i64 n], rfl, ⟨n, i64_of_wf hw, rfl⟩, shows1 (.int _ _)⟩
theorem opens_str {t : TypeId} (ht : P.underlying t = some .string) (hc : P.cellsOf t = 1) : Opens enc P w sp held t 1 fun ps => ∃ s : ByteArray, s.size ≤ reachBytes ∧ ps = [.str s] := by
  refine ⟨hc, fun fuel cs y h hw => ?_⟩
  obtain ⟨s, rfl, rfl, -⟩ := DataW.trod_string ht h
  have hs := hw s.data.toList.length (by simp [DataW.weights])
  exact ⟨[.str s], rfl, ⟨s, by simpa using hs, rfl⟩, shows1 (.str _)⟩

/-- a slice's reading, element by element, with their data -/
theorem trod_elems2 {t e : TypeId} {fuel : Nat} {v : Value} {x : DataW H × List MemPlace} (ht : P.underlying t = some (.slice e)) (hsz : 0 < P.cellsOf e) (h : DataW.trod enc P w 0 sp held fuel t [v] = some x) (hw : ∀ k ∈ x.1.weights P t, k ≤ reachBytes) :
    ∃ a n c, v = .slice a n c ∧ n ≤ c ∧ c ≤ maxLen ∧ n * P.bytesOf e ≤ reachBytes ∧ ∀ k, k < n → ∃ b o cs m y, a = some ⟨b, o, none⟩ ∧ b < w.heap.size ∧ cs.length = P.cellsOf e ∧ (∀ j, j < P.cellsOf e → w.cell? ⟨b, o + k * P.cellsOf e + j, none⟩ = cs[j]?) ∧
      DataW.trod enc P w 0 sp held m e cs = some y ∧ ∀ q ∈ y.1.weights P e, q ≤ reachBytes := by
  have memAll : ∀ (ds : List (DataW H)) (d : DataW H), d ∈ ds → ∀ q ∈ d.weights P e, q ∈ DataW.weightsAll P e ds := by
    intro ds
    induction ds with
    | nil => intro d hd; cases hd
    | cons d0 ds ih =>
      intro d hd q hq
      simp only [DataW.weightsAll, List.mem_append]
      rcases List.mem_cons.1 hd with rfl | hd
      · exact .inl hq
      · exact .inr (ih d hd q hq)
  rcases DataW.trod_slice ht h with ⟨hv, -⟩ | ⟨a, len, cap, elems, rest, m, -, hv, hx, -, h1, h2, hl, hel, -, -⟩
  · exact ⟨none, 0, 0, by simpa using hv, by omega, by unfold maxLen; omega, by omega, fun k hk => by omega⟩
  · obtain rfl : v = .slice (some a) len cap := by simpa using hv
    have hwt : len * P.bytesOf e ≤ reachBytes := by
      have := hw ((elems.length + rest.length) * P.bytesOf e) (by rw [hx]; simp [DataW.weights, ht])
      have h3 : len * P.bytesOf e ≤ (elems.length + rest.length) * P.bytesOf e := Nat.mul_le_mul_right _ (by omega)
      omega
    have key : ∀ k, k < len → ∃ cs y, w.cells? 0 (a.add (k * P.cellsOf e)) (P.cellsOf e) = some cs ∧ DataW.trod enc P w 0 sp held m e cs = some y ∧ ∀ q ∈ y.1.weights P e, q ≤ reachBytes := by
      intro k hk
      have := hel k hk
      rw [List.getElem?_eq_getElem (by omega)] at this
      obtain ⟨cs, hcs, hy⟩ := Option.bind_eq_some_iff.1 this
      refine ⟨cs, _, hcs, hy, fun q hq => hw q ?_⟩
      rw [hx]
      simp only [DataW.weights, ht, List.mem_cons, List.mem_append]
      exact .inr (.inl (memAll _ _ (List.mem_map.2 ⟨_, List.getElem_mem _, rfl⟩) q hq))
    refine ⟨some a, len, cap, rfl, h1, h2, hwt, fun k hk => ?_⟩
    obtain ⟨cs0, y0, hc0, -⟩ := key 0 (by omega)
    have h0 := (World.cells?_some hc0).2.2 0 hsz
    obtain ⟨ab, ao, asp⟩ := a
    have hl0 := (World.cells?_some hc0).2.1
    have has : asp = none := by
      simp only [Nat.zero_mul, Addr.add, if_true] at h0
      rw [List.getElem?_eq_getElem (by omega)] at h0
      cases asp with
      | none => rfl
      | some s =>
        simp only [World.cell?] at h0
        split at h0 <;> simp at h0
    subst has
    obtain ⟨cs, y, hcs, hy, hq⟩ := key k hk
    have h3 := World.cells?_some hcs
    have add_eq : ∀ (o n : Nat), (⟨ab, o, none⟩ : Addr).add n = ⟨ab, o + n, none⟩ := by
      intro o n; unfold Addr.add; split <;> simp_all
    refine ⟨ab, ao, cs, m, y, rfl, ?_, h3.2.1, fun j hj => ?_, hy, hq⟩
    · exact World.cells?_block (a := ⟨ab, ao, none⟩) (by simpa [add_eq] using hc0) hsz
    · have := h3.2.2 j hj
      simpa [add_eq] using this

theorem list_choose {α : Type} {n : Nat} {Q : Nat → α → Prop} (h : ∀ k, k < n → ∃ x, Q k x) : ∃ l : List α, l.length = n ∧ ∀ (k : Nat) x, l[k]? = some x → Q k x := by
  induction n with
  | zero => exact ⟨[], rfl, fun k x hk => by simp at hk⟩
  | succ n ih =>
    obtain ⟨l, h1, h2⟩ := ih fun k hk => h k (by omega)
    obtain ⟨x, hx⟩ := h n (by omega)
    refine ⟨l ++ [x], by simp [h1], fun k y hk => ?_⟩
    by_cases hlt : k < l.length
    · rw [List.getElem?_append_left hlt] at hk; exact h2 k y hk
    · rw [List.getElem?_append_right (by omega)] at hk
      have : k - l.length = 0 := by
        have := (List.getElem?_eq_some_iff.1 hk).1
        simp at this; omega
      rw [this] at hk
      simp at hk
      subst hk
      rw [show k = n by omega]; exact hx

theorem opens_slice {t e : TypeId} {n : Nat} {R : List PV → Prop} (ht : P.underlying t = some (.slice e)) (hc : P.cellsOf t = 1) (hn : 0 < n) (he : Opens enc P w sp held e n R) :
    Opens enc P w sp held t 1 fun ps => ∃ rows, rows.length * P.bytesOf e ≤ reachBytes ∧ (∀ row ∈ rows, row.length = n ∧ R row) ∧ ps = [.list rows] := by
  refine ⟨hc, fun fuel cs y h hw => ?_⟩
  have hcs : ∃ v, cs = [v] := by
    rcases DataW.trod_slice ht h with ⟨hv, -⟩ | ⟨a, len, cap, elems, rest, m, -, hv, -⟩ <;> exact ⟨_, hv⟩
  obtain ⟨v, rfl⟩ := hcs
  obtain ⟨hce, he⟩ := he
  obtain ⟨a, len, c, rfl, h1, h2, hby, h3⟩ := trod_elems2 ht (by omega) h hw
  rw [hce] at h3
  obtain ⟨rows, r1, r2⟩ := list_choose (Q := fun k (row : List PV) => row.length = n ∧ R row ∧ ∃ b o cs, a = some ⟨b, o, none⟩ ∧ b < w.heap.size ∧ cs.length = n ∧ (∀ j, j < n → w.cell? ⟨b, o + k * n + j, none⟩ = cs[j]?) ∧ Shows w row cs) fun k hk => by
    obtain ⟨b, o, cs, m, y, q1, q2, q3, q4, q5, q6⟩ := h3 k hk
    obtain ⟨ps, p1, p2, p3⟩ := he m cs y q5 q6
    exact ⟨ps, p1, p2, b, o, cs, q1, q2, q3, q4, p3⟩
  refine ⟨[.list rows], rfl, ⟨rows, by rw [r1]; exact hby, fun row hr => ?_, rfl⟩, shows1 ?_⟩
  · obtain ⟨k, hk⟩ := List.getElem?_of_mem hr
    exact ⟨(r2 k row hk).1, (r2 k row hk).2.1⟩
  · have key : ∀ k row j p, rows[k]? = some row → row[j]? = some p → ∃ b o, a = some ⟨b, o, none⟩ ∧ b < w.heap.size ∧ ∃ u, w.cell? ⟨b, o + k * n + j, none⟩ = some u ∧ RepP (fun b _ => b < w.heap.size) w p u := by
      intro k row j p hk hj
      obtain ⟨hl, -, b, o, cs, q1, q2, q3, q4, q5⟩ := r2 k row hk
      have hlt : j < n := by rw [← hl]; exact (List.getElem?_eq_some_iff.1 hj).1
      refine ⟨b, o, q1, q2, cs[j]'(by omega), ?_, ?_⟩
      · rw [q4 j hlt, List.getElem?_eq_getElem (by omega)]
      · exact q5.2 j p _ hj (List.getElem?_eq_getElem (by omega))
    have := RepP.list (S := fun b _ => b < w.heap.size) (w := w) rows a c n (fun k j => match a with | some ad => (w.cell? ⟨ad.block, ad.off + k * n + j, none⟩).getD Go.undef | none => Go.undef) (by omega) h2 hn (fun row hr => by
        obtain ⟨k, hk⟩ := List.getElem?_of_mem hr
        exact (r2 k row hk).1) (fun k row j p hk hj => by
        obtain ⟨b, o, q1, q2, u, q3, q4⟩ := key k row j p hk hj
        subst q1
        exact ⟨b, o, rfl, q2, by simp [q3]⟩) (fun k row j p hk hj => by
        obtain ⟨b, o, q1, q2, u, q3, q4⟩ := key k row j p hk hj
        subst q1
        simp only [q3, Option.getD_some]
        exact q4)
    rw [r1] at this
    exact this

/-- fields, one behind the other -/
def offs : Nat → List (TypeId × Nat) → List (TypeId × Nat)
  | _, [] => []
  | o, (t, n) :: r => (t, o) :: offs (o + n) r
def RAll : List (Nat × (List PV → Prop)) → List PV → Prop
  | [], ps => ps = []
  | (n, R) :: r, ps => ∃ a b, ps = a ++ b ∧ a.length = n ∧ R a ∧ RAll r b
def OpensAll (enc : TypeId × Value → H) (P : Program) (w : World) (sp : Nat → Bool) (held : Bool) : List (TypeId × Nat × (List PV → Prop)) → Prop
  | [] => True
  | (t, n, R) :: r => Opens enc P w sp held t n R ∧ OpensAll enc P w sp held r

theorem shows_append {a b : List PV} {cs ds : List Value} (h1 : Shows w a cs) (h2 : Shows w b ds) : Shows w (a ++ b) (cs ++ ds) := by
  refine ⟨by simp [h1.1, h2.1], fun j p v hj hv => ?_⟩
  by_cases hlt : j < a.length
  · rw [List.getElem?_append_left hlt] at hj
    rw [List.getElem?_append_left (by rw [h1.1]; exact hlt)] at hv
    exact h1.2 j p v hj hv
  · rw [List.getElem?_append_right (by omega)] at hj
    rw [List.getElem?_append_right (by rw [h1.1]; omega), h1.1] at hv
    exact h2.2 _ p v hj hv

theorem opens_fields : ∀ (fl : List (TypeId × Nat × (List PV → Prop))) (o : Nat) (cs : List Value), OpensAll enc P w sp held fl → cs.length = o + (fl.map (·.2.1)).sum →
    (∀ (i : Nat) (t' : TypeId) (o' : Nat), (offs o (fl.map fun f => (f.1, f.2.1)))[i]? = some (t', o') → ∃ n y, DataW.trod enc P w 0 sp held n t' ((cs.drop o').take (P.cellsOf t')) = some y ∧ ∀ k ∈ y.1.weights P t', k ≤ reachBytes) →
    ∃ ps, ps.length = (fl.map (·.2.1)).sum ∧ RAll (fl.map (·.2)) ps ∧ Shows w ps (cs.drop o)
  | [], o, cs, _, hl, _ => ⟨[], rfl, rfl, by
      rw [List.drop_eq_nil_of_le (by simp at hl; omega)]
      exact ⟨rfl, fun j p v hj => by simp at hj⟩⟩
  | (t, n, R) :: fl, o, cs, ho, hl, hx => by
    obtain ⟨⟨hc, h1⟩, h2⟩ := ho
    obtain ⟨m, y, hy, hwy⟩ := hx 0 t o rfl
    obtain ⟨ps, p1, p2, p3⟩ := h1 m _ y hy hwy
    simp only [List.map_cons, List.sum_cons] at hl
    obtain ⟨qs, q1, q2, q3⟩ := opens_fields fl (o + n) cs h2 (by omega) fun i t' o' hi => hx (i + 1) t' o' hi
    refine ⟨ps ++ qs, by simp [p1, q1], ⟨ps, qs, rfl, p1, p2, q2⟩, ?_⟩
    rw [hc] at p3
    have : cs.drop o = (cs.drop o).take n ++ cs.drop (o + n) := by rw [← List.drop_drop, List.take_append_drop]
    rw [this]
    exact shows_append p3 q3

theorem opens_struct {t : TypeId} {n : Nat} (fl : List (TypeId × Nat × (List PV → Prop))) (hs : P.underlying t = some (.struct (P.fieldsOf t))) (hf : (P.fieldsOf t).toList.map (fun f => (f.type, f.offset)) = offs 0 (fl.map fun f => (f.1, f.2.1)))
    (hc : P.cellsOf t = n) (hn : (fl.map (·.2.1)).sum = n) (ho : OpensAll enc P w sp held fl) : Opens enc P w sp held t n (RAll (fl.map (·.2))) := by
  refine ⟨hc, fun fuel cs y h hw => ?_⟩
  obtain ⟨xs, m, _, hy, hl, hlen, hq⟩ := DataW.trod_struct hs h
  have hx : ∀ (i : Nat) (t' : TypeId) (o' : Nat), (offs 0 (fl.map fun f => (f.1, f.2.1)))[i]? = some (t', o') → ∃ n y, DataW.trod enc P w 0 sp held n t' ((cs.drop o').take (P.cellsOf t')) = some y ∧ ∀ k ∈ y.1.weights P t', k ≤ reachBytes := by
    intro i t' o' hi
    rw [← hf, List.getElem?_map] at hi
    obtain ⟨f, h1, h2⟩ := Option.map_eq_some_iff.1 hi
    simp only [Prod.mk.injEq] at h2
    obtain ⟨rfl, rfl⟩ := h2
    have h3 := hq i f (by simpa using h1)
    have hi2 : i < (P.fieldsOf t).toList.length := (List.getElem?_eq_some_iff.1 h1).1
    have hi3 : i < xs.length := by rw [hlen]; simpa using hi2
    refine ⟨m, xs[i], by rw [h3]; simp, fun k hk => hw k ?_⟩
    rw [hy]
    simp only [DataW.weights, hs]
    refine DataW.weights_mem_each (j := i) (t := f.type) (d := xs[i].1) ?_ ?_ k hk
    · rw [List.getElem?_map, h1]; rfl
    · rw [List.getElem?_map, List.getElem?_eq_getElem hi3]; rfl
  obtain ⟨ps, h1, h2, h3⟩ := opens_fields fl 0 cs ho (by omega) hx
  exact ⟨ps, by omega, h2, h3⟩

/-- an argument of several cells -/
theorem open_agg {t : TypeId} {n : Nat} {R : List PV → Prop} (ho : Opens enc P w sp held t n R) {v : Value} (h1 : ∃ cs, v = .agg cs) {d : DataW H} {p : List MemPlace} (h : DataW.Trod enc P w 0 sp held t v d p) (hw : ∀ k ∈ d.weights P t, k ≤ reachBytes) (S : Nat → Nat → Prop) (hS : ∀ b o, b < w.heap.size → S b o) (C : Conc) : ∃ ps, R ps ∧ RepV S w C (.agg ps) v := by
  obtain ⟨fuel, hf⟩ := h
  obtain ⟨cs, rfl⟩ := h1
  obtain ⟨ps, p1, p2, p3⟩ := ho.2 fuel _ _ hf hw
  have hk : ∀ (j : Nat) q x, ps[j]? = some q → cs.toList[j]? = some x → RepP (fun b _ => b < w.heap.size) w q x := fun j q x hj hx => p3.2 j q x hj hx
  refine ⟨ps, p2, ?_⟩
  have := RepV.agg (S := S) (w := w) (C := C) ps cs.toList p3.1 (fun j x hx => ?_) fun j q x hj hx => .pure ((hk j q x hj hx).mono (fun b o h => hS b o h) fun _ _ _ => rfl)
  · simpa using this
  · have hlt : j < ps.length := by rw [← p3.1]; exact (List.getElem?_eq_some_iff.1 hx).1
    exact (hk j _ x (List.getElem?_eq_getElem hlt) hx).one
end

/-- the world in which a law is called -/
def lawCx (w : World) : Cx := ⟨w, fun b _ => b < w.heap.size, ⟨0, fun _ => 0, fun _ => Go.undef, fun _ => 0⟩, []⟩
theorem lawHR (w : World) : HR (lawCx w) (lawCx w).C0 [] w :=
  ⟨rfl, fun id ob h => by simp at h, fun id id' ob ob' b h => by simp at h, fun id ob b h => by simp at h, fun b o h => ⟨h, fun id ob h => by simp at h, rfl⟩, Nat.le_refl _, rfl, rfl, rfl, fun b _ _ => rfl, Nat.le_refl _, fun i hi => rfl, fun i hi => .inl ⟨rfl, rfl⟩⟩
theorem lawStab {w : World} {b o : Nat} (h : b < w.heap.size) : Stab (lawCx w) (lawCx w).C0 [] w b o := ⟨.inl h, h, fun id ob h => by simp at h⟩

/-- an argument, seen from the law's call -/
def Arg (w : World) (p : PV) (v : Value) : Prop := RepV (Stab (lawCx w) (lawCx w).C0 [] w) w (lawCx w).C0 p v
theorem Arg.of {w : World} {p : PV} {v : Value} (h : RepP (fun b _ => b < w.heap.size) w p v) : Arg w p v := .pure (h.mono (fun _ _ h => lawStab h) fun _ _ _ => rfl)

inductive ArgsAre (w : World) : List PV → List Value → Prop
  | nil : ArgsAre w [] []
  | cons {p : PV} {v : Value} {ps : List PV} {vs : List Value} (h : Arg w p v) (t : ArgsAre w ps vs) : ArgsAre w (p :: ps) (v :: vs)
theorem ArgsAre.reps {w : World} {ps : List PV} {vs : List Value} (h : ArgsAre w ps vs) : Reps (Stab (lawCx w) (lawCx w).C0 [] w) w (lawCx w).C0 ps vs := by
  induction h with
  | nil => exact ⟨rfl, fun j p v hj => by simp at hj⟩
  | cons h t ih =>
    refine ⟨by simp [ih.1], fun j p v hj hv => ?_⟩
    cases j with
    | zero => simp at hj hv; subst hj; subst hv; exact h
    | succ j => exact ih.2 j p v (by simpa using hj) (by simpa using hv)

theorem law_calls {P : Program} {f : Nat} {args : List PV} {vs : Array Value} {w : World} (h : Meets P f args [] (.bool true) []) (hp : ArgsAre w args vs.toList) : Calls P f vs w fun e w' => e = .returned (.bool true) ∧ Below w.heap.size w w' := by
  refine (h (lawCx w) vs rfl (lawHR w) hp.reps).mono fun e w' ⟨v, C', h1, h2, h3⟩ => ?_
  have hv := h3.bool_inv
  subst hv
  exact ⟨h1, ⟨h2.os, h2.tape, h2.output, h2.size, fun b hb => h2.frame b hb fun i ob0 hi => by simp [lawCx] at hi⟩⟩

end Go.Proofs.Ytkgobnnkcnnfhaa
/- Arguments of laws, opened: ids, entries, lists of them. -/
namespace Go.Proofs.Ytkgobnnkcnnfhaa
open Go.RowKit Go.ChangeShapes Go.WideShapes Go.ChangeAt
section
variable {H : Type} {enc : TypeId × Value → H} {w : World} {sp : Nat → Bool} {held : Bool}

theorem rows_map {α : Type} {f : α → List PV} {Q : α → Prop} {n : Nat} : ∀ {rows : List (List PV)}, (∀ row ∈ rows, row.length = n ∧ ∃ x, Q x ∧ row = f x) → ∃ l : List α, (∀ x ∈ l, Q x) ∧ rows = l.map f
  | [], _ => ⟨[], by simp, rfl⟩
  | row :: rows, h => by
    obtain ⟨-, x, h1, rfl⟩ := h row (by simp)
    obtain ⟨l, h2, rfl⟩ := rows_map (rows := rows) fun row hr => h row (by simp [hr])
    exact ⟨x :: l, by simpa using ⟨h1, h2⟩, rfl⟩

theorem opInt : Opens enc Try.prog w sp held 3 1 fun ps => ∃ n, I64 n ∧ ps = [.int .i64 n] := opens_int undInt' cellsInt
theorem opStr : Opens enc Try.prog w sp held 9 1 fun ps => ∃ s : ByteArray, s.size ≤ reachBytes ∧ ps = [.str s] := opens_str (by kernel_rfl) (by kernel_rfl)
def wfId (x : Id) : Prop := I64 x.r ∧ I64 x.n
theorem opId : Opens enc Try.prog w sp held 35 2 fun ps => ∃ x : Id, wfId x ∧ ps = cId x :=
  (opens_struct [(3, 1, _), (3, 1, _)] undId (by kernel_rfl) cellsId rfl ⟨opInt, opInt, trivial⟩).mono (by
    rintro ps ⟨a, b, rfl, -, ⟨n, hn, rfl⟩, c, d, rfl, -, ⟨m, hm, rfl⟩, rfl⟩
    exact ⟨⟨n, m⟩, ⟨hn, hm⟩, rfl⟩)
theorem opIds : Opens enc Try.prog w sp held 36 1 fun ps => ∃ l : List Id, l.length * 16 ≤ reachBytes ∧ (∀ x ∈ l, wfId x) ∧ ps = [.list (l.map cId)] :=
  (opens_slice (by kernel_rfl) (by kernel_rfl) (by omega) opId).mono (by
    rintro ps ⟨rows, hm, hr, rfl⟩
    obtain ⟨l, h1, rfl⟩ := rows_map hr
    rw [show Try.prog.bytesOf 35 = 16 by kernel_rfl] at hm
    exact ⟨l, by simpa using hm, h1, rfl⟩)
def wfE (e : Entry) : Prop := wfId e.id ∧ I64 e.c ∧ e.t.size ≤ reachBytes ∧ e.ls.length * 16 ≤ reachBytes ∧ ∀ x ∈ e.ls, wfId x
theorem undEntry : Try.prog.underlying 38 = some (.struct (Try.prog.fieldsOf 38)) := by kernel_rfl
theorem opEntry : Opens enc Try.prog w sp held 38 5 fun ps => ∃ e : Entry, wfE e ∧ ps = cE e :=
  (opens_struct [(35, 2, _), (3, 1, _), (9, 1, _), (36, 1, _)] undEntry (by kernel_rfl) (by kernel_rfl) rfl ⟨opId, opInt, opStr, opIds, trivial⟩).mono (by
    rintro ps ⟨a, b, rfl, -, ⟨x, hx, rfl⟩, c, d, rfl, -, ⟨n, hn, rfl⟩, f, g, rfl, -, ⟨s, hs, rfl⟩, k, q, rfl, -, ⟨l, hl, hq, rfl⟩, rfl⟩
    exact ⟨⟨x, n, s, l⟩, ⟨hx, hn, hs, hl, hq⟩, rfl⟩)

end
end Go.Proofs.Ytkgobnnkcnnfhaa
/- Arguments of laws, opened: lists of entries, of ids. -/
namespace Go.Proofs.Ytkgobnnkcnnfhaa
open Go.RowKit Go.ChangeShapes Go.WideShapes Go.ChangeAt
section
variable {H : Type} {enc : TypeId × Value → H} {w : World} {sp : Nat → Bool} {held : Bool}
theorem opEntries : Opens enc Try.prog w sp held 31 1 fun ps => ∃ l : List Entry, l.length ≤ reachBytes ∧ (∀ e ∈ l, wfE e) ∧ ps = [.list (l.map cE)] :=
  (opens_slice (by kernel_rfl) (by kernel_rfl) (by omega) opEntry).mono (by
    rintro ps ⟨rows, hm, hr, rfl⟩
    obtain ⟨l, h1, rfl⟩ := rows_map hr
    have hb : 1 ≤ Try.prog.bytesOf 38 := by decide +kernel
    refine ⟨l, ?_, h1, rfl⟩
    have h2 : (l.map cE).length * 1 ≤ (l.map cE).length * Try.prog.bytesOf 38 := Nat.mul_le_mul_left _ hb
    rw [List.length_map] at h2 hm
    omega)
end
end Go.Proofs.Ytkgobnnkcnnfhaa
/- Arguments of laws, opened: sites. -/
namespace Go.Proofs.Ytkgobnnkcnnfhaa
open Go.RowKit Go.ChangeShapes Go.WideShapes Go.ChangeAt
section
variable {H : Type} {enc : TypeId × Value → H} {w : World} {sp : Nat → Bool} {held : Bool}
theorem undSite : Try.prog.underlying 33 = some (.struct (Try.prog.fieldsOf 33)) := by kernel_rfl
theorem opSite : Opens enc Try.prog w sp held 33 3 fun ps => ∃ (r : Int) (lg ws : List Entry), (I64 r ∧ lg.length ≤ reachBytes ∧ ws.length ≤ reachBytes ∧ (∀ e ∈ lg, wfE e) ∧ ∀ e ∈ ws, wfE e) ∧ ps = cSi r lg ws :=
  (opens_struct [(3, 1, _), (31, 1, _), (31, 1, _)] undSite (by kernel_rfl) (by kernel_rfl) rfl ⟨opInt, opEntries, opEntries, trivial⟩).mono (by
    rintro ps ⟨a, b, rfl, -, ⟨x, hx, rfl⟩, c, d, rfl, -, ⟨y, hy, hy2, rfl⟩, k, q, rfl, -, ⟨l, hl, hl2, rfl⟩, rfl⟩
    exact ⟨x, y, l, ⟨hx, hy, hl, hy2, hl2⟩, rfl⟩)
end
end Go.Proofs.Ytkgobnnkcnnfhaa
/- Arguments of laws, opened: worlds, acts. -/
namespace Go.Proofs.Ytkgobnnkcnnfhaa
open Go.RowKit Go.ChangeShapes Go.WideShapes Go.ChangeAt
section
variable {H : Type} {enc : TypeId × Value → H} {w : World} {sp : Nat → Bool} {held : Bool}
def goodSi (s : Si) : Prop := s.2.1.length ≤ reachBytes ∧ s.2.2.length ≤ reachBytes
theorem opSites : Opens enc Try.prog w sp held 22 1 fun ps => ∃ ss : List Si, ss.length ≤ reachBytes ∧ (∀ s ∈ ss, goodSi s) ∧ ps = [.list (ss.map cSi3)] :=
  (opens_slice (by kernel_rfl) (by kernel_rfl) (by omega) opSite).mono (by
    rintro ps ⟨rows, hm, hr, rfl⟩
    obtain ⟨l, h1, rfl⟩ := rows_map (f := cSi3) (Q := goodSi) (n := 3) (fun row h => by
      obtain ⟨a, r, lg, ws, ⟨-, b, c, -, -⟩, d⟩ := hr row h
      exact ⟨a, (r, lg, ws), ⟨b, c⟩, d⟩)
    have hb : 1 ≤ Try.prog.bytesOf 33 := by decide +kernel
    refine ⟨l, ?_, h1, rfl⟩
    have h2 : (l.map cSi3).length * 1 ≤ (l.map cSi3).length * Try.prog.bytesOf 33 := Nat.mul_le_mul_left _ hb
    rw [List.length_map] at h2 hm
    omega)
theorem opWays : Opens enc Try.prog w sp held 23 1 fun ps => ∃ ys : List (List Entry), ys.length ≤ reachBytes ∧ (∀ l ∈ ys, l.length ≤ reachBytes) ∧ ps = [.list (cYs ys)] :=
  (opens_slice (by kernel_rfl) (by kernel_rfl) (by omega) opEntries).mono (by
    rintro ps ⟨rows, hm, hr, rfl⟩
    obtain ⟨l, h1, rfl⟩ := rows_map (f := fun l : List Entry => [PV.list (l.map cE)]) (Q := fun l => l.length ≤ reachBytes) (n := 1) (fun row h => by
      obtain ⟨a, l, b, -, d⟩ := hr row h
      exact ⟨a, l, b, d⟩)
    have hb : 1 ≤ Try.prog.bytesOf 31 := by decide +kernel
    refine ⟨l, ?_, h1, rfl⟩
    have h2 : (l.map fun l : List Entry => [PV.list (l.map cE)]).length * 1 ≤ (l.map fun l : List Entry => [PV.list (l.map cE)]).length * Try.prog.bytesOf 31 := Nat.mul_le_mul_left _ hb
    rw [List.length_map] at h2 hm
    omega)
theorem undWorld : Try.prog.underlying 25 = some (.struct (Try.prog.fieldsOf 25)) := by kernel_rfl
theorem opWorld : Opens enc Try.prog w sp held 25 2 fun ps => ∃ (ss : List Si) (ys : List (List Entry)), (ss.length ≤ reachBytes ∧ ys.length ≤ reachBytes ∧ (∀ s ∈ ss, goodSi s) ∧ ∀ l ∈ ys, l.length ≤ reachBytes) ∧ ps = cWd ss ys :=
  (opens_struct [(22, 1, _), (23, 1, _)] undWorld (by kernel_rfl) (by kernel_rfl) rfl ⟨opSites, opWays, trivial⟩).mono (by
    rintro ps ⟨a, b, rfl, -, ⟨ss, h1, h2, rfl⟩, c, d, rfl, -, ⟨ys, h3, h4, rfl⟩, rfl⟩
    exact ⟨ss, ys, ⟨h1, h3, h2, h4⟩, rfl⟩)
set_option maxRecDepth 100000 in
theorem argWorld {b0 : Nat} {v : Value} {d : DataW H} {p : List MemPlace} (hv : Value.okWide Try.prog w .any b0 25 v) (h : DataW.Trod enc Try.prog w 0 sp held 25 v d p) (hw : ∀ k ∈ d.weights Try.prog 25, k ≤ reachBytes) :
    ∃ (ss : List Si) (ys : List (List Entry)), (ss.length ≤ 1000000000000000 ∧ ys.length ≤ 1000000000000000 ∧ okSs ss ∧ okYs ys) ∧ Arg w (.agg (cWd ss ys)) v := by
  obtain ⟨cs, rfl, -⟩ := okWide_struct undWorld hv
  obtain ⟨ps, ⟨ss, ys, ⟨a, b, c, d⟩, rfl⟩, h4⟩ := open_agg opWorld ⟨_, rfl⟩ h hw (Stab (lawCx w) (lawCx w).C0 [] w) (fun _ _ h => lawStab h) _
  unfold goodSi at c
  simp only [reachBytes] at a b c d
  exact ⟨ss, ys, ⟨by omega, by omega, fun s hs => by have := c s hs; omega, fun l hl => by have := d l hl; omega⟩, h4⟩
theorem undAct : Try.prog.underlying 44 = some (.struct (Try.prog.fieldsOf 44)) := by kernel_rfl
theorem opAct : Opens enc Try.prog w sp held 44 5 fun ps => ∃ (k i n c : Int) (t : ByteArray), True ∧ ps = [.int .i64 k, .int .i64 i, .int .i64 n, .int .i64 c, .str t] :=
  (opens_struct [(3, 1, _), (3, 1, _), (3, 1, _), (3, 1, _), (9, 1, _)] undAct (by kernel_rfl) (by kernel_rfl) rfl ⟨opInt, opInt, opInt, opInt, opStr, trivial⟩).mono (by
    rintro ps ⟨a, b, rfl, -, ⟨x, hx, rfl⟩, c, d, rfl, -, ⟨y, hy, rfl⟩, k, q, rfl, -, ⟨l, hl, rfl⟩, k2, q2, rfl, -, ⟨l2, hl2, rfl⟩, k3, q3, rfl, -, ⟨t, ht, rfl⟩, rfl⟩
    exact ⟨x, y, l, l2, t, trivial, rfl⟩)
set_option maxRecDepth 100000 in
theorem argAct {b0 : Nat} {v : Value} {d : DataW H} {p : List MemPlace} (hv : Value.okWide Try.prog w .any b0 44 v) (h : DataW.Trod enc Try.prog w 0 sp held 44 v d p) (hw : ∀ k ∈ d.weights Try.prog 44, k ≤ reachBytes) :
    ∃ (k i n c : Int) (t : ByteArray), Arg w (.agg [.int .i64 k, .int .i64 i, .int .i64 n, .int .i64 c, .str t]) v := by
  obtain ⟨cs, rfl, -⟩ := okWide_struct undAct hv
  obtain ⟨ps, ⟨k, i, n, c, t, -, rfl⟩, h4⟩ := open_agg opAct ⟨_, rfl⟩ h hw (Stab (lawCx w) (lawCx w).C0 [] w) (fun _ _ h => lawStab h) _
  exact ⟨k, i, n, c, t, h4⟩
end
end Go.Proofs.Ytkgobnnkcnnfhaa
