/- Joined texts of this claim: V7 V8 V9 V10 V11 L26 V12 V13. -/
import Derived.Test.YtkgobnnkcnnfhaaGreatKE
set_option linter.unusedSimpArgs false
set_option linter.unusedVariables false
set_option linter.unusedSectionVars false
/- Worlds: what is taken and sent, worlds of one's own: contracts. -/
namespace Go.Proofs.YtkgobnnkcnnfhaaGreat
set_option linter.unusedSimpArgs false
set_option linter.unusedVariables false
open Go.RowKit
set_option maxHeartbeats 2000000 in
theorem take_meets (vs vy va vb : Nat) (w : Wo) (i : Int) (q : Nat) (hi : i = 0 ∨ i = 1) (hq : q < (w.way i).length) (hl : (w.way i).length ≤ 30) :
    ∃ va' vb', Meets Tryz.prog 57 [.ptr 0 0, .int .i64 i, .int .i64 q] (hWo vs vy va vb w) (.agg (cE (nth (w.way i) q))) (hWo vs vy va' vb' (w.setY i ((w.way i).eraseIdx q))) := by
  rcases hi with rfl | rfl
  · have hq : q < w.a.length := hq
    have hl : w.a.length ≤ 30 := hl
    refine ⟨va + 1, vb, ?_⟩
    refine Meets.of_walk Tryz.func57 Tryz.ntmps57 low57 res57 (by simp) fun x hx => ?_
    have hgq : w.a[q]? = some (nth w.a q) := nth_get? _ _ hq
    have wq := i64_up (k := q) (by omega)
    simp only [go_sem, Nat.reduceLT, Nat.reduceAdd, Nat.reduceEqDiff, Nat.reduceLeDiff, Nat.reduceSub, Nat.reduceMul, Int.reduceEq, reduceIte, L57, R57, hWo, Int.ofNat_zero, Int.natCast_one, Int.cast_ofNat_Int, Int.reduceLT, Int.reduceLE, Int.reduceToNat, Nat.reduceLT, Int.toNat_zero, Int.natCast_zero, Int.le_refl, Int.lt_irrefl, Int.reduceAdd, frz, false_or, or_true, hq, hgq, cE]
    refine ops_call1 3 (delE_meets (w.a.map cE) va 53 q (by simpa using hq)) rfl rfl rfl rfl (by simp [go_sem, Nat.reduceLT, Nat.reduceAdd, Nat.reduceEqDiff, Nat.reduceLeDiff, Nat.reduceSub, Nat.reduceMul, Int.reduceEq, reduceIte]) (by simp [go_sem, Nat.reduceLT, Nat.reduceAdd, Nat.reduceEqDiff, Nat.reduceLeDiff, Nat.reduceSub, Nat.reduceMul, Int.reduceEq, reduceIte, pos, wq]) rfl ?_
    rw [eraseIdx_mapE]
    simp only [go_sem, Nat.reduceLT, Nat.reduceAdd, Nat.reduceEqDiff, Nat.reduceLeDiff, Nat.reduceSub, Nat.reduceMul, Int.reduceEq, reduceIte, Int.ofNat_zero, Int.natCast_one, Int.cast_ofNat_Int, Int.reduceLT, Int.reduceLE, Int.reduceToNat, Nat.reduceLT, Int.toNat_zero, Int.natCast_zero, Int.le_refl, Int.lt_irrefl, Int.reduceAdd, frz, false_or, or_true]
    repeat refine ⟨rfl, ?_⟩
    try simp only [go_sem, Nat.reduceLT, Nat.reduceAdd, Nat.reduceEqDiff, Nat.reduceLeDiff, Nat.reduceSub, Nat.reduceMul, Int.reduceEq, reduceIte, Int.ofNat_zero, Int.natCast_one, Int.cast_ofNat_Int, Int.reduceLT, Int.reduceLE, Int.reduceToNat, Nat.reduceLT, Int.toNat_zero, Int.natCast_zero, Int.le_refl, Int.lt_irrefl, Int.reduceAdd, frz, false_or, or_true]
    refine end_keep [] (by simp) (by simp) (by simp [hx, hWo]) ?_ ?_
    · simp [go_sem, Nat.reduceLT, Nat.reduceAdd, Nat.reduceEqDiff, Nat.reduceLeDiff, Nat.reduceSub, Nat.reduceMul, Int.reduceEq, reduceIte, L57, R57, hx, pos, hWo, cE, Wo.way]
    · simp [subHeap, renObj, renCell, renLeaf, hx, pos, go_sem, Nat.reduceLT, Nat.reduceAdd, Nat.reduceEqDiff, Nat.reduceLeDiff, Nat.reduceSub, Nat.reduceMul, Int.reduceEq, reduceIte, hWo, List.range_succ, Wo.ss, cSi3, cSi, Wo.setY, Wo.way]
  · have hq : q < w.b.length := hq
    have hl : w.b.length ≤ 30 := hl
    refine ⟨va, vb + 1, ?_⟩
    refine Meets.of_walk Tryz.func57 Tryz.ntmps57 low57 res57 (by simp) fun x hx => ?_
    have hgq : w.b[q]? = some (nth w.b q) := nth_get? _ _ hq
    have wq := i64_up (k := q) (by omega)
    simp only [go_sem, Nat.reduceLT, Nat.reduceAdd, Nat.reduceEqDiff, Nat.reduceLeDiff, Nat.reduceSub, Nat.reduceMul, Int.reduceEq, reduceIte, L57, R57, hWo, Int.ofNat_zero, Int.natCast_one, Int.cast_ofNat_Int, Int.reduceLT, Int.reduceLE, Int.reduceToNat, Nat.reduceLT, Int.toNat_zero, Int.natCast_zero, Int.le_refl, Int.lt_irrefl, Int.reduceAdd, frz, false_or, or_true, hq, hgq, cE]
    refine ops_call1 4 (delE_meets (w.b.map cE) vb 53 q (by simpa using hq)) rfl rfl rfl rfl (by simp [go_sem, Nat.reduceLT, Nat.reduceAdd, Nat.reduceEqDiff, Nat.reduceLeDiff, Nat.reduceSub, Nat.reduceMul, Int.reduceEq, reduceIte]) (by simp [go_sem, Nat.reduceLT, Nat.reduceAdd, Nat.reduceEqDiff, Nat.reduceLeDiff, Nat.reduceSub, Nat.reduceMul, Int.reduceEq, reduceIte, pos, wq]) rfl ?_
    rw [eraseIdx_mapE]
    simp only [go_sem, Nat.reduceLT, Nat.reduceAdd, Nat.reduceEqDiff, Nat.reduceLeDiff, Nat.reduceSub, Nat.reduceMul, Int.reduceEq, reduceIte, Int.ofNat_zero, Int.natCast_one, Int.cast_ofNat_Int, Int.reduceLT, Int.reduceLE, Int.reduceToNat, Nat.reduceLT, Int.toNat_zero, Int.natCast_zero, Int.le_refl, Int.lt_irrefl, Int.reduceAdd, frz, false_or, or_true]
    repeat refine ⟨rfl, ?_⟩
    try simp only [go_sem, Nat.reduceLT, Nat.reduceAdd, Nat.reduceEqDiff, Nat.reduceLeDiff, Nat.reduceSub, Nat.reduceMul, Int.reduceEq, reduceIte, Int.ofNat_zero, Int.natCast_one, Int.cast_ofNat_Int, Int.reduceLT, Int.reduceLE, Int.reduceToNat, Nat.reduceLT, Int.toNat_zero, Int.natCast_zero, Int.le_refl, Int.lt_irrefl, Int.reduceAdd, frz, false_or, or_true]
    refine end_keep [] (by simp) (by simp) (by simp [hx, hWo]) ?_ ?_
    · simp [go_sem, Nat.reduceLT, Nat.reduceAdd, Nat.reduceEqDiff, Nat.reduceLeDiff, Nat.reduceSub, Nat.reduceMul, Int.reduceEq, reduceIte, L57, R57, hx, pos, hWo, cE, Wo.way]
    · simp [subHeap, renObj, renCell, renLeaf, hx, pos, go_sem, Nat.reduceLT, Nat.reduceAdd, Nat.reduceEqDiff, Nat.reduceLeDiff, Nat.reduceSub, Nat.reduceMul, Int.reduceEq, reduceIte, hWo, List.range_succ, Wo.ss, cSi3, cSi, Wo.setY, Wo.way]
set_option maxHeartbeats 2000000 in
theorem send_meets (vs vy va vb : Nat) (w : Wo) (i : Int) (e : Entry) (hi : i = 0 ∨ i = 1) (hl : (w.way i).length ≤ 30) (he : e.ls.length ≤ 1000000) :
    ∃ va' vb', Meets Tryz.prog 56 [.ptr 0 0, .int .i64 i, .agg (cE e)] (hWo vs vy va vb w) (.bool (!decide ((w.way i).length = 30))) (hWo vs vy va' vb' (sendW w i e)) := by
  rcases hi with rfl | rfl
  · have hl : w.a.length ≤ 30 := hl
    by_cases h30 : (w.a.length : Int) = 30
    · refine ⟨va, vb, ?_⟩
      have hs : sendW w 0 e = w := by rw [sendW, if_pos (show (w.way 0).length = 30 by show w.a.length = 30; omega)]
      have hd : decide ((w.way 0).length = 30) = true := by show decide (w.a.length = 30) = true; simp; omega
      rw [hs, hd]
      refine Meets.of_walk Tryz.func56 Tryz.ntmps56 low56 res56 (by simp) fun x hx => ?_
      simp only [go_sem, Nat.reduceLT, Nat.reduceAdd, Nat.reduceEqDiff, Nat.reduceLeDiff, Nat.reduceSub, Nat.reduceMul, Int.reduceEq, reduceIte, L56, R56, hWo, Int.ofNat_zero, Int.natCast_one, Int.cast_ofNat_Int, Int.reduceLT, Int.reduceLE, Int.reduceToNat, Nat.reduceLT, Int.toNat_zero, Int.natCast_zero, Int.le_refl, Int.lt_irrefl, Int.reduceAdd, frz, false_or, or_true, cE, h30, List.length_map]
      refine ret_keep [] (by simp) (by simp) (by simp [hx, hWo]) ?_ ?_
      · simp [go_sem, Nat.reduceLT, Nat.reduceAdd, Nat.reduceEqDiff, Nat.reduceLeDiff, Nat.reduceSub, Nat.reduceMul, Int.reduceEq, reduceIte, L56, R56, hx, pos, hWo]
      · simp [subHeap, renObj, renCell, renLeaf, hx, pos, go_sem, Nat.reduceLT, Nat.reduceAdd, Nat.reduceEqDiff, Nat.reduceLeDiff, Nat.reduceSub, Nat.reduceMul, Int.reduceEq, reduceIte, hWo, List.range_succ, Wo.ss, cSi3, cSi]
    · have hs : sendW w 0 e = { w with a := w.a ++ [e] } := by rw [sendW, if_neg (show ¬ (w.way 0).length = 30 by show ¬ w.a.length = 30; omega)]; rfl
      have hd : decide ((w.way 0).length = 30) = false := by show decide (w.a.length = 30) = false; simp; omega
      refine ⟨va + 1, vb, ?_⟩
      rw [hs, hd]
      refine Meets.of_walk Tryz.func56 Tryz.ntmps56 low56 res56 (by simp) fun x hx => ?_
      simp only [go_sem, Nat.reduceLT, Nat.reduceAdd, Nat.reduceEqDiff, Nat.reduceLeDiff, Nat.reduceSub, Nat.reduceMul, Int.reduceEq, reduceIte, L56, R56, hWo, Int.ofNat_zero, Int.natCast_one, Int.cast_ofNat_Int, Int.reduceLT, Int.reduceLE, Int.reduceToNat, Nat.reduceLT, Int.toNat_zero, Int.natCast_zero, Int.le_refl, Int.lt_irrefl, Int.reduceAdd, frz, false_or, or_true, cE, h30, List.length_map]
      refine ops_call (.pureE (entOwn_meets e he) (by simp [go_sem, Nat.reduceLT, Nat.reduceAdd, Nat.reduceEqDiff, Nat.reduceLeDiff, Nat.reduceSub, Nat.reduceMul, Int.reduceEq, reduceIte, cE])) ?_
      simp only [go_sem, Nat.reduceLT, Nat.reduceAdd, Nat.reduceEqDiff, Nat.reduceLeDiff, Nat.reduceSub, Nat.reduceMul, Int.reduceEq, reduceIte, hWo, Int.ofNat_zero, Int.natCast_one, Int.cast_ofNat_Int, Int.reduceLT, Int.reduceLE, Int.reduceToNat, Nat.reduceLT, Int.toNat_zero, Int.natCast_zero, Int.le_refl, Int.lt_irrefl, Int.reduceAdd, frz, false_or, or_true, cE]
      rw [app_arr rfl rfl (by simp) (by simp; omega)]
      simp only [go_sem, Nat.reduceLT, Nat.reduceAdd, Nat.reduceEqDiff, Nat.reduceLeDiff, Nat.reduceSub, Nat.reduceMul, Int.reduceEq, reduceIte, Int.ofNat_zero, Int.natCast_one, Int.cast_ofNat_Int, Int.reduceLT, Int.reduceLE, Int.reduceToNat, Nat.reduceLT, Int.toNat_zero, Int.natCast_zero, Int.le_refl, Int.lt_irrefl, Int.reduceAdd, frz, false_or, or_true]
      repeat refine ⟨rfl, ?_⟩
      try simp only [go_sem, Nat.reduceLT, Nat.reduceAdd, Nat.reduceEqDiff, Nat.reduceLeDiff, Nat.reduceSub, Nat.reduceMul, Int.reduceEq, reduceIte, Int.ofNat_zero, Int.natCast_one, Int.cast_ofNat_Int, Int.reduceLT, Int.reduceLE, Int.reduceToNat, Nat.reduceLT, Int.toNat_zero, Int.natCast_zero, Int.le_refl, Int.lt_irrefl, Int.reduceAdd, frz, false_or, or_true]
      refine end_keep [] (by simp) (by simp) (by simp [hx, hWo]) ?_ ?_
      · simp [go_sem, Nat.reduceLT, Nat.reduceAdd, Nat.reduceEqDiff, Nat.reduceLeDiff, Nat.reduceSub, Nat.reduceMul, Int.reduceEq, reduceIte, L56, R56, hx, pos, hWo]
      · simp [subHeap, renObj, renCell, renLeaf, hx, pos, go_sem, Nat.reduceLT, Nat.reduceAdd, Nat.reduceEqDiff, Nat.reduceLeDiff, Nat.reduceSub, Nat.reduceMul, Int.reduceEq, reduceIte, hWo, List.range_succ, Wo.ss, cSi3, cSi, cE]
  · have hl : w.b.length ≤ 30 := hl
    by_cases h30 : (w.b.length : Int) = 30
    · refine ⟨va, vb, ?_⟩
      have hs : sendW w 1 e = w := by rw [sendW, if_pos (show (w.way 1).length = 30 by show w.b.length = 30; omega)]
      have hd : decide ((w.way 1).length = 30) = true := by show decide (w.b.length = 30) = true; simp; omega
      rw [hs, hd]
      refine Meets.of_walk Tryz.func56 Tryz.ntmps56 low56 res56 (by simp) fun x hx => ?_
      simp only [go_sem, Nat.reduceLT, Nat.reduceAdd, Nat.reduceEqDiff, Nat.reduceLeDiff, Nat.reduceSub, Nat.reduceMul, Int.reduceEq, reduceIte, L56, R56, hWo, Int.ofNat_zero, Int.natCast_one, Int.cast_ofNat_Int, Int.reduceLT, Int.reduceLE, Int.reduceToNat, Nat.reduceLT, Int.toNat_zero, Int.natCast_zero, Int.le_refl, Int.lt_irrefl, Int.reduceAdd, frz, false_or, or_true, cE, h30, List.length_map]
      refine ret_keep [] (by simp) (by simp) (by simp [hx, hWo]) ?_ ?_
      · simp [go_sem, Nat.reduceLT, Nat.reduceAdd, Nat.reduceEqDiff, Nat.reduceLeDiff, Nat.reduceSub, Nat.reduceMul, Int.reduceEq, reduceIte, L56, R56, hx, pos, hWo]
      · simp [subHeap, renObj, renCell, renLeaf, hx, pos, go_sem, Nat.reduceLT, Nat.reduceAdd, Nat.reduceEqDiff, Nat.reduceLeDiff, Nat.reduceSub, Nat.reduceMul, Int.reduceEq, reduceIte, hWo, List.range_succ, Wo.ss, cSi3, cSi]
    · have hs : sendW w 1 e = { w with b := w.b ++ [e] } := by rw [sendW, if_neg (show ¬ (w.way 1).length = 30 by show ¬ w.b.length = 30; omega)]; rfl
      have hd : decide ((w.way 1).length = 30) = false := by show decide (w.b.length = 30) = false; simp; omega
      refine ⟨va, vb + 1, ?_⟩
      rw [hs, hd]
      refine Meets.of_walk Tryz.func56 Tryz.ntmps56 low56 res56 (by simp) fun x hx => ?_
      simp only [go_sem, Nat.reduceLT, Nat.reduceAdd, Nat.reduceEqDiff, Nat.reduceLeDiff, Nat.reduceSub, Nat.reduceMul, Int.reduceEq, reduceIte, L56, R56, hWo, Int.ofNat_zero, Int.natCast_one, Int.cast_ofNat_Int, Int.reduceLT, Int.reduceLE, Int.reduceToNat, Nat.reduceLT, Int.toNat_zero, Int.natCast_zero, Int.le_refl, Int.lt_irrefl, Int.reduceAdd, frz, false_or, or_true, cE, h30, List.length_map]
      refine ops_call (.pureE (entOwn_meets e he) (by simp [go_sem, Nat.reduceLT, Nat.reduceAdd, Nat.reduceEqDiff, Nat.reduceLeDiff, Nat.reduceSub, Nat.reduceMul, Int.reduceEq, reduceIte, cE])) ?_
      simp only [go_sem, Nat.reduceLT, Nat.reduceAdd, Nat.reduceEqDiff, Nat.reduceLeDiff, Nat.reduceSub, Nat.reduceMul, Int.reduceEq, reduceIte, hWo, Int.ofNat_zero, Int.natCast_one, Int.cast_ofNat_Int, Int.reduceLT, Int.reduceLE, Int.reduceToNat, Nat.reduceLT, Int.toNat_zero, Int.natCast_zero, Int.le_refl, Int.lt_irrefl, Int.reduceAdd, frz, false_or, or_true, cE]
      rw [app_arr rfl rfl (by simp) (by simp; omega)]
      simp only [go_sem, Nat.reduceLT, Nat.reduceAdd, Nat.reduceEqDiff, Nat.reduceLeDiff, Nat.reduceSub, Nat.reduceMul, Int.reduceEq, reduceIte, Int.ofNat_zero, Int.natCast_one, Int.cast_ofNat_Int, Int.reduceLT, Int.reduceLE, Int.reduceToNat, Nat.reduceLT, Int.toNat_zero, Int.natCast_zero, Int.le_refl, Int.lt_irrefl, Int.reduceAdd, frz, false_or, or_true]
      repeat refine ⟨rfl, ?_⟩
      try simp only [go_sem, Nat.reduceLT, Nat.reduceAdd, Nat.reduceEqDiff, Nat.reduceLeDiff, Nat.reduceSub, Nat.reduceMul, Int.reduceEq, reduceIte, Int.ofNat_zero, Int.natCast_one, Int.cast_ofNat_Int, Int.reduceLT, Int.reduceLE, Int.reduceToNat, Nat.reduceLT, Int.toNat_zero, Int.natCast_zero, Int.le_refl, Int.lt_irrefl, Int.reduceAdd, frz, false_or, or_true]
      refine end_keep [] (by simp) (by simp) (by simp [hx, hWo]) ?_ ?_
      · simp [go_sem, Nat.reduceLT, Nat.reduceAdd, Nat.reduceEqDiff, Nat.reduceLeDiff, Nat.reduceSub, Nat.reduceMul, Int.reduceEq, reduceIte, L56, R56, hx, pos, hWo]
      · simp [subHeap, renObj, renCell, renLeaf, hx, pos, go_sem, Nat.reduceLT, Nat.reduceAdd, Nat.reduceEqDiff, Nat.reduceLeDiff, Nat.reduceSub, Nat.reduceMul, Int.reduceEq, reduceIte, hWo, List.range_succ, Wo.ss, cSi3, cSi, cE]
theorem siOwnP_meets (r : Int) (lg ws : List Entry) (h1 : lg.length ≤ 1000000) (h2 : ws.length ≤ 1000000) (hf1 : fitE lg) (hf2 : fitE ws) : Meets Tryz.prog 36 [.agg (cSi r lg ws)] [] (.agg (cSi r lg ws)) [] := by
 refine Meets.of_walk Tryz.func36 Tryz.ntmps36 low36 res36 (by simp) fun x hx => ?_
 simp only [go_sem, Nat.reduceLT, Nat.reduceAdd, Nat.reduceEqDiff, Nat.reduceLeDiff, Nat.reduceSub, Nat.reduceMul, Int.reduceEq, reduceIte, L36, R36, cSi]
 refine ops_call2 (r := .arr 2 lg.length) (siEntries_meets lg h1 hf1) rfl rfl (by simp [go_sem, Nat.reduceLT, Nat.reduceAdd, Nat.reduceEqDiff, Nat.reduceLeDiff, Nat.reduceSub, Nat.reduceMul, Int.reduceEq, reduceIte]) rfl ?_
 simp only [go_sem, Nat.reduceLT, Nat.reduceAdd, Nat.reduceEqDiff, Nat.reduceLeDiff, Nat.reduceSub, Nat.reduceMul, Int.reduceEq, reduceIte, cSi]
 refine ops_call2 (r := .arr 3 ws.length) (siEntries_meets ws h2 hf2) rfl rfl (by simp [go_sem, Nat.reduceLT, Nat.reduceAdd, Nat.reduceEqDiff, Nat.reduceLeDiff, Nat.reduceSub, Nat.reduceMul, Int.reduceEq, reduceIte]) rfl ?_
 simp only [go_sem, Nat.reduceLT, Nat.reduceAdd, Nat.reduceEqDiff, Nat.reduceLeDiff, Nat.reduceSub, Nat.reduceMul, Int.reduceEq, reduceIte, cSi]
 repeat refine ⟨rfl, ?_⟩
 refine ret_weak (weak_shut 2 rfl) ?_
 refine ret_weak (weak_shut 3 rfl) ?_
 refine ret_pure hx ?_
 simp [go_sem, Nat.reduceLT, Nat.reduceAdd, Nat.reduceEqDiff, Nat.reduceLeDiff, Nat.reduceSub, Nat.reduceMul, Int.reduceEq, reduceIte, L36, R36, cSi, frzAt, pos]
def ownH (w : Wo) (vy : Nat) (_ : Nat) (rows : List (List PV)) (rest : List AObj) : List AObj := [.box (cWd w.ss w.ys), .box [.arr 2 2, .arr 3 vy], .arr 2 true false 47 3 (w.ss.map cSi3), .arr vy true true 45 1 rows] ++ rest
set_option maxHeartbeats 4000000 in
theorem woOwn_meets (w : Wo) (h : WoOk w) : Meets Tryz.prog 16 [.agg (cWd w.ss w.ys)] [] (.ptr 0 0) (hWo 2 2 w.a.length w.b.length w) := by
 obtain ⟨-, p2, p3, p4, p5, -, -, -⟩ := si_pre h.s0
 obtain ⟨-, q2, q3, q4, q5, -, -, -⟩ := si_pre h.s1
 have fa : fitE w.a := fun e he => check_fit (h.ca e he)
 have fb : fitE w.b := fun e he => check_fit (h.cb e he)
 have la := h.la
 have lb := h.lb
 have k1 : IntKind.i64.wrap 1 = 1 := by decide
 have k2 : IntKind.i64.wrap 2 = 2 := by decide
 refine Meets.of_walk Tryz.func16 Tryz.ntmps16 low16 res16 (by simp) fun x hx => ?_
 simp only [go_sem, Nat.reduceLT, Nat.reduceAdd, Nat.reduceEqDiff, Nat.reduceLeDiff, Nat.reduceSub, Nat.reduceMul, Int.reduceEq, reduceIte, L16, R16, cWd, Wo.ss, Wo.ys, cYs, cSi3, cSi, Int.ofNat_zero, Int.natCast_one, Int.cast_ofNat_Int, Int.reduceLT, Int.reduceLE, Int.reduceToNat, Nat.reduceLT, Int.toNat_zero, Int.natCast_zero, Int.le_refl, Int.lt_irrefl, Int.reduceAdd, frz, false_or, or_true, List.map_cons, List.map_nil]
 refine W_weak (weak_ownc 1 0 0 47 3 true false rfl rfl (by omega)) ?_
 refine W_weak (weak_ownc 1 1 0 45 1 true true rfl rfl (by omega)) ?_
 refine loop_inv [1, 3, 14, 15, 16] 4 (fun m st => ∃ k : Nat, k + m = 2 ∧
  st = ⟨mkE .top [(1, .ptr 0 0), (3, .ptr 1 0), (14, .list (w.ss.map cSi3)), (15, .int .i64 2), (16, .int .i64 k)], [.box (cWd w.ss w.ys), .box [.arr 2 k, .arr 3 0], .arr k true false 47 3 ((w.ss.take k).map cSi3), .arr 0 true true 45 1 []]⟩) 2 (by simp [hx]) (by simp) ?_ ?_
 ·
  refine ⟨0, by omega, ?_⟩
  simp [trim_mk, go_sem, Nat.reduceLT, Nat.reduceAdd, Nat.reduceEqDiff, Nat.reduceLeDiff, Nat.reduceSub, Nat.reduceMul, Int.reduceEq, reduceIte, subHeap, renObj, renCell, renLeaf, pos, List.range_succ, Wo.ss, Wo.ys, cWd, cYs, cSi3, cSi]
 ·
  rintro m st ⟨k, hk, rfl⟩
  by_cases hk2 : k < 2
  ·
   obtain rfl | rfl : k = 0 ∨ k = 1 := by omega
   ·
    skip
    simp only [go_sem, Nat.reduceLT, Nat.reduceAdd, Nat.reduceEqDiff, Nat.reduceLeDiff, Nat.reduceSub, Nat.reduceMul, Int.reduceEq, reduceIte, cWd, Wo.ss, Wo.ys, cYs, cSi3, cSi, Int.ofNat_zero, Int.natCast_one, Int.cast_ofNat_Int, Int.reduceLT, Int.reduceLE, Int.reduceToNat, Nat.reduceLT, Int.toNat_zero, Int.natCast_zero, Int.le_refl, Int.lt_irrefl, Int.reduceAdd, frz, false_or, or_true, List.map_cons, List.map_nil, List.take_succ_cons, List.take_zero]
    refine ops_call (.pureE (siOwnP_meets 0 w.p w.u (by omega) (by omega) p4 p5) (by simp [go_sem, Nat.reduceLT, Nat.reduceAdd, Nat.reduceEqDiff, Nat.reduceLeDiff, Nat.reduceSub, Nat.reduceMul, Int.reduceEq, reduceIte, cSi])) ?_
    simp only [go_sem, Nat.reduceLT, Nat.reduceAdd, Nat.reduceEqDiff, Nat.reduceLeDiff, Nat.reduceSub, Nat.reduceMul, Int.reduceEq, reduceIte, cSi, Int.ofNat_zero, Int.natCast_one, Int.cast_ofNat_Int, Int.reduceLT, Int.reduceLE, Int.reduceToNat, Nat.reduceLT, Int.toNat_zero, Int.natCast_zero, Int.le_refl, Int.lt_irrefl, Int.reduceAdd, frz, false_or, or_true]
    rw [app_arr rfl rfl (by simp) (by simp)]
    simp only [go_sem, Nat.reduceLT, Nat.reduceAdd, Nat.reduceEqDiff, Nat.reduceLeDiff, Nat.reduceSub, Nat.reduceMul, Int.reduceEq, reduceIte, Int.ofNat_zero, Int.natCast_one, Int.cast_ofNat_Int, Int.reduceLT, Int.reduceLE, Int.reduceToNat, Nat.reduceLT, Int.toNat_zero, Int.natCast_zero, Int.le_refl, Int.lt_irrefl, Int.reduceAdd, frz, false_or, or_true]
    repeat refine ⟨rfl, ?_⟩
    try simp only [go_sem, Nat.reduceLT, Nat.reduceAdd, Nat.reduceEqDiff, Nat.reduceLeDiff, Nat.reduceSub, Nat.reduceMul, Int.reduceEq, reduceIte, Int.ofNat_zero, Int.natCast_one, Int.cast_ofNat_Int, Int.reduceLT, Int.reduceLE, Int.reduceToNat, Nat.reduceLT, Int.toNat_zero, Int.natCast_zero, Int.le_refl, Int.lt_irrefl, Int.reduceAdd, frz, false_or, or_true]
    refine ⟨by simp, m - 1, by omega, 0 + 1, by omega, ?_⟩
    simp [trim_mk, go_sem, Nat.reduceLT, Nat.reduceAdd, Nat.reduceEqDiff, Nat.reduceLeDiff, Nat.reduceSub, Nat.reduceMul, Int.reduceEq, reduceIte, subHeap, renObj, renCell, renLeaf, pos, List.range_succ, Wo.ss, Wo.ys, cWd, cYs, cSi3, cSi, k1, k2]
   ·
    skip
    simp only [go_sem, Nat.reduceLT, Nat.reduceAdd, Nat.reduceEqDiff, Nat.reduceLeDiff, Nat.reduceSub, Nat.reduceMul, Int.reduceEq, reduceIte, cWd, Wo.ss, Wo.ys, cYs, cSi3, cSi, Int.ofNat_zero, Int.natCast_one, Int.cast_ofNat_Int, Int.reduceLT, Int.reduceLE, Int.reduceToNat, Nat.reduceLT, Int.toNat_zero, Int.natCast_zero, Int.le_refl, Int.lt_irrefl, Int.reduceAdd, frz, false_or, or_true, List.map_cons, List.map_nil, List.take_succ_cons, List.take_zero]
    refine ops_call (.pureE (siOwnP_meets 1 w.q w.v (by omega) (by omega) q4 q5) (by simp [go_sem, Nat.reduceLT, Nat.reduceAdd, Nat.reduceEqDiff, Nat.reduceLeDiff, Nat.reduceSub, Nat.reduceMul, Int.reduceEq, reduceIte, cSi])) ?_
    simp only [go_sem, Nat.reduceLT, Nat.reduceAdd, Nat.reduceEqDiff, Nat.reduceLeDiff, Nat.reduceSub, Nat.reduceMul, Int.reduceEq, reduceIte, cSi, Int.ofNat_zero, Int.natCast_one, Int.cast_ofNat_Int, Int.reduceLT, Int.reduceLE, Int.reduceToNat, Nat.reduceLT, Int.toNat_zero, Int.natCast_zero, Int.le_refl, Int.lt_irrefl, Int.reduceAdd, frz, false_or, or_true]
    rw [app_arr rfl rfl (by simp) (by simp)]
    simp only [go_sem, Nat.reduceLT, Nat.reduceAdd, Nat.reduceEqDiff, Nat.reduceLeDiff, Nat.reduceSub, Nat.reduceMul, Int.reduceEq, reduceIte, Int.ofNat_zero, Int.natCast_one, Int.cast_ofNat_Int, Int.reduceLT, Int.reduceLE, Int.reduceToNat, Nat.reduceLT, Int.toNat_zero, Int.natCast_zero, Int.le_refl, Int.lt_irrefl, Int.reduceAdd, frz, false_or, or_true]
    repeat refine ⟨rfl, ?_⟩
    try simp only [go_sem, Nat.reduceLT, Nat.reduceAdd, Nat.reduceEqDiff, Nat.reduceLeDiff, Nat.reduceSub, Nat.reduceMul, Int.reduceEq, reduceIte, Int.ofNat_zero, Int.natCast_one, Int.cast_ofNat_Int, Int.reduceLT, Int.reduceLE, Int.reduceToNat, Nat.reduceLT, Int.toNat_zero, Int.natCast_zero, Int.le_refl, Int.lt_irrefl, Int.reduceAdd, frz, false_or, or_true]
    refine ⟨by simp, m - 1, by omega, 1 + 1, by omega, ?_⟩
    simp [trim_mk, go_sem, Nat.reduceLT, Nat.reduceAdd, Nat.reduceEqDiff, Nat.reduceLeDiff, Nat.reduceSub, Nat.reduceMul, Int.reduceEq, reduceIte, subHeap, renObj, renCell, renLeaf, pos, List.range_succ, Wo.ss, Wo.ys, cWd, cYs, cSi3, cSi, k1, k2]
  ·
   obtain rfl : k = 2 := by omega
   simp only [go_sem, Nat.reduceLT, Nat.reduceAdd, Nat.reduceEqDiff, Nat.reduceLeDiff, Nat.reduceSub, Nat.reduceMul, Int.reduceEq, reduceIte, cWd, Wo.ss, Wo.ys, cYs, cSi3, cSi, Int.ofNat_zero, Int.natCast_one, Int.cast_ofNat_Int, Int.reduceLT, Int.reduceLE, Int.reduceToNat, Nat.reduceLT, Int.toNat_zero, Int.natCast_zero, Int.le_refl, Int.lt_irrefl, Int.reduceAdd, frz, false_or, or_true, List.map_cons, List.map_nil, List.take_succ_cons, List.take_zero]
   refine loop_keep [1, 3, 35, 36, 37] (fun m st => (m = 2 ∧ st = ⟨mkE .top [(1, .ptr 0 0), (3, .ptr 1 0), (35, .list [[.list (w.a.map cE)], [.list (w.b.map cE)]]), (36, .int .i64 2), (37, .int .i64 0)], ownH w 0 0 [] []⟩) ∨
    (m = 1 ∧ st = ⟨mkE .top [(1, .ptr 0 0), (3, .ptr 1 0), (35, .list [[.list (w.a.map cE)], [.list (w.b.map cE)]]), (36, .int .i64 2), (37, .int .i64 1)], ownH w 1 0 [[.arr 4 w.a.length]] [.arr w.a.length true false 53 5 (w.a.map cE)]⟩) ∨
    (m = 0 ∧ st = ⟨mkE .top [(1, .ptr 0 0), (3, .ptr 1 0), (35, .list [[.list (w.a.map cE)], [.list (w.b.map cE)]]), (36, .int .i64 2), (37, .int .i64 2)], ownH w 2 0 [[.arr 4 w.a.length], [.arr 5 w.b.length]] [.arr w.a.length true false 53 5 (w.a.map cE), .arr w.b.length true false 53 5 (w.b.map cE)]⟩)) 2 ?_ ?_
   ·
    refine .inl ⟨rfl, ?_⟩
    simp [keep_mk, go_sem, Nat.reduceLT, Nat.reduceAdd, Nat.reduceEqDiff, Nat.reduceLeDiff, Nat.reduceSub, Nat.reduceMul, Int.reduceEq, reduceIte, ownH, cWd, Wo.ss, Wo.ys, cYs, cSi3, cSi]
   ·
    rintro m st (⟨rfl, rfl⟩ | ⟨rfl, rfl⟩ | ⟨rfl, rfl⟩)
    ·
     skip
     simp only [go_sem, Nat.reduceLT, Nat.reduceAdd, Nat.reduceEqDiff, Nat.reduceLeDiff, Nat.reduceSub, Nat.reduceMul, Int.reduceEq, reduceIte, ownH, Int.ofNat_zero, Int.natCast_one, Int.cast_ofNat_Int, Int.reduceLT, Int.reduceLE, Int.reduceToNat, Nat.reduceLT, Int.toNat_zero, Int.natCast_zero, Int.le_refl, Int.lt_irrefl, Int.reduceAdd, frz, false_or, or_true, List.nil_append, List.cons_append]
     refine W_weak (weak_own 8 0 53 5 true false rfl (by omega)) ?_
     rw [put_mk]
     refine loop_inv [1, 3, 8, 35, 36, 37, 41, 42, 43] (4 + 1) (fun m st => ∃ k : Nat, k + m = w.a.length ∧
      st = ⟨mkE .top [(1, .ptr 0 0), (3, .ptr 1 0), (8, .arr 4 k), (35, .list [[.list (w.a.map cE)], [.list (w.b.map cE)]]), (36, .int .i64 2), (37, .int .i64 0), (41, .list (w.a.map cE)), (42, .int .i64 w.a.length), (43, .int .i64 k)], ownH w 0 0 [] ([] ++ [.arr k true false 53 5 ((w.a.take k).map cE)])⟩) w.a.length (by simp [hx]) (by simp) ?_ ?_
     ·
      refine ⟨0, by omega, ?_⟩
      simp [trim_mk, go_sem, Nat.reduceLT, Nat.reduceAdd, Nat.reduceEqDiff, Nat.reduceLeDiff, Nat.reduceSub, Nat.reduceMul, Int.reduceEq, reduceIte, subHeap, renObj, renCell, renLeaf, pos, List.range_succ, ownH, cWd, Wo.ss, Wo.ys, cYs, cSi3, cSi]
     ·
      rintro m st ⟨k, hk, rfl⟩
      by_cases hlt : k < w.a.length
      ·
       have hg : w.a[k]? = some (nth w.a k) := nth_get? _ _ hlt
       have wk := i64_up (k := k) (by omega)
       have htk : w.a.take (k + 1) = w.a.take k ++ [nth w.a k] := takeE_succ hlt
       simp only [go_sem, Nat.reduceLT, Nat.reduceAdd, Nat.reduceEqDiff, Nat.reduceLeDiff, Nat.reduceSub, Nat.reduceMul, Int.reduceEq, reduceIte, ownH, hlt, hg, cE, List.nil_append, List.cons_append]
       refine ops_call (.pureE (entOwn_meets (nth w.a k) (fa _ (nthM hlt)).2) (by simp [go_sem, Nat.reduceLT, Nat.reduceAdd, Nat.reduceEqDiff, Nat.reduceLeDiff, Nat.reduceSub, Nat.reduceMul, Int.reduceEq, reduceIte, cE])) ?_
       simp only [go_sem, Nat.reduceLT, Nat.reduceAdd, Nat.reduceEqDiff, Nat.reduceLeDiff, Nat.reduceSub, Nat.reduceMul, Int.reduceEq, reduceIte, cE]
       rw [app_arr rfl rfl (by simp) (by simp; omega)]
       simp only [go_sem, Nat.reduceLT, Nat.reduceAdd, Nat.reduceEqDiff, Nat.reduceLeDiff, Nat.reduceSub, Nat.reduceMul, Int.reduceEq, reduceIte, wk]
       refine ⟨by simp, m - 1, by omega, k + 1, by omega, ?_⟩
       simp [trim_mk, go_sem, Nat.reduceLT, Nat.reduceAdd, Nat.reduceEqDiff, Nat.reduceLeDiff, Nat.reduceSub, Nat.reduceMul, Int.reduceEq, reduceIte, subHeap, renObj, renCell, renLeaf, pos, List.range_succ, ownH, cWd, Wo.ss, Wo.ys, cYs, cSi3, cSi, htk, cE]
      ·
       obtain rfl : k = w.a.length := by omega
       rw [List.take_length]
       simp only [go_sem, Nat.reduceLT, Nat.reduceAdd, Nat.reduceEqDiff, Nat.reduceLeDiff, Nat.reduceSub, Nat.reduceMul, Int.reduceEq, reduceIte, hlt, ownH, Int.ofNat_zero, Int.natCast_one, Int.cast_ofNat_Int, Int.reduceLT, Int.reduceLE, Int.reduceToNat, Nat.reduceLT, Int.toNat_zero, Int.natCast_zero, Int.le_refl, Int.lt_irrefl, Int.reduceAdd, frz, false_or, or_true, List.nil_append, List.cons_append]
       rw [app_arrI rfl rfl (by simp) (by simp)]
       simp only [go_sem, Nat.reduceLT, Nat.reduceAdd, Nat.reduceEqDiff, Nat.reduceLeDiff, Nat.reduceSub, Nat.reduceMul, Int.reduceEq, reduceIte, Int.ofNat_zero, Int.natCast_one, Int.cast_ofNat_Int, Int.reduceLT, Int.reduceLE, Int.reduceToNat, Nat.reduceLT, Int.toNat_zero, Int.natCast_zero, Int.le_refl, Int.lt_irrefl, Int.reduceAdd, frz, false_or, or_true, k1, k2]
       refine ⟨1, by omega, .inr (.inl ⟨rfl, ?_⟩)⟩
       simp [keep_mk, go_sem, Nat.reduceLT, Nat.reduceAdd, Nat.reduceEqDiff, Nat.reduceLeDiff, Nat.reduceSub, Nat.reduceMul, Int.reduceEq, reduceIte, ownH, cWd, Wo.ss, Wo.ys, cYs, cSi3, cSi, k1, k2]
    ·
     skip
     simp only [go_sem, Nat.reduceLT, Nat.reduceAdd, Nat.reduceEqDiff, Nat.reduceLeDiff, Nat.reduceSub, Nat.reduceMul, Int.reduceEq, reduceIte, ownH, Int.ofNat_zero, Int.natCast_one, Int.cast_ofNat_Int, Int.reduceLT, Int.reduceLE, Int.reduceToNat, Nat.reduceLT, Int.toNat_zero, Int.natCast_zero, Int.le_refl, Int.lt_irrefl, Int.reduceAdd, frz, false_or, or_true, List.nil_append, List.cons_append]
     refine W_weak (weak_own 8 0 53 5 true false rfl (by omega)) ?_
     rw [put_mk]
     refine loop_inv [1, 3, 8, 35, 36, 37, 41, 42, 43] (5 + 1) (fun m st => ∃ k : Nat, k + m = w.b.length ∧
      st = ⟨mkE .top [(1, .ptr 0 0), (3, .ptr 1 0), (8, .arr 5 k), (35, .list [[.list (w.a.map cE)], [.list (w.b.map cE)]]), (36, .int .i64 2), (37, .int .i64 1), (41, .list (w.b.map cE)), (42, .int .i64 w.b.length), (43, .int .i64 k)], ownH w 1 0 [[.arr 4 w.a.length]] ([.arr w.a.length true false 53 5 (w.a.map cE)] ++ [.arr k true false 53 5 ((w.b.take k).map cE)])⟩) w.b.length (by simp [hx]) (by simp) ?_ ?_
     ·
      refine ⟨0, by omega, ?_⟩
      simp [trim_mk, go_sem, Nat.reduceLT, Nat.reduceAdd, Nat.reduceEqDiff, Nat.reduceLeDiff, Nat.reduceSub, Nat.reduceMul, Int.reduceEq, reduceIte, subHeap, renObj, renCell, renLeaf, pos, List.range_succ, ownH, cWd, Wo.ss, Wo.ys, cYs, cSi3, cSi]
     ·
      rintro m st ⟨k, hk, rfl⟩
      by_cases hlt : k < w.b.length
      ·
       have hg : w.b[k]? = some (nth w.b k) := nth_get? _ _ hlt
       have wk := i64_up (k := k) (by omega)
       have htk : w.b.take (k + 1) = w.b.take k ++ [nth w.b k] := takeE_succ hlt
       simp only [go_sem, Nat.reduceLT, Nat.reduceAdd, Nat.reduceEqDiff, Nat.reduceLeDiff, Nat.reduceSub, Nat.reduceMul, Int.reduceEq, reduceIte, ownH, hlt, hg, cE, List.nil_append, List.cons_append]
       refine ops_call (.pureE (entOwn_meets (nth w.b k) (fb _ (nthM hlt)).2) (by simp [go_sem, Nat.reduceLT, Nat.reduceAdd, Nat.reduceEqDiff, Nat.reduceLeDiff, Nat.reduceSub, Nat.reduceMul, Int.reduceEq, reduceIte, cE])) ?_
       simp only [go_sem, Nat.reduceLT, Nat.reduceAdd, Nat.reduceEqDiff, Nat.reduceLeDiff, Nat.reduceSub, Nat.reduceMul, Int.reduceEq, reduceIte, cE]
       rw [app_arr rfl rfl (by simp) (by simp; omega)]
       simp only [go_sem, Nat.reduceLT, Nat.reduceAdd, Nat.reduceEqDiff, Nat.reduceLeDiff, Nat.reduceSub, Nat.reduceMul, Int.reduceEq, reduceIte, wk]
       refine ⟨by simp, m - 1, by omega, k + 1, by omega, ?_⟩
       simp [trim_mk, go_sem, Nat.reduceLT, Nat.reduceAdd, Nat.reduceEqDiff, Nat.reduceLeDiff, Nat.reduceSub, Nat.reduceMul, Int.reduceEq, reduceIte, subHeap, renObj, renCell, renLeaf, pos, List.range_succ, ownH, cWd, Wo.ss, Wo.ys, cYs, cSi3, cSi, htk, cE]
      ·
       obtain rfl : k = w.b.length := by omega
       rw [List.take_length]
       simp only [go_sem, Nat.reduceLT, Nat.reduceAdd, Nat.reduceEqDiff, Nat.reduceLeDiff, Nat.reduceSub, Nat.reduceMul, Int.reduceEq, reduceIte, hlt, ownH, Int.ofNat_zero, Int.natCast_one, Int.cast_ofNat_Int, Int.reduceLT, Int.reduceLE, Int.reduceToNat, Nat.reduceLT, Int.toNat_zero, Int.natCast_zero, Int.le_refl, Int.lt_irrefl, Int.reduceAdd, frz, false_or, or_true, List.nil_append, List.cons_append]
       rw [app_arrI rfl rfl (by simp) (by simp)]
       simp only [go_sem, Nat.reduceLT, Nat.reduceAdd, Nat.reduceEqDiff, Nat.reduceLeDiff, Nat.reduceSub, Nat.reduceMul, Int.reduceEq, reduceIte, Int.ofNat_zero, Int.natCast_one, Int.cast_ofNat_Int, Int.reduceLT, Int.reduceLE, Int.reduceToNat, Nat.reduceLT, Int.toNat_zero, Int.natCast_zero, Int.le_refl, Int.lt_irrefl, Int.reduceAdd, frz, false_or, or_true, k1, k2]
       refine ⟨0, by omega, .inr (.inr ⟨rfl, ?_⟩)⟩
       simp [keep_mk, go_sem, Nat.reduceLT, Nat.reduceAdd, Nat.reduceEqDiff, Nat.reduceLeDiff, Nat.reduceSub, Nat.reduceMul, Int.reduceEq, reduceIte, ownH, cWd, Wo.ss, Wo.ys, cYs, cSi3, cSi, k1, k2]
    ·
     simp only [go_sem, Nat.reduceLT, Nat.reduceAdd, Nat.reduceEqDiff, Nat.reduceLeDiff, Nat.reduceSub, Nat.reduceMul, Int.reduceEq, reduceIte, ownH, Int.ofNat_zero, Int.natCast_one, Int.cast_ofNat_Int, Int.reduceLT, Int.reduceLE, Int.reduceToNat, Nat.reduceLT, Int.toNat_zero, Int.natCast_zero, Int.le_refl, Int.lt_irrefl, Int.reduceAdd, frz, false_or, or_true, List.nil_append, List.cons_append]
     refine ret_keep [1, 2, 3, 4, 5] (by simp) (by simp [hx]) (by simp [hx]) ?_ ?_
     ·
      simp [go_sem, Nat.reduceLT, Nat.reduceAdd, Nat.reduceEqDiff, Nat.reduceLeDiff, Nat.reduceSub, Nat.reduceMul, Int.reduceEq, reduceIte, L16, R16, hx, pos]
     ·
      simp [subHeap, renObj, renCell, renLeaf, hx, pos, go_sem, Nat.reduceLT, Nat.reduceAdd, Nat.reduceEqDiff, Nat.reduceLeDiff, Nat.reduceSub, Nat.reduceMul, Int.reduceEq, reduceIte, hWo, List.range_succ, Wo.ss, cSi3, cSi]
end Go.Proofs.YtkgobnnkcnnfhaaGreat
/- Worlds: an act is done: a contract. -/
namespace Go.Proofs.YtkgobnnkcnnfhaaGreat
set_option linter.unusedSimpArgs false
set_option linter.unusedVariables false
open Go.RowKit
def cAct (k i n c : Int) (t : ByteArray) : List PV := [.int .i64 k, .int .i64 i, .int .i64 n, .int .i64 c, .str t]
theorem weak_eqD {x : Cx} {nt : Nat} {st st1 st2 : St} (h : st = st1) (hw : Weak x nt st1 st2) : Weak x nt st st2 := h ▸ hw
set_option maxRecDepth 10000 in
set_option maxHeartbeats 4000000 in
theorem do1_meets (vs vy va vb : Nat) (w : Wo) (h : WoOk w) (i n c : Int) (t : ByteArray) (hi : i = 0 ∨ i = 1) :
    ∃ va' vb', Meets Tryz.prog 35 [.ptr 0 0, .agg (cAct 1 i n c t)] (hWo vs vy va vb w) (.int .i64 (doErr0 w 1 i n c t)) (hWo vs vy va' vb' (if doErr0 w 1 i n c t = 0 then doW w 1 i n c t else w)) := by
  have hl0 := (h.log (i := 0) (.inl rfl)).len
  have hl1 := (h.log (i := 1) (.inr rfl)).len
  have hl0 : w.p.length ≤ 40 := hl0
  have hl1 : w.q.length ≤ 40 := hl1
  obtain ⟨-, -, u1, -, -, -, -, -⟩ := si_pre h.s0
  obtain ⟨-, -, u2, -, -, -, -, -⟩ := si_pre h.s1
  rcases hi with rfl | rfl
  · have hs := h.s0
    have k10 : IntKind.i64.wrap (1 - 0) = 1 := by decide
    have hap := siAppend_meets 0 w.p w.u c t (by omega) (by omega)
    have hX : apErrX 0 w.p w.u c t = apErr 0 w.p c t := by rw [apErrX, if_neg (by simp [hs])]
    have hd : doErr0 w 1 0 n c t = apErr 0 w.p c t := by rw [doErr0, if_pos rfl]; rfl
    rw [hd]
    by_cases h0 : apErr 0 w.p c t = 0
    · have hS : apSiX 0 w.p w.u c t = (0, settled (w.p ++ [apE 0 w.p c t]) w.u) := by rw [apSiX, if_neg (by simp [hs]), apSi, if_pos h0]
      have hE : apEnX 0 w.p w.u c t = apE 0 w.p c t := by rw [apEnX, if_neg (by simp [hs]), apEn, if_pos h0]
      have hlse : (apE 0 w.p c t).ls.length ≤ 1000000 := (ap_fit (t := t) (c := c) (by omega : (0 : Int) = 0 ∨ (0 : Int) = 1) (by omega : w.p.length ≤ 40)).2
      have hdW : doW w 1 0 n c t = sendW (w.setS 0 (settled (w.p ++ [apE 0 w.p c t]) w.u)) 1 (apE 0 w.p c t) := by rw [doW, if_pos rfl]; rfl
      rw [hX, hS, hE, h0] at hap
      rw [if_pos h0, hdW, h0]
      generalize apE 0 w.p c t = e at *
      generalize settled (w.p ++ [e]) w.u = AU at *
      obtain ⟨A, U⟩ := AU
      obtain ⟨va', vb', hsd⟩ := send_meets vs vy va vb (w.setS 0 (A, U)) 1 e (by omega) (by rw [(log_setS (by omega)).2.2.2.2]; exact h.lb) hlse
      refine ⟨va', vb', ?_⟩
      refine Meets.of_walk Tryz.func35 Tryz.ntmps35 low35 res35 (by simp) fun x hx => ?_
      simp only [go_sem, Nat.reduceLT, Nat.reduceAdd, Nat.reduceEqDiff, Nat.reduceLeDiff, Nat.reduceSub, Nat.reduceMul, Int.reduceEq, reduceIte, L35, R35, hWo, Wo.ss, cSi3, cSi, cE, cAct, Int.ofNat_zero, Int.natCast_one, Int.cast_ofNat_Int, Int.reduceLT, Int.reduceLE, Int.reduceToNat, Nat.reduceLT, Int.toNat_zero, Int.natCast_zero, Int.le_refl, Int.lt_irrefl, Int.reduceAdd, frz, false_or, or_true, List.map_cons, List.map_nil]
      refine ops_call (.pureE hap (by simp [go_sem, Nat.reduceLT, Nat.reduceAdd, Nat.reduceEqDiff, Nat.reduceLeDiff, Nat.reduceSub, Nat.reduceMul, Int.reduceEq, reduceIte, cSi, cAct])) ?_
      simp only [go_sem, Nat.reduceLT, Nat.reduceAdd, Nat.reduceEqDiff, Nat.reduceLeDiff, Nat.reduceSub, Nat.reduceMul, Int.reduceEq, reduceIte, hWo, Wo.ss, cSi3, cSi, cE, Int.ofNat_zero, Int.natCast_one, Int.cast_ofNat_Int, Int.reduceLT, Int.reduceLE, Int.reduceToNat, Nat.reduceLT, Int.toNat_zero, Int.natCast_zero, Int.le_refl, Int.lt_irrefl, Int.reduceAdd, frz, false_or, or_true, List.map_cons, List.map_nil]
      repeat refine ⟨rfl, ?_⟩
      try simp only [go_sem, Nat.reduceLT, Nat.reduceAdd, Nat.reduceEqDiff, Nat.reduceLeDiff, Nat.reduceSub, Nat.reduceMul, Int.reduceEq, reduceIte, hWo, Wo.ss, cSi3, cSi, cE, Int.ofNat_zero, Int.natCast_one, Int.cast_ofNat_Int, Int.reduceLT, Int.reduceLE, Int.reduceToNat, Nat.reduceLT, Int.toNat_zero, Int.natCast_zero, Int.le_refl, Int.lt_irrefl, Int.reduceAdd, frz, false_or, or_true, List.map_cons, List.map_nil]
      repeat refine ⟨rfl, ?_⟩
      try simp only [go_sem, Nat.reduceLT, Nat.reduceAdd, Nat.reduceEqDiff, Nat.reduceLeDiff, Nat.reduceSub, Nat.reduceMul, Int.reduceEq, reduceIte, hWo, Wo.ss, cSi3, cSi, cE, Int.ofNat_zero, Int.natCast_one, Int.cast_ofNat_Int, Int.reduceLT, Int.reduceLE, Int.reduceToNat, Nat.reduceLT, Int.toNat_zero, Int.natCast_zero, Int.le_refl, Int.lt_irrefl, Int.reduceAdd, frz, false_or, or_true, List.map_cons, List.map_nil, k10]
      refine ops_call (.heapE [0, 1, 2, 3, 4] (r' := .bool (!decide (((w.setS 0 (A, U)).way 1).length = 30))) (H' := hWo vs vy va' vb' (sendW (w.setS 0 (A, U)) 1 e) ++ [.box (cAct 1 0 n c t), .arr 1 true true 47 3 [cSi 0 A U], .arr 1 true true 53 5 [cE e]]) hsd (by simp) (by simp) (by simp [go_sem, Nat.reduceLT, Nat.reduceAdd, Nat.reduceEqDiff, Nat.reduceLeDiff, Nat.reduceSub, Nat.reduceMul, Int.reduceEq, reduceIte, pos, cE]) ?_ ?_ ?_) ?_
      · skip
        simp [subHeap, renObj, renCell, renLeaf, pos, hWo, Wo.ss, cSi3, cSi]
        exact ⟨⟨⟨rfl, rfl⟩, rfl, rfl⟩, rfl, rfl⟩
      · simp [renT, ren, renCell, renLeaf]
      · skip
        simp [merge, mergeObj, callId, backF, backId, renObj, renCell, renLeaf, pos, List.range_succ, hWo, Wo.ss, cSi3, cSi, cE, cAct]
      simp only [go_sem, Nat.reduceLT, Nat.reduceAdd, Nat.reduceEqDiff, Nat.reduceLeDiff, Nat.reduceSub, Nat.reduceMul, Int.reduceEq, reduceIte, hWo]
      refine ret_keep [] (by simp) (by simp) (by simp [hx, hWo]) ?_ ?_
      · simp [go_sem, Nat.reduceLT, Nat.reduceAdd, Nat.reduceEqDiff, Nat.reduceLeDiff, Nat.reduceSub, Nat.reduceMul, Int.reduceEq, reduceIte, L35, R35, hx, pos, hWo]
      · simp [subHeap, renObj, renCell, renLeaf, hx, pos, go_sem, Nat.reduceLT, Nat.reduceAdd, Nat.reduceEqDiff, Nat.reduceLeDiff, Nat.reduceSub, Nat.reduceMul, Int.reduceEq, reduceIte, hWo, List.range_succ, Wo.ss, cSi3, cSi]
    · refine ⟨va, vb, ?_⟩
      rw [hX] at hap
      rw [if_neg h0]
      generalize apSiX 0 w.p w.u c t = SS at *
      obtain ⟨s0, A, U⟩ := SS
      generalize apEnX 0 w.p w.u c t = e at *
      refine Meets.of_walk Tryz.func35 Tryz.ntmps35 low35 res35 (by simp) fun x hx => ?_
      simp only [go_sem, Nat.reduceLT, Nat.reduceAdd, Nat.reduceEqDiff, Nat.reduceLeDiff, Nat.reduceSub, Nat.reduceMul, Int.reduceEq, reduceIte, L35, R35, hWo, Wo.ss, cSi3, cSi, cE, cAct, Int.ofNat_zero, Int.natCast_one, Int.cast_ofNat_Int, Int.reduceLT, Int.reduceLE, Int.reduceToNat, Nat.reduceLT, Int.toNat_zero, Int.natCast_zero, Int.le_refl, Int.lt_irrefl, Int.reduceAdd, frz, false_or, or_true, List.map_cons, List.map_nil]
      refine ops_call (.pureE hap (by simp [go_sem, Nat.reduceLT, Nat.reduceAdd, Nat.reduceEqDiff, Nat.reduceLeDiff, Nat.reduceSub, Nat.reduceMul, Int.reduceEq, reduceIte, cSi, cAct])) ?_
      try simp only [go_sem, Nat.reduceLT, Nat.reduceAdd, Nat.reduceEqDiff, Nat.reduceLeDiff, Nat.reduceSub, Nat.reduceMul, Int.reduceEq, reduceIte, hWo, Wo.ss, cSi3, cSi, cE, Int.ofNat_zero, Int.natCast_one, Int.cast_ofNat_Int, Int.reduceLT, Int.reduceLE, Int.reduceToNat, Nat.reduceLT, Int.toNat_zero, Int.natCast_zero, Int.le_refl, Int.lt_irrefl, Int.reduceAdd, frz, false_or, or_true, List.map_cons, List.map_nil, h0]
      repeat refine ⟨rfl, ?_⟩
      try simp only [go_sem, Nat.reduceLT, Nat.reduceAdd, Nat.reduceEqDiff, Nat.reduceLeDiff, Nat.reduceSub, Nat.reduceMul, Int.reduceEq, reduceIte, hWo, Wo.ss, cSi3, cSi, cE, Int.ofNat_zero, Int.natCast_one, Int.cast_ofNat_Int, Int.reduceLT, Int.reduceLE, Int.reduceToNat, Nat.reduceLT, Int.toNat_zero, Int.natCast_zero, Int.le_refl, Int.lt_irrefl, Int.reduceAdd, frz, false_or, or_true, List.map_cons, List.map_nil, h0]
      refine ret_keep [] (by simp) (by simp) (by simp [hx, hWo]) ?_ ?_
      · simp [go_sem, Nat.reduceLT, Nat.reduceAdd, Nat.reduceEqDiff, Nat.reduceLeDiff, Nat.reduceSub, Nat.reduceMul, Int.reduceEq, reduceIte, L35, R35, hx, pos, hWo]
      · simp [subHeap, renObj, renCell, renLeaf, hx, pos, go_sem, Nat.reduceLT, Nat.reduceAdd, Nat.reduceEqDiff, Nat.reduceLeDiff, Nat.reduceSub, Nat.reduceMul, Int.reduceEq, reduceIte, hWo, List.range_succ, Wo.ss, cSi3, cSi]
  · have hs := h.s1
    have k10 : IntKind.i64.wrap (1 - 1) = 0 := by decide
    have hap := siAppend_meets 1 w.q w.v c t (by omega) (by omega)
    have hX : apErrX 1 w.q w.v c t = apErr 1 w.q c t := by rw [apErrX, if_neg (by simp [hs])]
    have hd : doErr0 w 1 1 n c t = apErr 1 w.q c t := by rw [doErr0, if_pos rfl]; rfl
    rw [hd]
    by_cases h0 : apErr 1 w.q c t = 0
    · have hS : apSiX 1 w.q w.v c t = (1, settled (w.q ++ [apE 1 w.q c t]) w.v) := by rw [apSiX, if_neg (by simp [hs]), apSi, if_pos h0]
      have hE : apEnX 1 w.q w.v c t = apE 1 w.q c t := by rw [apEnX, if_neg (by simp [hs]), apEn, if_pos h0]
      have hlse : (apE 1 w.q c t).ls.length ≤ 1000000 := (ap_fit (t := t) (c := c) (by omega : (1 : Int) = 0 ∨ (1 : Int) = 1) (by omega : w.q.length ≤ 40)).2
      have hdW : doW w 1 1 n c t = sendW (w.setS 1 (settled (w.q ++ [apE 1 w.q c t]) w.v)) 0 (apE 1 w.q c t) := by rw [doW, if_pos rfl]; rfl
      rw [hX, hS, hE, h0] at hap
      rw [if_pos h0, hdW, h0]
      generalize apE 1 w.q c t = e at *
      generalize settled (w.q ++ [e]) w.v = AU at *
      obtain ⟨A, U⟩ := AU
      obtain ⟨va', vb', hsd⟩ := send_meets vs vy va vb (w.setS 1 (A, U)) 0 e (by omega) (by rw [(log_setS (by omega)).2.2.2.2]; exact h.la) hlse
      refine ⟨va', vb', ?_⟩
      refine Meets.of_walk Tryz.func35 Tryz.ntmps35 low35 res35 (by simp) fun x hx => ?_
      simp only [go_sem, Nat.reduceLT, Nat.reduceAdd, Nat.reduceEqDiff, Nat.reduceLeDiff, Nat.reduceSub, Nat.reduceMul, Int.reduceEq, reduceIte, L35, R35, hWo, Wo.ss, cSi3, cSi, cE, cAct, Int.ofNat_zero, Int.natCast_one, Int.cast_ofNat_Int, Int.reduceLT, Int.reduceLE, Int.reduceToNat, Nat.reduceLT, Int.toNat_zero, Int.natCast_zero, Int.le_refl, Int.lt_irrefl, Int.reduceAdd, frz, false_or, or_true, List.map_cons, List.map_nil]
      refine ops_call (.pureE hap (by simp [go_sem, Nat.reduceLT, Nat.reduceAdd, Nat.reduceEqDiff, Nat.reduceLeDiff, Nat.reduceSub, Nat.reduceMul, Int.reduceEq, reduceIte, cSi, cAct])) ?_
      simp only [go_sem, Nat.reduceLT, Nat.reduceAdd, Nat.reduceEqDiff, Nat.reduceLeDiff, Nat.reduceSub, Nat.reduceMul, Int.reduceEq, reduceIte, hWo, Wo.ss, cSi3, cSi, cE, Int.ofNat_zero, Int.natCast_one, Int.cast_ofNat_Int, Int.reduceLT, Int.reduceLE, Int.reduceToNat, Nat.reduceLT, Int.toNat_zero, Int.natCast_zero, Int.le_refl, Int.lt_irrefl, Int.reduceAdd, frz, false_or, or_true, List.map_cons, List.map_nil]
      repeat refine ⟨rfl, ?_⟩
      try simp only [go_sem, Nat.reduceLT, Nat.reduceAdd, Nat.reduceEqDiff, Nat.reduceLeDiff, Nat.reduceSub, Nat.reduceMul, Int.reduceEq, reduceIte, hWo, Wo.ss, cSi3, cSi, cE, Int.ofNat_zero, Int.natCast_one, Int.cast_ofNat_Int, Int.reduceLT, Int.reduceLE, Int.reduceToNat, Nat.reduceLT, Int.toNat_zero, Int.natCast_zero, Int.le_refl, Int.lt_irrefl, Int.reduceAdd, frz, false_or, or_true, List.map_cons, List.map_nil]
      repeat refine ⟨rfl, ?_⟩
      try simp only [go_sem, Nat.reduceLT, Nat.reduceAdd, Nat.reduceEqDiff, Nat.reduceLeDiff, Nat.reduceSub, Nat.reduceMul, Int.reduceEq, reduceIte, hWo, Wo.ss, cSi3, cSi, cE, Int.ofNat_zero, Int.natCast_one, Int.cast_ofNat_Int, Int.reduceLT, Int.reduceLE, Int.reduceToNat, Nat.reduceLT, Int.toNat_zero, Int.natCast_zero, Int.le_refl, Int.lt_irrefl, Int.reduceAdd, frz, false_or, or_true, List.map_cons, List.map_nil, k10]
      refine ops_call (.heapE [0, 1, 2, 3, 4] (r' := .bool (!decide (((w.setS 1 (A, U)).way 0).length = 30))) (H' := hWo vs vy va' vb' (sendW (w.setS 1 (A, U)) 0 e) ++ [.box (cAct 1 1 n c t), .arr 1 true true 47 3 [cSi 1 A U], .arr 1 true true 53 5 [cE e]]) hsd (by simp) (by simp) (by simp [go_sem, Nat.reduceLT, Nat.reduceAdd, Nat.reduceEqDiff, Nat.reduceLeDiff, Nat.reduceSub, Nat.reduceMul, Int.reduceEq, reduceIte, pos, cE]) ?_ ?_ ?_) ?_
      · skip
        simp [subHeap, renObj, renCell, renLeaf, pos, hWo, Wo.ss, cSi3, cSi]
        exact ⟨⟨⟨rfl, rfl⟩, rfl, rfl⟩, rfl, rfl⟩
      · simp [renT, ren, renCell, renLeaf]
      · skip
        simp [merge, mergeObj, callId, backF, backId, renObj, renCell, renLeaf, pos, List.range_succ, hWo, Wo.ss, cSi3, cSi, cE, cAct]
      simp only [go_sem, Nat.reduceLT, Nat.reduceAdd, Nat.reduceEqDiff, Nat.reduceLeDiff, Nat.reduceSub, Nat.reduceMul, Int.reduceEq, reduceIte, hWo]
      refine ret_keep [] (by simp) (by simp) (by simp [hx, hWo]) ?_ ?_
      · simp [go_sem, Nat.reduceLT, Nat.reduceAdd, Nat.reduceEqDiff, Nat.reduceLeDiff, Nat.reduceSub, Nat.reduceMul, Int.reduceEq, reduceIte, L35, R35, hx, pos, hWo]
      · simp [subHeap, renObj, renCell, renLeaf, hx, pos, go_sem, Nat.reduceLT, Nat.reduceAdd, Nat.reduceEqDiff, Nat.reduceLeDiff, Nat.reduceSub, Nat.reduceMul, Int.reduceEq, reduceIte, hWo, List.range_succ, Wo.ss, cSi3, cSi]
    · refine ⟨va, vb, ?_⟩
      rw [hX] at hap
      rw [if_neg h0]
      generalize apSiX 1 w.q w.v c t = SS at *
      obtain ⟨s0, A, U⟩ := SS
      generalize apEnX 1 w.q w.v c t = e at *
      refine Meets.of_walk Tryz.func35 Tryz.ntmps35 low35 res35 (by simp) fun x hx => ?_
      simp only [go_sem, Nat.reduceLT, Nat.reduceAdd, Nat.reduceEqDiff, Nat.reduceLeDiff, Nat.reduceSub, Nat.reduceMul, Int.reduceEq, reduceIte, L35, R35, hWo, Wo.ss, cSi3, cSi, cE, cAct, Int.ofNat_zero, Int.natCast_one, Int.cast_ofNat_Int, Int.reduceLT, Int.reduceLE, Int.reduceToNat, Nat.reduceLT, Int.toNat_zero, Int.natCast_zero, Int.le_refl, Int.lt_irrefl, Int.reduceAdd, frz, false_or, or_true, List.map_cons, List.map_nil]
      refine ops_call (.pureE hap (by simp [go_sem, Nat.reduceLT, Nat.reduceAdd, Nat.reduceEqDiff, Nat.reduceLeDiff, Nat.reduceSub, Nat.reduceMul, Int.reduceEq, reduceIte, cSi, cAct])) ?_
      try simp only [go_sem, Nat.reduceLT, Nat.reduceAdd, Nat.reduceEqDiff, Nat.reduceLeDiff, Nat.reduceSub, Nat.reduceMul, Int.reduceEq, reduceIte, hWo, Wo.ss, cSi3, cSi, cE, Int.ofNat_zero, Int.natCast_one, Int.cast_ofNat_Int, Int.reduceLT, Int.reduceLE, Int.reduceToNat, Nat.reduceLT, Int.toNat_zero, Int.natCast_zero, Int.le_refl, Int.lt_irrefl, Int.reduceAdd, frz, false_or, or_true, List.map_cons, List.map_nil, h0]
      repeat refine ⟨rfl, ?_⟩
      try simp only [go_sem, Nat.reduceLT, Nat.reduceAdd, Nat.reduceEqDiff, Nat.reduceLeDiff, Nat.reduceSub, Nat.reduceMul, Int.reduceEq, reduceIte, hWo, Wo.ss, cSi3, cSi, cE, Int.ofNat_zero, Int.natCast_one, Int.cast_ofNat_Int, Int.reduceLT, Int.reduceLE, Int.reduceToNat, Nat.reduceLT, Int.toNat_zero, Int.natCast_zero, Int.le_refl, Int.lt_irrefl, Int.reduceAdd, frz, false_or, or_true, List.map_cons, List.map_nil, h0]
      refine ret_keep [] (by simp) (by simp) (by simp [hx, hWo]) ?_ ?_
      · simp [go_sem, Nat.reduceLT, Nat.reduceAdd, Nat.reduceEqDiff, Nat.reduceLeDiff, Nat.reduceSub, Nat.reduceMul, Int.reduceEq, reduceIte, L35, R35, hx, pos, hWo]
      · simp [subHeap, renObj, renCell, renLeaf, hx, pos, go_sem, Nat.reduceLT, Nat.reduceAdd, Nat.reduceEqDiff, Nat.reduceLeDiff, Nat.reduceSub, Nat.reduceMul, Int.reduceEq, reduceIte, hWo, List.range_succ, Wo.ss, cSi3, cSi]
set_option maxRecDepth 10000 in
set_option maxHeartbeats 4000000 in
theorem do5_meets (vs vy va vb : Nat) (w : Wo) (h : WoOk w) (i n c : Int) (t : ByteArray) (hi : i = 0 ∨ i = 1) :
    Meets Tryz.prog 35 [.ptr 0 0, .agg (cAct 5 i n c t)] (hWo vs vy va vb w) (.int .i64 0) (hWo vs vy va vb (doW w 5 i n c t)) := by
  have hal := woAll_meets vs vy va vb w i hi (h.si hi) (h.log (other_of hi))
  have hdW : doW w 5 i n c t = w.setS i (allW w i).2 := by rw [doW, if_neg (by decide), if_pos rfl]
  rw [hdW]
  refine Meets.of_walk Tryz.func35 Tryz.ntmps35 low35 res35 (by simp) fun x hx => ?_
  simp only [go_sem, Nat.reduceLT, Nat.reduceAdd, Nat.reduceEqDiff, Nat.reduceLeDiff, Nat.reduceSub, Nat.reduceMul, Int.reduceEq, reduceIte, L35, R35, hWo, Wo.ss, cSi3, cSi, cE, cAct, Int.ofNat_zero, Int.natCast_one, Int.cast_ofNat_Int, Int.reduceLT, Int.reduceLE, Int.reduceToNat, Nat.reduceLT, Int.toNat_zero, Int.natCast_zero, Int.le_refl, Int.lt_irrefl, Int.reduceAdd, frz, false_or, or_true, List.map_cons, List.map_nil]
  refine ops_call (.heapE [0, 1, 2, 3, 4] (r' := .int .i64 0) (H' := hWo vs vy va vb (w.setS i (allW w i).2) ++ [.box (cAct 5 i n c t)]) hal (by simp) (by simp) (by simp [go_sem, Nat.reduceLT, Nat.reduceAdd, Nat.reduceEqDiff, Nat.reduceLeDiff, Nat.reduceSub, Nat.reduceMul, Int.reduceEq, reduceIte, pos]) ?_ ?_ ?_) ?_
  · skip
    simp [subHeap, renObj, renCell, renLeaf, pos, hWo, Wo.ss, cSi3, cSi]
  · simp [renT, ren, renCell, renLeaf]
  · skip
    simp [merge, mergeObj, callId, backF, backId, renObj, renCell, renLeaf, pos, List.range_succ, hWo, Wo.ss, cSi3, cSi, cE, cAct]
  simp only [go_sem, Nat.reduceLT, Nat.reduceAdd, Nat.reduceEqDiff, Nat.reduceLeDiff, Nat.reduceSub, Nat.reduceMul, Int.reduceEq, reduceIte, hWo]
  refine ret_keep [] (by simp) (by simp) (by simp [hx, hWo]) ?_ ?_
  · simp [go_sem, Nat.reduceLT, Nat.reduceAdd, Nat.reduceEqDiff, Nat.reduceLeDiff, Nat.reduceSub, Nat.reduceMul, Int.reduceEq, reduceIte, L35, R35, hx, pos, hWo]
  · simp [subHeap, renObj, renCell, renLeaf, hx, pos, go_sem, Nat.reduceLT, Nat.reduceAdd, Nat.reduceEqDiff, Nat.reduceLeDiff, Nat.reduceSub, Nat.reduceMul, Int.reduceEq, reduceIte, hWo, List.range_succ, Wo.ss, cSi3, cSi]
theorem doErr0_n {w : Wo} {k i n c : Int} {t : ByteArray} (h1 : k ≠ 1) (h5 : k ≠ 5) (hn : n < 0 ∨ (w.way i).length ≤ n) : doErr0 w k i n c t = 5 := by rw [doErr0, if_neg h1, if_neg h5, if_pos hn]
set_option maxRecDepth 10000 in
set_option maxHeartbeats 4000000 in
theorem do3_meets (vs vy va vb : Nat) (w : Wo) (h : WoOk w) (i n c : Int) (t : ByteArray) (hi : i = 0 ∨ i = 1) :
    ∃ va' vb', Meets Tryz.prog 35 [.ptr 0 0, .agg (cAct 3 i n c t)] (hWo vs vy va vb w) (.int .i64 (doErr0 w 3 i n c t)) (hWo vs vy va' vb' (if doErr0 w 3 i n c t = 0 then doW w 3 i n c t else w)) := by
  have la := h.la
  have lb := h.lb
  rcases hi with rfl | rfl
  · skip
    by_cases hn0 : n < 0
    · refine ⟨va, vb, ?_⟩
      rw [doErr0_n (by decide) (by decide) (.inl hn0), if_neg (by decide)]
      refine Meets.of_parts Tryz.func35 Tryz.ntmps35 low35 res35 (by simp) fun x hx => ?_
      simp only [LC.flat, L35, R35, List.cons_append, List.nil_append]
      refine WL_join 1 [0, 3] 6 (fun st => st = ⟨mkE .top [(3, .rptr (cAct 3 0 n c t)), (0, .ptr 0 0), (3, .ptr 5 0)], hWo vs vy va vb w ++ [.gone]⟩) (by simp [hx, hWo]) (by simp) ?_ ?_
      · simp only [go_sem, Nat.reduceLT, Nat.reduceAdd, Nat.reduceEqDiff, Nat.reduceLeDiff, Nat.reduceSub, Nat.reduceMul, Int.reduceEq, reduceIte, L35, R35, List.take_succ_cons, List.take_zero, cAct]
        rw [join_normal]
        refine ⟨by simp [hWo], _, ?_, rfl⟩
        have e := weak_rptr (x := x) (nt := 114) (st := ⟨mkE .top [(0, .ptr 0 0), (3, .ptr 5 0)], hWo vs vy va vb w ++ [.box (cAct 3 0 n c t)]⟩) (cells' := cAct 3 0 n c t) (H' := hWo vs vy va vb w ++ [.gone]) 3 5 rfl rfl (by simp [cAct, frz]) (by simp [cAct, PV.isPure]) rfl
        rw [put_mk] at e
        refine weak_eqD ?_ e
        simp [trim_mk, go_sem, Nat.reduceLT, Nat.reduceAdd, Nat.reduceEqDiff, Nat.reduceLeDiff, Nat.reduceSub, Nat.reduceMul, Int.reduceEq, reduceIte, subHeap, renObj, renCell, renLeaf, pos, List.range_succ, hWo, Wo.ss, cSi3, cSi, cAct]
      rintro st rfl
      refine WL_walk ?_
      simp only [go_sem, Nat.reduceLT, Nat.reduceAdd, Nat.reduceEqDiff, Nat.reduceLeDiff, Nat.reduceSub, Nat.reduceMul, Int.reduceEq, reduceIte, L35, R35, List.drop_succ_cons, List.drop_zero, hWo, Wo.ss, cSi3, cSi, cE, cAct, Int.ofNat_zero, Int.natCast_one, Int.cast_ofNat_Int, Int.reduceLT, Int.reduceLE, Int.reduceToNat, Nat.reduceLT, Int.toNat_zero, Int.natCast_zero, Int.le_refl, Int.lt_irrefl, Int.reduceAdd, frz, false_or, or_true, List.map_cons, List.map_nil, List.cons_append, List.nil_append, hn0]
      repeat refine ⟨rfl, ?_⟩
      refine ret_keep [] (by simp) (by simp) (by simp [hx, hWo]) ?_ ?_
      · simp [go_sem, Nat.reduceLT, Nat.reduceAdd, Nat.reduceEqDiff, Nat.reduceLeDiff, Nat.reduceSub, Nat.reduceMul, Int.reduceEq, reduceIte, L35, R35, hx, pos, hWo]
      · simp [subHeap, renObj, renCell, renLeaf, hx, pos, go_sem, Nat.reduceLT, Nat.reduceAdd, Nat.reduceEqDiff, Nat.reduceLeDiff, Nat.reduceSub, Nat.reduceMul, Int.reduceEq, reduceIte, hWo, List.range_succ, Wo.ss, cSi3, cSi]
    by_cases hn1 : (w.a.length : Int) ≤ n
    · refine ⟨va, vb, ?_⟩
      rw [doErr0_n (by decide) (by decide) (.inr (by show (w.a.length : Int) ≤ n; exact hn1)), if_neg (by decide)]
      refine Meets.of_parts Tryz.func35 Tryz.ntmps35 low35 res35 (by simp) fun x hx => ?_
      simp only [LC.flat, L35, R35, List.cons_append, List.nil_append]
      refine WL_join 1 [0, 3] 6 (fun st => st = ⟨mkE .top [(3, .rptr (cAct 3 0 n c t)), (0, .ptr 0 0), (3, .ptr 5 0)], hWo vs vy va vb w ++ [.gone]⟩) (by simp [hx, hWo]) (by simp) ?_ ?_
      · simp only [go_sem, Nat.reduceLT, Nat.reduceAdd, Nat.reduceEqDiff, Nat.reduceLeDiff, Nat.reduceSub, Nat.reduceMul, Int.reduceEq, reduceIte, L35, R35, List.take_succ_cons, List.take_zero, cAct]
        rw [join_normal]
        refine ⟨by simp [hWo], _, ?_, rfl⟩
        have e := weak_rptr (x := x) (nt := 114) (st := ⟨mkE .top [(0, .ptr 0 0), (3, .ptr 5 0)], hWo vs vy va vb w ++ [.box (cAct 3 0 n c t)]⟩) (cells' := cAct 3 0 n c t) (H' := hWo vs vy va vb w ++ [.gone]) 3 5 rfl rfl (by simp [cAct, frz]) (by simp [cAct, PV.isPure]) rfl
        rw [put_mk] at e
        refine weak_eqD ?_ e
        simp [trim_mk, go_sem, Nat.reduceLT, Nat.reduceAdd, Nat.reduceEqDiff, Nat.reduceLeDiff, Nat.reduceSub, Nat.reduceMul, Int.reduceEq, reduceIte, subHeap, renObj, renCell, renLeaf, pos, List.range_succ, hWo, Wo.ss, cSi3, cSi, cAct]
      rintro st rfl
      refine WL_walk ?_
      simp only [go_sem, Nat.reduceLT, Nat.reduceAdd, Nat.reduceEqDiff, Nat.reduceLeDiff, Nat.reduceSub, Nat.reduceMul, Int.reduceEq, reduceIte, L35, R35, List.drop_succ_cons, List.drop_zero, hWo, Wo.ss, cSi3, cSi, cE, cAct, Int.ofNat_zero, Int.natCast_one, Int.cast_ofNat_Int, Int.reduceLT, Int.reduceLE, Int.reduceToNat, Nat.reduceLT, Int.toNat_zero, Int.natCast_zero, Int.le_refl, Int.lt_irrefl, Int.reduceAdd, frz, false_or, or_true, List.map_cons, List.map_nil, List.cons_append, List.nil_append, hn0]
      simp only [go_sem, Nat.reduceLT, Nat.reduceAdd, Nat.reduceEqDiff, Nat.reduceLeDiff, Nat.reduceSub, Nat.reduceMul, Int.reduceEq, reduceIte, hn1, List.length_map]
      repeat refine ⟨rfl, ?_⟩
      refine ret_keep [] (by simp) (by simp) (by simp [hx, hWo]) ?_ ?_
      · simp [go_sem, Nat.reduceLT, Nat.reduceAdd, Nat.reduceEqDiff, Nat.reduceLeDiff, Nat.reduceSub, Nat.reduceMul, Int.reduceEq, reduceIte, L35, R35, hx, pos, hWo]
      · simp [subHeap, renObj, renCell, renLeaf, hx, pos, go_sem, Nat.reduceLT, Nat.reduceAdd, Nat.reduceEqDiff, Nat.reduceLeDiff, Nat.reduceSub, Nat.reduceMul, Int.reduceEq, reduceIte, hWo, List.range_succ, Wo.ss, cSi3, cSi]
    obtain ⟨q, rfl⟩ : ∃ q : Nat, n = q := ⟨n.toNat, by omega⟩
    have hq : q < w.a.length := by omega
    have hnn : ¬ ((q : Int) < 0 ∨ ((w.way 0).length : Int) ≤ (q : Int)) := by show ¬ ((q : Int) < 0 ∨ (w.a.length : Int) ≤ (q : Int)); omega
    obtain ⟨va', vb', htk⟩ := take_meets vs vy va vb w 0 q (by omega) hq (by show w.a.length ≤ 30; omega)
    have hce := h.ca _ (nthM hq)
    have hnN : ¬ w.a.length ≤ q := by omega
    have hd : doErr0 w 3 0 q c t = 0 := by rw [doErr0, if_neg (by decide), if_neg (by decide), if_neg hnn, if_neg (by decide), if_pos rfl]
    have hdW : doW w 3 0 q c t = w.setY 0 ((w.way 0).eraseIdx q) := by rw [doW, if_neg (by decide), if_neg (by decide), if_neg (by decide), if_pos rfl, Int.toNat_natCast]
    refine ⟨va', vb', ?_⟩
    rw [hd, if_pos rfl, hdW]
    refine Meets.of_parts Tryz.func35 Tryz.ntmps35 low35 res35 (by simp) fun x hx => ?_
    simp only [LC.flat, L35, R35, List.cons_append, List.nil_append]
    refine WL_join 1 [0, 3] 6 (fun st => st = ⟨mkE .top [(3, .rptr (cAct 3 0 (q : Int) c t)), (0, .ptr 0 0), (3, .ptr 5 0)], hWo vs vy va vb w ++ [.gone]⟩) (by simp [hx, hWo]) (by simp) ?_ ?_
    · simp only [go_sem, Nat.reduceLT, Nat.reduceAdd, Nat.reduceEqDiff, Nat.reduceLeDiff, Nat.reduceSub, Nat.reduceMul, Int.reduceEq, reduceIte, L35, R35, List.take_succ_cons, List.take_zero, cAct]
      rw [join_normal]
      refine ⟨by simp [hWo], _, ?_, rfl⟩
      have e := weak_rptr (x := x) (nt := 114) (st := ⟨mkE .top [(0, .ptr 0 0), (3, .ptr 5 0)], hWo vs vy va vb w ++ [.box (cAct 3 0 (q : Int) c t)]⟩) (cells' := cAct 3 0 (q : Int) c t) (H' := hWo vs vy va vb w ++ [.gone]) 3 5 rfl rfl (by simp [cAct, frz]) (by simp [cAct, PV.isPure]) rfl
      rw [put_mk] at e
      refine weak_eqD ?_ e
      simp [trim_mk, go_sem, Nat.reduceLT, Nat.reduceAdd, Nat.reduceEqDiff, Nat.reduceLeDiff, Nat.reduceSub, Nat.reduceMul, Int.reduceEq, reduceIte, subHeap, renObj, renCell, renLeaf, pos, List.range_succ, hWo, Wo.ss, cSi3, cSi, cAct]
    rintro st rfl
    refine WL_walk ?_
    simp only [go_sem, Nat.reduceLT, Nat.reduceAdd, Nat.reduceEqDiff, Nat.reduceLeDiff, Nat.reduceSub, Nat.reduceMul, Int.reduceEq, reduceIte, L35, R35, List.drop_succ_cons, List.drop_zero, hWo, Wo.ss, cSi3, cSi, cE, cAct, Int.ofNat_zero, Int.natCast_one, Int.cast_ofNat_Int, Int.reduceLT, Int.reduceLE, Int.reduceToNat, Nat.reduceLT, Int.toNat_zero, Int.natCast_zero, Int.le_refl, Int.lt_irrefl, Int.reduceAdd, frz, false_or, or_true, List.map_cons, List.map_nil, List.cons_append, List.nil_append, hn0]
    simp only [go_sem, Nat.reduceLT, Nat.reduceAdd, Nat.reduceEqDiff, Nat.reduceLeDiff, Nat.reduceSub, Nat.reduceMul, Int.reduceEq, reduceIte, hn0, hnN, List.length_map, Int.ofNat_zero, Int.natCast_one, Int.cast_ofNat_Int, Int.reduceLT, Int.reduceLE, Int.reduceToNat, Nat.reduceLT, Int.toNat_zero, Int.natCast_zero, Int.le_refl, Int.lt_irrefl, Int.reduceAdd, frz, false_or, or_true]
    repeat refine ⟨rfl, ?_⟩
    try simp only [go_sem, Nat.reduceLT, Nat.reduceAdd, Nat.reduceEqDiff, Nat.reduceLeDiff, Nat.reduceSub, Nat.reduceMul, Int.reduceEq, reduceIte, Int.ofNat_zero, Int.natCast_one, Int.cast_ofNat_Int, Int.reduceLT, Int.reduceLE, Int.reduceToNat, Nat.reduceLT, Int.toNat_zero, Int.natCast_zero, Int.le_refl, Int.lt_irrefl, Int.reduceAdd, frz, false_or, or_true]
    refine ops_call (.heapE [0, 1, 2, 3, 4] (r' := .agg (cE (nth (w.way 0) q))) (H' := hWo vs vy va' vb' (w.setY 0 ((w.way 0).eraseIdx q)) ++ [.gone]) htk (by simp) (by simp) (by simp [go_sem, Nat.reduceLT, Nat.reduceAdd, Nat.reduceEqDiff, Nat.reduceLeDiff, Nat.reduceSub, Nat.reduceMul, Int.reduceEq, reduceIte, pos]) ?_ ?_ ?_) ?_
    · skip
      simp [subHeap, renObj, renCell, renLeaf, pos, hWo, Wo.ss, cSi3, cSi]
    · simp [renT, ren, renCell, renLeaf, cE]
    · skip
      simp [merge, mergeObj, callId, backF, backId, renObj, renCell, renLeaf, pos, List.range_succ, hWo, Wo.ss, cSi3, cSi, cE, cAct]
    simp only [go_sem, Nat.reduceLT, Nat.reduceAdd, Nat.reduceEqDiff, Nat.reduceLeDiff, Nat.reduceSub, Nat.reduceMul, Int.reduceEq, reduceIte, hWo]
    refine end_keep [] (by simp) (by simp) (by simp [hx, hWo]) ?_ ?_
    · simp [go_sem, Nat.reduceLT, Nat.reduceAdd, Nat.reduceEqDiff, Nat.reduceLeDiff, Nat.reduceSub, Nat.reduceMul, Int.reduceEq, reduceIte, L35, R35, hx, pos, hWo]
    · simp [subHeap, renObj, renCell, renLeaf, hx, pos, go_sem, Nat.reduceLT, Nat.reduceAdd, Nat.reduceEqDiff, Nat.reduceLeDiff, Nat.reduceSub, Nat.reduceMul, Int.reduceEq, reduceIte, hWo, List.range_succ, Wo.ss, cSi3, cSi]
  · skip
    by_cases hn0 : n < 0
    · refine ⟨va, vb, ?_⟩
      rw [doErr0_n (by decide) (by decide) (.inl hn0), if_neg (by decide)]
      refine Meets.of_parts Tryz.func35 Tryz.ntmps35 low35 res35 (by simp) fun x hx => ?_
      simp only [LC.flat, L35, R35, List.cons_append, List.nil_append]
      refine WL_join 1 [0, 3] 6 (fun st => st = ⟨mkE .top [(3, .rptr (cAct 3 1 n c t)), (0, .ptr 0 0), (3, .ptr 5 0)], hWo vs vy va vb w ++ [.gone]⟩) (by simp [hx, hWo]) (by simp) ?_ ?_
      · simp only [go_sem, Nat.reduceLT, Nat.reduceAdd, Nat.reduceEqDiff, Nat.reduceLeDiff, Nat.reduceSub, Nat.reduceMul, Int.reduceEq, reduceIte, L35, R35, List.take_succ_cons, List.take_zero, cAct]
        rw [join_normal]
        refine ⟨by simp [hWo], _, ?_, rfl⟩
        have e := weak_rptr (x := x) (nt := 114) (st := ⟨mkE .top [(0, .ptr 0 0), (3, .ptr 5 0)], hWo vs vy va vb w ++ [.box (cAct 3 1 n c t)]⟩) (cells' := cAct 3 1 n c t) (H' := hWo vs vy va vb w ++ [.gone]) 3 5 rfl rfl (by simp [cAct, frz]) (by simp [cAct, PV.isPure]) rfl
        rw [put_mk] at e
        refine weak_eqD ?_ e
        simp [trim_mk, go_sem, Nat.reduceLT, Nat.reduceAdd, Nat.reduceEqDiff, Nat.reduceLeDiff, Nat.reduceSub, Nat.reduceMul, Int.reduceEq, reduceIte, subHeap, renObj, renCell, renLeaf, pos, List.range_succ, hWo, Wo.ss, cSi3, cSi, cAct]
      rintro st rfl
      refine WL_walk ?_
      simp only [go_sem, Nat.reduceLT, Nat.reduceAdd, Nat.reduceEqDiff, Nat.reduceLeDiff, Nat.reduceSub, Nat.reduceMul, Int.reduceEq, reduceIte, L35, R35, List.drop_succ_cons, List.drop_zero, hWo, Wo.ss, cSi3, cSi, cE, cAct, Int.ofNat_zero, Int.natCast_one, Int.cast_ofNat_Int, Int.reduceLT, Int.reduceLE, Int.reduceToNat, Nat.reduceLT, Int.toNat_zero, Int.natCast_zero, Int.le_refl, Int.lt_irrefl, Int.reduceAdd, frz, false_or, or_true, List.map_cons, List.map_nil, List.cons_append, List.nil_append, hn0]
      repeat refine ⟨rfl, ?_⟩
      refine ret_keep [] (by simp) (by simp) (by simp [hx, hWo]) ?_ ?_
      · simp [go_sem, Nat.reduceLT, Nat.reduceAdd, Nat.reduceEqDiff, Nat.reduceLeDiff, Nat.reduceSub, Nat.reduceMul, Int.reduceEq, reduceIte, L35, R35, hx, pos, hWo]
      · simp [subHeap, renObj, renCell, renLeaf, hx, pos, go_sem, Nat.reduceLT, Nat.reduceAdd, Nat.reduceEqDiff, Nat.reduceLeDiff, Nat.reduceSub, Nat.reduceMul, Int.reduceEq, reduceIte, hWo, List.range_succ, Wo.ss, cSi3, cSi]
    by_cases hn1 : (w.b.length : Int) ≤ n
    · refine ⟨va, vb, ?_⟩
      rw [doErr0_n (by decide) (by decide) (.inr (by show (w.b.length : Int) ≤ n; exact hn1)), if_neg (by decide)]
      refine Meets.of_parts Tryz.func35 Tryz.ntmps35 low35 res35 (by simp) fun x hx => ?_
      simp only [LC.flat, L35, R35, List.cons_append, List.nil_append]
      refine WL_join 1 [0, 3] 6 (fun st => st = ⟨mkE .top [(3, .rptr (cAct 3 1 n c t)), (0, .ptr 0 0), (3, .ptr 5 0)], hWo vs vy va vb w ++ [.gone]⟩) (by simp [hx, hWo]) (by simp) ?_ ?_
      · simp only [go_sem, Nat.reduceLT, Nat.reduceAdd, Nat.reduceEqDiff, Nat.reduceLeDiff, Nat.reduceSub, Nat.reduceMul, Int.reduceEq, reduceIte, L35, R35, List.take_succ_cons, List.take_zero, cAct]
        rw [join_normal]
        refine ⟨by simp [hWo], _, ?_, rfl⟩
        have e := weak_rptr (x := x) (nt := 114) (st := ⟨mkE .top [(0, .ptr 0 0), (3, .ptr 5 0)], hWo vs vy va vb w ++ [.box (cAct 3 1 n c t)]⟩) (cells' := cAct 3 1 n c t) (H' := hWo vs vy va vb w ++ [.gone]) 3 5 rfl rfl (by simp [cAct, frz]) (by simp [cAct, PV.isPure]) rfl
        rw [put_mk] at e
        refine weak_eqD ?_ e
        simp [trim_mk, go_sem, Nat.reduceLT, Nat.reduceAdd, Nat.reduceEqDiff, Nat.reduceLeDiff, Nat.reduceSub, Nat.reduceMul, Int.reduceEq, reduceIte, subHeap, renObj, renCell, renLeaf, pos, List.range_succ, hWo, Wo.ss, cSi3, cSi, cAct]
      rintro st rfl
      refine WL_walk ?_
      simp only [go_sem, Nat.reduceLT, Nat.reduceAdd, Nat.reduceEqDiff, Nat.reduceLeDiff, Nat.reduceSub, Nat.reduceMul, Int.reduceEq, reduceIte, L35, R35, List.drop_succ_cons, List.drop_zero, hWo, Wo.ss, cSi3, cSi, cE, cAct, Int.ofNat_zero, Int.natCast_one, Int.cast_ofNat_Int, Int.reduceLT, Int.reduceLE, Int.reduceToNat, Nat.reduceLT, Int.toNat_zero, Int.natCast_zero, Int.le_refl, Int.lt_irrefl, Int.reduceAdd, frz, false_or, or_true, List.map_cons, List.map_nil, List.cons_append, List.nil_append, hn0]
      simp only [go_sem, Nat.reduceLT, Nat.reduceAdd, Nat.reduceEqDiff, Nat.reduceLeDiff, Nat.reduceSub, Nat.reduceMul, Int.reduceEq, reduceIte, hn1, List.length_map]
      repeat refine ⟨rfl, ?_⟩
      refine ret_keep [] (by simp) (by simp) (by simp [hx, hWo]) ?_ ?_
      · simp [go_sem, Nat.reduceLT, Nat.reduceAdd, Nat.reduceEqDiff, Nat.reduceLeDiff, Nat.reduceSub, Nat.reduceMul, Int.reduceEq, reduceIte, L35, R35, hx, pos, hWo]
      · simp [subHeap, renObj, renCell, renLeaf, hx, pos, go_sem, Nat.reduceLT, Nat.reduceAdd, Nat.reduceEqDiff, Nat.reduceLeDiff, Nat.reduceSub, Nat.reduceMul, Int.reduceEq, reduceIte, hWo, List.range_succ, Wo.ss, cSi3, cSi]
    obtain ⟨q, rfl⟩ : ∃ q : Nat, n = q := ⟨n.toNat, by omega⟩
    have hq : q < w.b.length := by omega
    have hnn : ¬ ((q : Int) < 0 ∨ ((w.way 1).length : Int) ≤ (q : Int)) := by show ¬ ((q : Int) < 0 ∨ (w.b.length : Int) ≤ (q : Int)); omega
    obtain ⟨va', vb', htk⟩ := take_meets vs vy va vb w 1 q (by omega) hq (by show w.b.length ≤ 30; omega)
    have hce := h.cb _ (nthM hq)
    have hnN : ¬ w.b.length ≤ q := by omega
    have hd : doErr0 w 3 1 q c t = 0 := by rw [doErr0, if_neg (by decide), if_neg (by decide), if_neg hnn, if_neg (by decide), if_pos rfl]
    have hdW : doW w 3 1 q c t = w.setY 1 ((w.way 1).eraseIdx q) := by rw [doW, if_neg (by decide), if_neg (by decide), if_neg (by decide), if_pos rfl, Int.toNat_natCast]
    refine ⟨va', vb', ?_⟩
    rw [hd, if_pos rfl, hdW]
    refine Meets.of_parts Tryz.func35 Tryz.ntmps35 low35 res35 (by simp) fun x hx => ?_
    simp only [LC.flat, L35, R35, List.cons_append, List.nil_append]
    refine WL_join 1 [0, 3] 6 (fun st => st = ⟨mkE .top [(3, .rptr (cAct 3 1 (q : Int) c t)), (0, .ptr 0 0), (3, .ptr 5 0)], hWo vs vy va vb w ++ [.gone]⟩) (by simp [hx, hWo]) (by simp) ?_ ?_
    · simp only [go_sem, Nat.reduceLT, Nat.reduceAdd, Nat.reduceEqDiff, Nat.reduceLeDiff, Nat.reduceSub, Nat.reduceMul, Int.reduceEq, reduceIte, L35, R35, List.take_succ_cons, List.take_zero, cAct]
      rw [join_normal]
      refine ⟨by simp [hWo], _, ?_, rfl⟩
      have e := weak_rptr (x := x) (nt := 114) (st := ⟨mkE .top [(0, .ptr 0 0), (3, .ptr 5 0)], hWo vs vy va vb w ++ [.box (cAct 3 1 (q : Int) c t)]⟩) (cells' := cAct 3 1 (q : Int) c t) (H' := hWo vs vy va vb w ++ [.gone]) 3 5 rfl rfl (by simp [cAct, frz]) (by simp [cAct, PV.isPure]) rfl
      rw [put_mk] at e
      refine weak_eqD ?_ e
      simp [trim_mk, go_sem, Nat.reduceLT, Nat.reduceAdd, Nat.reduceEqDiff, Nat.reduceLeDiff, Nat.reduceSub, Nat.reduceMul, Int.reduceEq, reduceIte, subHeap, renObj, renCell, renLeaf, pos, List.range_succ, hWo, Wo.ss, cSi3, cSi, cAct]
    rintro st rfl
    refine WL_walk ?_
    simp only [go_sem, Nat.reduceLT, Nat.reduceAdd, Nat.reduceEqDiff, Nat.reduceLeDiff, Nat.reduceSub, Nat.reduceMul, Int.reduceEq, reduceIte, L35, R35, List.drop_succ_cons, List.drop_zero, hWo, Wo.ss, cSi3, cSi, cE, cAct, Int.ofNat_zero, Int.natCast_one, Int.cast_ofNat_Int, Int.reduceLT, Int.reduceLE, Int.reduceToNat, Nat.reduceLT, Int.toNat_zero, Int.natCast_zero, Int.le_refl, Int.lt_irrefl, Int.reduceAdd, frz, false_or, or_true, List.map_cons, List.map_nil, List.cons_append, List.nil_append, hn0]
    simp only [go_sem, Nat.reduceLT, Nat.reduceAdd, Nat.reduceEqDiff, Nat.reduceLeDiff, Nat.reduceSub, Nat.reduceMul, Int.reduceEq, reduceIte, hn0, hnN, List.length_map, Int.ofNat_zero, Int.natCast_one, Int.cast_ofNat_Int, Int.reduceLT, Int.reduceLE, Int.reduceToNat, Nat.reduceLT, Int.toNat_zero, Int.natCast_zero, Int.le_refl, Int.lt_irrefl, Int.reduceAdd, frz, false_or, or_true]
    repeat refine ⟨rfl, ?_⟩
    try simp only [go_sem, Nat.reduceLT, Nat.reduceAdd, Nat.reduceEqDiff, Nat.reduceLeDiff, Nat.reduceSub, Nat.reduceMul, Int.reduceEq, reduceIte, Int.ofNat_zero, Int.natCast_one, Int.cast_ofNat_Int, Int.reduceLT, Int.reduceLE, Int.reduceToNat, Nat.reduceLT, Int.toNat_zero, Int.natCast_zero, Int.le_refl, Int.lt_irrefl, Int.reduceAdd, frz, false_or, or_true]
    refine ops_call (.heapE [0, 1, 2, 3, 4] (r' := .agg (cE (nth (w.way 1) q))) (H' := hWo vs vy va' vb' (w.setY 1 ((w.way 1).eraseIdx q)) ++ [.gone]) htk (by simp) (by simp) (by simp [go_sem, Nat.reduceLT, Nat.reduceAdd, Nat.reduceEqDiff, Nat.reduceLeDiff, Nat.reduceSub, Nat.reduceMul, Int.reduceEq, reduceIte, pos]) ?_ ?_ ?_) ?_
    · skip
      simp [subHeap, renObj, renCell, renLeaf, pos, hWo, Wo.ss, cSi3, cSi]
    · simp [renT, ren, renCell, renLeaf, cE]
    · skip
      simp [merge, mergeObj, callId, backF, backId, renObj, renCell, renLeaf, pos, List.range_succ, hWo, Wo.ss, cSi3, cSi, cE, cAct]
    simp only [go_sem, Nat.reduceLT, Nat.reduceAdd, Nat.reduceEqDiff, Nat.reduceLeDiff, Nat.reduceSub, Nat.reduceMul, Int.reduceEq, reduceIte, hWo]
    refine end_keep [] (by simp) (by simp) (by simp [hx, hWo]) ?_ ?_
    · simp [go_sem, Nat.reduceLT, Nat.reduceAdd, Nat.reduceEqDiff, Nat.reduceLeDiff, Nat.reduceSub, Nat.reduceMul, Int.reduceEq, reduceIte, L35, R35, hx, pos, hWo]
    · simp [subHeap, renObj, renCell, renLeaf, hx, pos, go_sem, Nat.reduceLT, Nat.reduceAdd, Nat.reduceEqDiff, Nat.reduceLeDiff, Nat.reduceSub, Nat.reduceMul, Int.reduceEq, reduceIte, hWo, List.range_succ, Wo.ss, cSi3, cSi]
end Go.Proofs.YtkgobnnkcnnfhaaGreat
/- Worlds: what is brought, what comes again; an act in a right world: contracts. -/
namespace Go.Proofs.YtkgobnnkcnnfhaaGreat
set_option linter.unusedSimpArgs false
set_option linter.unusedVariables false
open Go.RowKit
theorem rc_born {w : Wo} (h : WoOk w) {i : Int} (hi : i = 0 ∨ i = 1) {e : Entry} (hc : checkEntry e = 0) (hb : Born w e) : rcErr i (w.log i) (w.wts i) e = 0 := by
 by_cases hr : e.id.r = i
 ·
  exact if_pos (.inl (findE_pos.2 ⟨e, born_own hb hr, rfl⟩))
 ·
  exact (rc_ok (h.si hi) hc hr).1
set_option maxRecDepth 10000 in
set_option maxHeartbeats 4000000 in
theorem do2_meets (vs vy va vb : Nat) (w : Wo) (h : WoOk w) (i n c : Int) (t : ByteArray) (hi : i = 0 ∨ i = 1) :
    ∃ va' vb', Meets Tryz.prog 35 [.ptr 0 0, .agg (cAct 2 i n c t)] (hWo vs vy va vb w) (.int .i64 (doErr0 w 2 i n c t)) (hWo vs vy va' vb' (if doErr0 w 2 i n c t = 0 then doW w 2 i n c t else w)) := by
  have la := h.la
  have lb := h.lb
  rcases hi with rfl | rfl
  · skip
    by_cases hn0 : n < 0
    · refine ⟨va, vb, ?_⟩
      rw [doErr0_n (by decide) (by decide) (.inl hn0), if_neg (by decide)]
      refine Meets.of_parts Tryz.func35 Tryz.ntmps35 low35 res35 (by simp) fun x hx => ?_
      simp only [LC.flat, L35, R35, List.cons_append, List.nil_append]
      refine WL_join 1 [0, 3] 6 (fun st => st = ⟨mkE .top [(3, .rptr (cAct 2 0 n c t)), (0, .ptr 0 0), (3, .ptr 5 0)], hWo vs vy va vb w ++ [.gone]⟩) (by simp [hx, hWo]) (by simp) ?_ ?_
      · simp only [go_sem, Nat.reduceLT, Nat.reduceAdd, Nat.reduceEqDiff, Nat.reduceLeDiff, Nat.reduceSub, Nat.reduceMul, Int.reduceEq, reduceIte, L35, R35, List.take_succ_cons, List.take_zero, cAct]
        rw [join_normal]
        refine ⟨by simp [hWo], _, ?_, rfl⟩
        have e := weak_rptr (x := x) (nt := 114) (st := ⟨mkE .top [(0, .ptr 0 0), (3, .ptr 5 0)], hWo vs vy va vb w ++ [.box (cAct 2 0 n c t)]⟩) (cells' := cAct 2 0 n c t) (H' := hWo vs vy va vb w ++ [.gone]) 3 5 rfl rfl (by simp [cAct, frz]) (by simp [cAct, PV.isPure]) rfl
        rw [put_mk] at e
        refine weak_eqD ?_ e
        simp [trim_mk, go_sem, Nat.reduceLT, Nat.reduceAdd, Nat.reduceEqDiff, Nat.reduceLeDiff, Nat.reduceSub, Nat.reduceMul, Int.reduceEq, reduceIte, subHeap, renObj, renCell, renLeaf, pos, List.range_succ, hWo, Wo.ss, cSi3, cSi, cAct]
      rintro st rfl
      refine WL_walk ?_
      simp only [go_sem, Nat.reduceLT, Nat.reduceAdd, Nat.reduceEqDiff, Nat.reduceLeDiff, Nat.reduceSub, Nat.reduceMul, Int.reduceEq, reduceIte, L35, R35, List.drop_succ_cons, List.drop_zero, hWo, Wo.ss, cSi3, cSi, cE, cAct, Int.ofNat_zero, Int.natCast_one, Int.cast_ofNat_Int, Int.reduceLT, Int.reduceLE, Int.reduceToNat, Nat.reduceLT, Int.toNat_zero, Int.natCast_zero, Int.le_refl, Int.lt_irrefl, Int.reduceAdd, frz, false_or, or_true, List.map_cons, List.map_nil, List.cons_append, List.nil_append, hn0]
      repeat refine ⟨rfl, ?_⟩
      refine ret_keep [] (by simp) (by simp) (by simp [hx, hWo]) ?_ ?_
      · simp [go_sem, Nat.reduceLT, Nat.reduceAdd, Nat.reduceEqDiff, Nat.reduceLeDiff, Nat.reduceSub, Nat.reduceMul, Int.reduceEq, reduceIte, L35, R35, hx, pos, hWo]
      · simp [subHeap, renObj, renCell, renLeaf, hx, pos, go_sem, Nat.reduceLT, Nat.reduceAdd, Nat.reduceEqDiff, Nat.reduceLeDiff, Nat.reduceSub, Nat.reduceMul, Int.reduceEq, reduceIte, hWo, List.range_succ, Wo.ss, cSi3, cSi]
    by_cases hn1 : (w.a.length : Int) ≤ n
    · refine ⟨va, vb, ?_⟩
      rw [doErr0_n (by decide) (by decide) (.inr (by show (w.a.length : Int) ≤ n; exact hn1)), if_neg (by decide)]
      refine Meets.of_parts Tryz.func35 Tryz.ntmps35 low35 res35 (by simp) fun x hx => ?_
      simp only [LC.flat, L35, R35, List.cons_append, List.nil_append]
      refine WL_join 1 [0, 3] 6 (fun st => st = ⟨mkE .top [(3, .rptr (cAct 2 0 n c t)), (0, .ptr 0 0), (3, .ptr 5 0)], hWo vs vy va vb w ++ [.gone]⟩) (by simp [hx, hWo]) (by simp) ?_ ?_
      · simp only [go_sem, Nat.reduceLT, Nat.reduceAdd, Nat.reduceEqDiff, Nat.reduceLeDiff, Nat.reduceSub, Nat.reduceMul, Int.reduceEq, reduceIte, L35, R35, List.take_succ_cons, List.take_zero, cAct]
        rw [join_normal]
        refine ⟨by simp [hWo], _, ?_, rfl⟩
        have e := weak_rptr (x := x) (nt := 114) (st := ⟨mkE .top [(0, .ptr 0 0), (3, .ptr 5 0)], hWo vs vy va vb w ++ [.box (cAct 2 0 n c t)]⟩) (cells' := cAct 2 0 n c t) (H' := hWo vs vy va vb w ++ [.gone]) 3 5 rfl rfl (by simp [cAct, frz]) (by simp [cAct, PV.isPure]) rfl
        rw [put_mk] at e
        refine weak_eqD ?_ e
        simp [trim_mk, go_sem, Nat.reduceLT, Nat.reduceAdd, Nat.reduceEqDiff, Nat.reduceLeDiff, Nat.reduceSub, Nat.reduceMul, Int.reduceEq, reduceIte, subHeap, renObj, renCell, renLeaf, pos, List.range_succ, hWo, Wo.ss, cSi3, cSi, cAct]
      rintro st rfl
      refine WL_walk ?_
      simp only [go_sem, Nat.reduceLT, Nat.reduceAdd, Nat.reduceEqDiff, Nat.reduceLeDiff, Nat.reduceSub, Nat.reduceMul, Int.reduceEq, reduceIte, L35, R35, List.drop_succ_cons, List.drop_zero, hWo, Wo.ss, cSi3, cSi, cE, cAct, Int.ofNat_zero, Int.natCast_one, Int.cast_ofNat_Int, Int.reduceLT, Int.reduceLE, Int.reduceToNat, Nat.reduceLT, Int.toNat_zero, Int.natCast_zero, Int.le_refl, Int.lt_irrefl, Int.reduceAdd, frz, false_or, or_true, List.map_cons, List.map_nil, List.cons_append, List.nil_append, hn0]
      simp only [go_sem, Nat.reduceLT, Nat.reduceAdd, Nat.reduceEqDiff, Nat.reduceLeDiff, Nat.reduceSub, Nat.reduceMul, Int.reduceEq, reduceIte, hn1, List.length_map]
      repeat refine ⟨rfl, ?_⟩
      refine ret_keep [] (by simp) (by simp) (by simp [hx, hWo]) ?_ ?_
      · simp [go_sem, Nat.reduceLT, Nat.reduceAdd, Nat.reduceEqDiff, Nat.reduceLeDiff, Nat.reduceSub, Nat.reduceMul, Int.reduceEq, reduceIte, L35, R35, hx, pos, hWo]
      · simp [subHeap, renObj, renCell, renLeaf, hx, pos, go_sem, Nat.reduceLT, Nat.reduceAdd, Nat.reduceEqDiff, Nat.reduceLeDiff, Nat.reduceSub, Nat.reduceMul, Int.reduceEq, reduceIte, hWo, List.range_succ, Wo.ss, cSi3, cSi]
    obtain ⟨q, rfl⟩ : ∃ q : Nat, n = q := ⟨n.toNat, by omega⟩
    have hq : q < w.a.length := by omega
    have hnn : ¬ ((q : Int) < 0 ∨ ((w.way 0).length : Int) ≤ (q : Int)) := by show ¬ ((q : Int) < 0 ∨ (w.a.length : Int) ≤ (q : Int)); omega
    have hce := h.ca _ (nthM hq)
    have hnN : ¬ w.a.length ≤ q := by omega
    have hgq : w.a[q]? = some (nth w.a q) := nth_get? _ _ hq
    have hbo := h.ba _ (nthM hq)
    obtain ⟨va', vb', htk⟩ := take_meets vs vy va vb w 0 q (by omega) hq (by show w.a.length ≤ 30; omega)
    have hr0 : rcErr 0 (w.log 0) (w.wts 0) (nth w.a q) = 0 := rc_born h (by omega) hce hbo
    have hrc := receive_meets vs vy va' vb' (w.setY 0 ((w.way 0).eraseIdx q)) 0 (nth w.a q) (h.si (by omega)) hce
    have hr1 : rcErr 0 ((w.setY 0 ((w.way 0).eraseIdx q)).log 0) ((w.setY 0 ((w.way 0).eraseIdx q)).wts 0) (nth w.a q) = 0 := hr0
    have hd : doErr0 w 2 0 q c t = 0 := by rw [doErr0, if_neg (by decide), if_neg (by decide), if_neg hnn, if_pos rfl, Int.toNat_natCast]; exact hr0
    have hdW : doW w 2 0 q c t = recW (w.setY 0 ((w.way 0).eraseIdx q)) 0 (nth w.a q) := by
      rw [doW, if_neg (by decide), if_neg (by decide), if_pos rfl, Int.toNat_natCast, recW, if_pos hr1]; rfl
    rw [hr1] at hrc
    refine ⟨va', vb', ?_⟩
    rw [hd, if_pos rfl, hdW]
    have htk : Meets Tryz.prog 57 [.ptr 0 0, .int .i64 0, .int .i64 q] (hWo vs vy va vb w) (.agg (cE (nth w.a q))) (hWo vs vy va' vb' (w.setY 0 ((w.way 0).eraseIdx q))) := htk
    generalize recW (w.setY 0 ((w.way 0).eraseIdx q)) 0 (nth w.a q) = w3 at *
    generalize w.setY 0 ((w.way 0).eraseIdx q) = w2 at *
    refine Meets.of_parts Tryz.func35 Tryz.ntmps35 low35 res35 (by simp) fun x hx => ?_
    simp only [LC.flat, L35, R35, List.cons_append, List.nil_append]
    refine WL_join 1 [0, 3] 6 (fun st => st = ⟨mkE .top [(3, .rptr (cAct 2 0 (q : Int) c t)), (0, .ptr 0 0), (3, .ptr 5 0)], hWo vs vy va vb w ++ [.gone]⟩) (by simp [hx, hWo]) (by simp) ?_ ?_
    · simp only [go_sem, Nat.reduceLT, Nat.reduceAdd, Nat.reduceEqDiff, Nat.reduceLeDiff, Nat.reduceSub, Nat.reduceMul, Int.reduceEq, reduceIte, L35, R35, List.take_succ_cons, List.take_zero, cAct]
      rw [join_normal]
      refine ⟨by simp [hWo], _, ?_, rfl⟩
      have e := weak_rptr (x := x) (nt := 114) (st := ⟨mkE .top [(0, .ptr 0 0), (3, .ptr 5 0)], hWo vs vy va vb w ++ [.box (cAct 2 0 (q : Int) c t)]⟩) (cells' := cAct 2 0 (q : Int) c t) (H' := hWo vs vy va vb w ++ [.gone]) 3 5 rfl rfl (by simp [cAct, frz]) (by simp [cAct, PV.isPure]) rfl
      rw [put_mk] at e
      refine weak_eqD ?_ e
      simp [trim_mk, go_sem, Nat.reduceLT, Nat.reduceAdd, Nat.reduceEqDiff, Nat.reduceLeDiff, Nat.reduceSub, Nat.reduceMul, Int.reduceEq, reduceIte, subHeap, renObj, renCell, renLeaf, pos, List.range_succ, hWo, Wo.ss, cSi3, cSi, cAct]
    rintro st rfl
    refine WL_walk ?_
    simp only [go_sem, Nat.reduceLT, Nat.reduceAdd, Nat.reduceEqDiff, Nat.reduceLeDiff, Nat.reduceSub, Nat.reduceMul, Int.reduceEq, reduceIte, L35, R35, List.drop_succ_cons, List.drop_zero, hWo, Wo.ss, cSi3, cSi, cE, cAct, Int.ofNat_zero, Int.natCast_one, Int.cast_ofNat_Int, Int.reduceLT, Int.reduceLE, Int.reduceToNat, Nat.reduceLT, Int.toNat_zero, Int.natCast_zero, Int.le_refl, Int.lt_irrefl, Int.reduceAdd, frz, false_or, or_true, List.map_cons, List.map_nil, List.cons_append, List.nil_append, hn0]
    simp only [go_sem, Nat.reduceLT, Nat.reduceAdd, Nat.reduceEqDiff, Nat.reduceLeDiff, Nat.reduceSub, Nat.reduceMul, Int.reduceEq, reduceIte, hn0, hnN, List.length_map, Int.ofNat_zero, Int.natCast_one, Int.cast_ofNat_Int, Int.reduceLT, Int.reduceLE, Int.reduceToNat, Nat.reduceLT, Int.toNat_zero, Int.natCast_zero, Int.le_refl, Int.lt_irrefl, Int.reduceAdd, frz, false_or, or_true]
    repeat refine ⟨rfl, ?_⟩
    try simp only [go_sem, Nat.reduceLT, Nat.reduceAdd, Nat.reduceEqDiff, Nat.reduceLeDiff, Nat.reduceSub, Nat.reduceMul, Int.reduceEq, reduceIte, Int.ofNat_zero, Int.natCast_one, Int.cast_ofNat_Int, Int.reduceLT, Int.reduceLE, Int.reduceToNat, Nat.reduceLT, Int.toNat_zero, Int.natCast_zero, Int.le_refl, Int.lt_irrefl, Int.reduceAdd, frz, false_or, or_true]
    refine ops_call3 (.heapE [0, 1, 2, 3, 4] (r' := .agg (cE (nth w.a q))) (H' := hWo vs vy va' vb' w2 ++ [.gone]) htk (by simp) (by simp) (by simp [go_sem, Nat.reduceLT, Nat.reduceAdd, Nat.reduceEqDiff, Nat.reduceLeDiff, Nat.reduceSub, Nat.reduceMul, Int.reduceEq, reduceIte, pos]) ?_ ?_ ?_) ?_
    · skip
      simp [subHeap, renObj, renCell, renLeaf, pos, hWo, Wo.ss, cSi3, cSi]
    · simp [renT, ren, renCell, renLeaf, cE]
    · skip
      simp [merge, mergeObj, callId, backF, backId, renObj, renCell, renLeaf, pos, List.range_succ, hWo, Wo.ss, cSi3, cSi, cE, cAct]
    simp only [go_sem, Nat.reduceLT, Nat.reduceAdd, Nat.reduceEqDiff, Nat.reduceLeDiff, Nat.reduceSub, Nat.reduceMul, Int.reduceEq, reduceIte, hWo, Int.ofNat_zero, Int.natCast_one, Int.cast_ofNat_Int, Int.reduceLT, Int.reduceLE, Int.reduceToNat, Nat.reduceLT, Int.toNat_zero, Int.natCast_zero, Int.le_refl, Int.lt_irrefl, Int.reduceAdd, frz, false_or, or_true, List.cons_append, List.nil_append]
    refine ops_call (.heapE [0, 1, 2, 3, 4] (r' := .int .i64 0) (H' := hWo vs vy va' vb' w3 ++ [.gone]) hrc (by simp) (by simp) (by simp [go_sem, Nat.reduceLT, Nat.reduceAdd, Nat.reduceEqDiff, Nat.reduceLeDiff, Nat.reduceSub, Nat.reduceMul, Int.reduceEq, reduceIte, pos, cE]) ?_ ?_ ?_) ?_
    · skip
      simp [subHeap, renObj, renCell, renLeaf, pos, hWo, Wo.ss, cSi3, cSi]
    · simp [renT, ren, renCell, renLeaf]
    · skip
      simp [merge, mergeObj, callId, backF, backId, renObj, renCell, renLeaf, pos, List.range_succ, hWo, Wo.ss, cSi3, cSi, cE, cAct]
    simp only [go_sem, Nat.reduceLT, Nat.reduceAdd, Nat.reduceEqDiff, Nat.reduceLeDiff, Nat.reduceSub, Nat.reduceMul, Int.reduceEq, reduceIte, hWo, Int.ofNat_zero, Int.natCast_one, Int.cast_ofNat_Int, Int.reduceLT, Int.reduceLE, Int.reduceToNat, Nat.reduceLT, Int.toNat_zero, Int.natCast_zero, Int.le_refl, Int.lt_irrefl, Int.reduceAdd, frz, false_or, or_true]
    repeat refine ⟨rfl, ?_⟩
    try simp only [go_sem, Nat.reduceLT, Nat.reduceAdd, Nat.reduceEqDiff, Nat.reduceLeDiff, Nat.reduceSub, Nat.reduceMul, Int.reduceEq, reduceIte, Int.ofNat_zero, Int.natCast_one, Int.cast_ofNat_Int, Int.reduceLT, Int.reduceLE, Int.reduceToNat, Nat.reduceLT, Int.toNat_zero, Int.natCast_zero, Int.le_refl, Int.lt_irrefl, Int.reduceAdd, frz, false_or, or_true]
    refine ret_keep [] (by simp) (by simp) (by simp [hx, hWo]) ?_ ?_
    · simp [go_sem, Nat.reduceLT, Nat.reduceAdd, Nat.reduceEqDiff, Nat.reduceLeDiff, Nat.reduceSub, Nat.reduceMul, Int.reduceEq, reduceIte, L35, R35, hx, pos, hWo]
    · simp [subHeap, renObj, renCell, renLeaf, hx, pos, go_sem, Nat.reduceLT, Nat.reduceAdd, Nat.reduceEqDiff, Nat.reduceLeDiff, Nat.reduceSub, Nat.reduceMul, Int.reduceEq, reduceIte, hWo, List.range_succ, Wo.ss, cSi3, cSi]
  · skip
    by_cases hn0 : n < 0
    · refine ⟨va, vb, ?_⟩
      rw [doErr0_n (by decide) (by decide) (.inl hn0), if_neg (by decide)]
      refine Meets.of_parts Tryz.func35 Tryz.ntmps35 low35 res35 (by simp) fun x hx => ?_
      simp only [LC.flat, L35, R35, List.cons_append, List.nil_append]
      refine WL_join 1 [0, 3] 6 (fun st => st = ⟨mkE .top [(3, .rptr (cAct 2 1 n c t)), (0, .ptr 0 0), (3, .ptr 5 0)], hWo vs vy va vb w ++ [.gone]⟩) (by simp [hx, hWo]) (by simp) ?_ ?_
      · simp only [go_sem, Nat.reduceLT, Nat.reduceAdd, Nat.reduceEqDiff, Nat.reduceLeDiff, Nat.reduceSub, Nat.reduceMul, Int.reduceEq, reduceIte, L35, R35, List.take_succ_cons, List.take_zero, cAct]
        rw [join_normal]
        refine ⟨by simp [hWo], _, ?_, rfl⟩
        have e := weak_rptr (x := x) (nt := 114) (st := ⟨mkE .top [(0, .ptr 0 0), (3, .ptr 5 0)], hWo vs vy va vb w ++ [.box (cAct 2 1 n c t)]⟩) (cells' := cAct 2 1 n c t) (H' := hWo vs vy va vb w ++ [.gone]) 3 5 rfl rfl (by simp [cAct, frz]) (by simp [cAct, PV.isPure]) rfl
        rw [put_mk] at e
        refine weak_eqD ?_ e
        simp [trim_mk, go_sem, Nat.reduceLT, Nat.reduceAdd, Nat.reduceEqDiff, Nat.reduceLeDiff, Nat.reduceSub, Nat.reduceMul, Int.reduceEq, reduceIte, subHeap, renObj, renCell, renLeaf, pos, List.range_succ, hWo, Wo.ss, cSi3, cSi, cAct]
      rintro st rfl
      refine WL_walk ?_
      simp only [go_sem, Nat.reduceLT, Nat.reduceAdd, Nat.reduceEqDiff, Nat.reduceLeDiff, Nat.reduceSub, Nat.reduceMul, Int.reduceEq, reduceIte, L35, R35, List.drop_succ_cons, List.drop_zero, hWo, Wo.ss, cSi3, cSi, cE, cAct, Int.ofNat_zero, Int.natCast_one, Int.cast_ofNat_Int, Int.reduceLT, Int.reduceLE, Int.reduceToNat, Nat.reduceLT, Int.toNat_zero, Int.natCast_zero, Int.le_refl, Int.lt_irrefl, Int.reduceAdd, frz, false_or, or_true, List.map_cons, List.map_nil, List.cons_append, List.nil_append, hn0]
      repeat refine ⟨rfl, ?_⟩
      refine ret_keep [] (by simp) (by simp) (by simp [hx, hWo]) ?_ ?_
      · simp [go_sem, Nat.reduceLT, Nat.reduceAdd, Nat.reduceEqDiff, Nat.reduceLeDiff, Nat.reduceSub, Nat.reduceMul, Int.reduceEq, reduceIte, L35, R35, hx, pos, hWo]
      · simp [subHeap, renObj, renCell, renLeaf, hx, pos, go_sem, Nat.reduceLT, Nat.reduceAdd, Nat.reduceEqDiff, Nat.reduceLeDiff, Nat.reduceSub, Nat.reduceMul, Int.reduceEq, reduceIte, hWo, List.range_succ, Wo.ss, cSi3, cSi]
    by_cases hn1 : (w.b.length : Int) ≤ n
    · refine ⟨va, vb, ?_⟩
      rw [doErr0_n (by decide) (by decide) (.inr (by show (w.b.length : Int) ≤ n; exact hn1)), if_neg (by decide)]
      refine Meets.of_parts Tryz.func35 Tryz.ntmps35 low35 res35 (by simp) fun x hx => ?_
      simp only [LC.flat, L35, R35, List.cons_append, List.nil_append]
      refine WL_join 1 [0, 3] 6 (fun st => st = ⟨mkE .top [(3, .rptr (cAct 2 1 n c t)), (0, .ptr 0 0), (3, .ptr 5 0)], hWo vs vy va vb w ++ [.gone]⟩) (by simp [hx, hWo]) (by simp) ?_ ?_
      · simp only [go_sem, Nat.reduceLT, Nat.reduceAdd, Nat.reduceEqDiff, Nat.reduceLeDiff, Nat.reduceSub, Nat.reduceMul, Int.reduceEq, reduceIte, L35, R35, List.take_succ_cons, List.take_zero, cAct]
        rw [join_normal]
        refine ⟨by simp [hWo], _, ?_, rfl⟩
        have e := weak_rptr (x := x) (nt := 114) (st := ⟨mkE .top [(0, .ptr 0 0), (3, .ptr 5 0)], hWo vs vy va vb w ++ [.box (cAct 2 1 n c t)]⟩) (cells' := cAct 2 1 n c t) (H' := hWo vs vy va vb w ++ [.gone]) 3 5 rfl rfl (by simp [cAct, frz]) (by simp [cAct, PV.isPure]) rfl
        rw [put_mk] at e
        refine weak_eqD ?_ e
        simp [trim_mk, go_sem, Nat.reduceLT, Nat.reduceAdd, Nat.reduceEqDiff, Nat.reduceLeDiff, Nat.reduceSub, Nat.reduceMul, Int.reduceEq, reduceIte, subHeap, renObj, renCell, renLeaf, pos, List.range_succ, hWo, Wo.ss, cSi3, cSi, cAct]
      rintro st rfl
      refine WL_walk ?_
      simp only [go_sem, Nat.reduceLT, Nat.reduceAdd, Nat.reduceEqDiff, Nat.reduceLeDiff, Nat.reduceSub, Nat.reduceMul, Int.reduceEq, reduceIte, L35, R35, List.drop_succ_cons, List.drop_zero, hWo, Wo.ss, cSi3, cSi, cE, cAct, Int.ofNat_zero, Int.natCast_one, Int.cast_ofNat_Int, Int.reduceLT, Int.reduceLE, Int.reduceToNat, Nat.reduceLT, Int.toNat_zero, Int.natCast_zero, Int.le_refl, Int.lt_irrefl, Int.reduceAdd, frz, false_or, or_true, List.map_cons, List.map_nil, List.cons_append, List.nil_append, hn0]
      simp only [go_sem, Nat.reduceLT, Nat.reduceAdd, Nat.reduceEqDiff, Nat.reduceLeDiff, Nat.reduceSub, Nat.reduceMul, Int.reduceEq, reduceIte, hn1, List.length_map]
      repeat refine ⟨rfl, ?_⟩
      refine ret_keep [] (by simp) (by simp) (by simp [hx, hWo]) ?_ ?_
      · simp [go_sem, Nat.reduceLT, Nat.reduceAdd, Nat.reduceEqDiff, Nat.reduceLeDiff, Nat.reduceSub, Nat.reduceMul, Int.reduceEq, reduceIte, L35, R35, hx, pos, hWo]
      · simp [subHeap, renObj, renCell, renLeaf, hx, pos, go_sem, Nat.reduceLT, Nat.reduceAdd, Nat.reduceEqDiff, Nat.reduceLeDiff, Nat.reduceSub, Nat.reduceMul, Int.reduceEq, reduceIte, hWo, List.range_succ, Wo.ss, cSi3, cSi]
    obtain ⟨q, rfl⟩ : ∃ q : Nat, n = q := ⟨n.toNat, by omega⟩
    have hq : q < w.b.length := by omega
    have hnn : ¬ ((q : Int) < 0 ∨ ((w.way 1).length : Int) ≤ (q : Int)) := by show ¬ ((q : Int) < 0 ∨ (w.b.length : Int) ≤ (q : Int)); omega
    have hce := h.cb _ (nthM hq)
    have hnN : ¬ w.b.length ≤ q := by omega
    have hgq : w.b[q]? = some (nth w.b q) := nth_get? _ _ hq
    have hbo := h.bb _ (nthM hq)
    obtain ⟨va', vb', htk⟩ := take_meets vs vy va vb w 1 q (by omega) hq (by show w.b.length ≤ 30; omega)
    have hr0 : rcErr 1 (w.log 1) (w.wts 1) (nth w.b q) = 0 := rc_born h (by omega) hce hbo
    have hrc := receive_meets vs vy va' vb' (w.setY 1 ((w.way 1).eraseIdx q)) 1 (nth w.b q) (h.si (by omega)) hce
    have hr1 : rcErr 1 ((w.setY 1 ((w.way 1).eraseIdx q)).log 1) ((w.setY 1 ((w.way 1).eraseIdx q)).wts 1) (nth w.b q) = 0 := hr0
    have hd : doErr0 w 2 1 q c t = 0 := by rw [doErr0, if_neg (by decide), if_neg (by decide), if_neg hnn, if_pos rfl, Int.toNat_natCast]; exact hr0
    have hdW : doW w 2 1 q c t = recW (w.setY 1 ((w.way 1).eraseIdx q)) 1 (nth w.b q) := by
      rw [doW, if_neg (by decide), if_neg (by decide), if_pos rfl, Int.toNat_natCast, recW, if_pos hr1]; rfl
    rw [hr1] at hrc
    refine ⟨va', vb', ?_⟩
    rw [hd, if_pos rfl, hdW]
    have htk : Meets Tryz.prog 57 [.ptr 0 0, .int .i64 1, .int .i64 q] (hWo vs vy va vb w) (.agg (cE (nth w.b q))) (hWo vs vy va' vb' (w.setY 1 ((w.way 1).eraseIdx q))) := htk
    generalize recW (w.setY 1 ((w.way 1).eraseIdx q)) 1 (nth w.b q) = w3 at *
    generalize w.setY 1 ((w.way 1).eraseIdx q) = w2 at *
    refine Meets.of_parts Tryz.func35 Tryz.ntmps35 low35 res35 (by simp) fun x hx => ?_
    simp only [LC.flat, L35, R35, List.cons_append, List.nil_append]
    refine WL_join 1 [0, 3] 6 (fun st => st = ⟨mkE .top [(3, .rptr (cAct 2 1 (q : Int) c t)), (0, .ptr 0 0), (3, .ptr 5 0)], hWo vs vy va vb w ++ [.gone]⟩) (by simp [hx, hWo]) (by simp) ?_ ?_
    · simp only [go_sem, Nat.reduceLT, Nat.reduceAdd, Nat.reduceEqDiff, Nat.reduceLeDiff, Nat.reduceSub, Nat.reduceMul, Int.reduceEq, reduceIte, L35, R35, List.take_succ_cons, List.take_zero, cAct]
      rw [join_normal]
      refine ⟨by simp [hWo], _, ?_, rfl⟩
      have e := weak_rptr (x := x) (nt := 114) (st := ⟨mkE .top [(0, .ptr 0 0), (3, .ptr 5 0)], hWo vs vy va vb w ++ [.box (cAct 2 1 (q : Int) c t)]⟩) (cells' := cAct 2 1 (q : Int) c t) (H' := hWo vs vy va vb w ++ [.gone]) 3 5 rfl rfl (by simp [cAct, frz]) (by simp [cAct, PV.isPure]) rfl
      rw [put_mk] at e
      refine weak_eqD ?_ e
      simp [trim_mk, go_sem, Nat.reduceLT, Nat.reduceAdd, Nat.reduceEqDiff, Nat.reduceLeDiff, Nat.reduceSub, Nat.reduceMul, Int.reduceEq, reduceIte, subHeap, renObj, renCell, renLeaf, pos, List.range_succ, hWo, Wo.ss, cSi3, cSi, cAct]
    rintro st rfl
    refine WL_walk ?_
    simp only [go_sem, Nat.reduceLT, Nat.reduceAdd, Nat.reduceEqDiff, Nat.reduceLeDiff, Nat.reduceSub, Nat.reduceMul, Int.reduceEq, reduceIte, L35, R35, List.drop_succ_cons, List.drop_zero, hWo, Wo.ss, cSi3, cSi, cE, cAct, Int.ofNat_zero, Int.natCast_one, Int.cast_ofNat_Int, Int.reduceLT, Int.reduceLE, Int.reduceToNat, Nat.reduceLT, Int.toNat_zero, Int.natCast_zero, Int.le_refl, Int.lt_irrefl, Int.reduceAdd, frz, false_or, or_true, List.map_cons, List.map_nil, List.cons_append, List.nil_append, hn0]
    simp only [go_sem, Nat.reduceLT, Nat.reduceAdd, Nat.reduceEqDiff, Nat.reduceLeDiff, Nat.reduceSub, Nat.reduceMul, Int.reduceEq, reduceIte, hn0, hnN, List.length_map, Int.ofNat_zero, Int.natCast_one, Int.cast_ofNat_Int, Int.reduceLT, Int.reduceLE, Int.reduceToNat, Nat.reduceLT, Int.toNat_zero, Int.natCast_zero, Int.le_refl, Int.lt_irrefl, Int.reduceAdd, frz, false_or, or_true]
    repeat refine ⟨rfl, ?_⟩
    try simp only [go_sem, Nat.reduceLT, Nat.reduceAdd, Nat.reduceEqDiff, Nat.reduceLeDiff, Nat.reduceSub, Nat.reduceMul, Int.reduceEq, reduceIte, Int.ofNat_zero, Int.natCast_one, Int.cast_ofNat_Int, Int.reduceLT, Int.reduceLE, Int.reduceToNat, Nat.reduceLT, Int.toNat_zero, Int.natCast_zero, Int.le_refl, Int.lt_irrefl, Int.reduceAdd, frz, false_or, or_true]
    refine ops_call3 (.heapE [0, 1, 2, 3, 4] (r' := .agg (cE (nth w.b q))) (H' := hWo vs vy va' vb' w2 ++ [.gone]) htk (by simp) (by simp) (by simp [go_sem, Nat.reduceLT, Nat.reduceAdd, Nat.reduceEqDiff, Nat.reduceLeDiff, Nat.reduceSub, Nat.reduceMul, Int.reduceEq, reduceIte, pos]) ?_ ?_ ?_) ?_
    · skip
      simp [subHeap, renObj, renCell, renLeaf, pos, hWo, Wo.ss, cSi3, cSi]
    · simp [renT, ren, renCell, renLeaf, cE]
    · skip
      simp [merge, mergeObj, callId, backF, backId, renObj, renCell, renLeaf, pos, List.range_succ, hWo, Wo.ss, cSi3, cSi, cE, cAct]
    simp only [go_sem, Nat.reduceLT, Nat.reduceAdd, Nat.reduceEqDiff, Nat.reduceLeDiff, Nat.reduceSub, Nat.reduceMul, Int.reduceEq, reduceIte, hWo, Int.ofNat_zero, Int.natCast_one, Int.cast_ofNat_Int, Int.reduceLT, Int.reduceLE, Int.reduceToNat, Nat.reduceLT, Int.toNat_zero, Int.natCast_zero, Int.le_refl, Int.lt_irrefl, Int.reduceAdd, frz, false_or, or_true, List.cons_append, List.nil_append]
    refine ops_call (.heapE [0, 1, 2, 3, 4] (r' := .int .i64 0) (H' := hWo vs vy va' vb' w3 ++ [.gone]) hrc (by simp) (by simp) (by simp [go_sem, Nat.reduceLT, Nat.reduceAdd, Nat.reduceEqDiff, Nat.reduceLeDiff, Nat.reduceSub, Nat.reduceMul, Int.reduceEq, reduceIte, pos, cE]) ?_ ?_ ?_) ?_
    · skip
      simp [subHeap, renObj, renCell, renLeaf, pos, hWo, Wo.ss, cSi3, cSi]
    · simp [renT, ren, renCell, renLeaf]
    · skip
      simp [merge, mergeObj, callId, backF, backId, renObj, renCell, renLeaf, pos, List.range_succ, hWo, Wo.ss, cSi3, cSi, cE, cAct]
    simp only [go_sem, Nat.reduceLT, Nat.reduceAdd, Nat.reduceEqDiff, Nat.reduceLeDiff, Nat.reduceSub, Nat.reduceMul, Int.reduceEq, reduceIte, hWo, Int.ofNat_zero, Int.natCast_one, Int.cast_ofNat_Int, Int.reduceLT, Int.reduceLE, Int.reduceToNat, Nat.reduceLT, Int.toNat_zero, Int.natCast_zero, Int.le_refl, Int.lt_irrefl, Int.reduceAdd, frz, false_or, or_true]
    repeat refine ⟨rfl, ?_⟩
    try simp only [go_sem, Nat.reduceLT, Nat.reduceAdd, Nat.reduceEqDiff, Nat.reduceLeDiff, Nat.reduceSub, Nat.reduceMul, Int.reduceEq, reduceIte, Int.ofNat_zero, Int.natCast_one, Int.cast_ofNat_Int, Int.reduceLT, Int.reduceLE, Int.reduceToNat, Nat.reduceLT, Int.toNat_zero, Int.natCast_zero, Int.le_refl, Int.lt_irrefl, Int.reduceAdd, frz, false_or, or_true]
    refine ret_keep [] (by simp) (by simp) (by simp [hx, hWo]) ?_ ?_
    · simp [go_sem, Nat.reduceLT, Nat.reduceAdd, Nat.reduceEqDiff, Nat.reduceLeDiff, Nat.reduceSub, Nat.reduceMul, Int.reduceEq, reduceIte, L35, R35, hx, pos, hWo]
    · simp [subHeap, renObj, renCell, renLeaf, hx, pos, go_sem, Nat.reduceLT, Nat.reduceAdd, Nat.reduceEqDiff, Nat.reduceLeDiff, Nat.reduceSub, Nat.reduceMul, Int.reduceEq, reduceIte, hWo, List.range_succ, Wo.ss, cSi3, cSi]
set_option maxRecDepth 10000 in
set_option maxHeartbeats 4000000 in
theorem do4_meets (vs vy va vb : Nat) (w : Wo) (h : WoOk w) (i n c : Int) (t : ByteArray) (hi : i = 0 ∨ i = 1) :
    ∃ va' vb', Meets Tryz.prog 35 [.ptr 0 0, .agg (cAct 4 i n c t)] (hWo vs vy va vb w) (.int .i64 (doErr0 w 4 i n c t)) (hWo vs vy va' vb' (if doErr0 w 4 i n c t = 0 then doW w 4 i n c t else w)) := by
  have la := h.la
  have lb := h.lb
  rcases hi with rfl | rfl
  · skip
    by_cases hn0 : n < 0
    · refine ⟨va, vb, ?_⟩
      rw [doErr0_n (by decide) (by decide) (.inl hn0), if_neg (by decide)]
      refine Meets.of_parts Tryz.func35 Tryz.ntmps35 low35 res35 (by simp) fun x hx => ?_
      simp only [LC.flat, L35, R35, List.cons_append, List.nil_append]
      refine WL_join 1 [0, 3] 6 (fun st => st = ⟨mkE .top [(3, .rptr (cAct 4 0 n c t)), (0, .ptr 0 0), (3, .ptr 5 0)], hWo vs vy va vb w ++ [.gone]⟩) (by simp [hx, hWo]) (by simp) ?_ ?_
      · simp only [go_sem, Nat.reduceLT, Nat.reduceAdd, Nat.reduceEqDiff, Nat.reduceLeDiff, Nat.reduceSub, Nat.reduceMul, Int.reduceEq, reduceIte, L35, R35, List.take_succ_cons, List.take_zero, cAct]
        rw [join_normal]
        refine ⟨by simp [hWo], _, ?_, rfl⟩
        have e := weak_rptr (x := x) (nt := 114) (st := ⟨mkE .top [(0, .ptr 0 0), (3, .ptr 5 0)], hWo vs vy va vb w ++ [.box (cAct 4 0 n c t)]⟩) (cells' := cAct 4 0 n c t) (H' := hWo vs vy va vb w ++ [.gone]) 3 5 rfl rfl (by simp [cAct, frz]) (by simp [cAct, PV.isPure]) rfl
        rw [put_mk] at e
        refine weak_eqD ?_ e
        simp [trim_mk, go_sem, Nat.reduceLT, Nat.reduceAdd, Nat.reduceEqDiff, Nat.reduceLeDiff, Nat.reduceSub, Nat.reduceMul, Int.reduceEq, reduceIte, subHeap, renObj, renCell, renLeaf, pos, List.range_succ, hWo, Wo.ss, cSi3, cSi, cAct]
      rintro st rfl
      refine WL_walk ?_
      simp only [go_sem, Nat.reduceLT, Nat.reduceAdd, Nat.reduceEqDiff, Nat.reduceLeDiff, Nat.reduceSub, Nat.reduceMul, Int.reduceEq, reduceIte, L35, R35, List.drop_succ_cons, List.drop_zero, hWo, Wo.ss, cSi3, cSi, cE, cAct, Int.ofNat_zero, Int.natCast_one, Int.cast_ofNat_Int, Int.reduceLT, Int.reduceLE, Int.reduceToNat, Nat.reduceLT, Int.toNat_zero, Int.natCast_zero, Int.le_refl, Int.lt_irrefl, Int.reduceAdd, frz, false_or, or_true, List.map_cons, List.map_nil, List.cons_append, List.nil_append, hn0]
      repeat refine ⟨rfl, ?_⟩
      refine ret_keep [] (by simp) (by simp) (by simp [hx, hWo]) ?_ ?_
      · simp [go_sem, Nat.reduceLT, Nat.reduceAdd, Nat.reduceEqDiff, Nat.reduceLeDiff, Nat.reduceSub, Nat.reduceMul, Int.reduceEq, reduceIte, L35, R35, hx, pos, hWo]
      · simp [subHeap, renObj, renCell, renLeaf, hx, pos, go_sem, Nat.reduceLT, Nat.reduceAdd, Nat.reduceEqDiff, Nat.reduceLeDiff, Nat.reduceSub, Nat.reduceMul, Int.reduceEq, reduceIte, hWo, List.range_succ, Wo.ss, cSi3, cSi]
    by_cases hn1 : (w.a.length : Int) ≤ n
    · refine ⟨va, vb, ?_⟩
      rw [doErr0_n (by decide) (by decide) (.inr (by show (w.a.length : Int) ≤ n; exact hn1)), if_neg (by decide)]
      refine Meets.of_parts Tryz.func35 Tryz.ntmps35 low35 res35 (by simp) fun x hx => ?_
      simp only [LC.flat, L35, R35, List.cons_append, List.nil_append]
      refine WL_join 1 [0, 3] 6 (fun st => st = ⟨mkE .top [(3, .rptr (cAct 4 0 n c t)), (0, .ptr 0 0), (3, .ptr 5 0)], hWo vs vy va vb w ++ [.gone]⟩) (by simp [hx, hWo]) (by simp) ?_ ?_
      · simp only [go_sem, Nat.reduceLT, Nat.reduceAdd, Nat.reduceEqDiff, Nat.reduceLeDiff, Nat.reduceSub, Nat.reduceMul, Int.reduceEq, reduceIte, L35, R35, List.take_succ_cons, List.take_zero, cAct]
        rw [join_normal]
        refine ⟨by simp [hWo], _, ?_, rfl⟩
        have e := weak_rptr (x := x) (nt := 114) (st := ⟨mkE .top [(0, .ptr 0 0), (3, .ptr 5 0)], hWo vs vy va vb w ++ [.box (cAct 4 0 n c t)]⟩) (cells' := cAct 4 0 n c t) (H' := hWo vs vy va vb w ++ [.gone]) 3 5 rfl rfl (by simp [cAct, frz]) (by simp [cAct, PV.isPure]) rfl
        rw [put_mk] at e
        refine weak_eqD ?_ e
        simp [trim_mk, go_sem, Nat.reduceLT, Nat.reduceAdd, Nat.reduceEqDiff, Nat.reduceLeDiff, Nat.reduceSub, Nat.reduceMul, Int.reduceEq, reduceIte, subHeap, renObj, renCell, renLeaf, pos, List.range_succ, hWo, Wo.ss, cSi3, cSi, cAct]
      rintro st rfl
      refine WL_walk ?_
      simp only [go_sem, Nat.reduceLT, Nat.reduceAdd, Nat.reduceEqDiff, Nat.reduceLeDiff, Nat.reduceSub, Nat.reduceMul, Int.reduceEq, reduceIte, L35, R35, List.drop_succ_cons, List.drop_zero, hWo, Wo.ss, cSi3, cSi, cE, cAct, Int.ofNat_zero, Int.natCast_one, Int.cast_ofNat_Int, Int.reduceLT, Int.reduceLE, Int.reduceToNat, Nat.reduceLT, Int.toNat_zero, Int.natCast_zero, Int.le_refl, Int.lt_irrefl, Int.reduceAdd, frz, false_or, or_true, List.map_cons, List.map_nil, List.cons_append, List.nil_append, hn0]
      simp only [go_sem, Nat.reduceLT, Nat.reduceAdd, Nat.reduceEqDiff, Nat.reduceLeDiff, Nat.reduceSub, Nat.reduceMul, Int.reduceEq, reduceIte, hn1, List.length_map]
      repeat refine ⟨rfl, ?_⟩
      refine ret_keep [] (by simp) (by simp) (by simp [hx, hWo]) ?_ ?_
      · simp [go_sem, Nat.reduceLT, Nat.reduceAdd, Nat.reduceEqDiff, Nat.reduceLeDiff, Nat.reduceSub, Nat.reduceMul, Int.reduceEq, reduceIte, L35, R35, hx, pos, hWo]
      · simp [subHeap, renObj, renCell, renLeaf, hx, pos, go_sem, Nat.reduceLT, Nat.reduceAdd, Nat.reduceEqDiff, Nat.reduceLeDiff, Nat.reduceSub, Nat.reduceMul, Int.reduceEq, reduceIte, hWo, List.range_succ, Wo.ss, cSi3, cSi]
    obtain ⟨q, rfl⟩ : ∃ q : Nat, n = q := ⟨n.toNat, by omega⟩
    have hq : q < w.a.length := by omega
    have hnn : ¬ ((q : Int) < 0 ∨ ((w.way 0).length : Int) ≤ (q : Int)) := by show ¬ ((q : Int) < 0 ∨ (w.a.length : Int) ≤ (q : Int)); omega
    have hce := h.ca _ (nthM hq)
    have hnN : ¬ w.a.length ≤ q := by omega
    have hgq : w.a[q]? = some (nth w.a q) := nth_get? _ _ hq
    have hls := (check_fit hce).2
    obtain ⟨va', vb', hsd⟩ := send_meets vs vy va vb w 0 (nth w.a q) (by omega) (by show w.a.length ≤ 30; omega) hls
    have hd : doErr0 w 4 0 q c t = if w.a.length = 30 then 2 else 0 := by rw [doErr0, if_neg (by decide), if_neg (by decide), if_neg hnn, if_neg (by decide), if_neg (by decide)]; rfl
    have hdW : doW w 4 0 q c t = w.setY 0 ((w.way 0) ++ [nth w.a q]) := by rw [doW, if_neg (by decide), if_neg (by decide), if_neg (by decide), if_neg (by decide), Int.toNat_natCast]; rfl
    refine ⟨va', vb', ?_⟩
    by_cases h30 : w.a.length = 30
    · have hs : sendW w 0 (nth w.a q) = w := by rw [sendW, if_pos (show (w.way 0).length = 30 from h30)]
      have hb : (!decide ((w.way 0).length = 30)) = false := by show (!decide (w.a.length = 30)) = false; simp [h30]
      rw [hs, hb] at hsd
      rw [hd, if_pos h30, if_neg (by decide)]
      refine Meets.of_parts Tryz.func35 Tryz.ntmps35 low35 res35 (by simp) fun x hx => ?_
      simp only [LC.flat, L35, R35, List.cons_append, List.nil_append]
      refine WL_join 1 [0, 3] 6 (fun st => st = ⟨mkE .top [(3, .rptr (cAct 4 0 (q : Int) c t)), (0, .ptr 0 0), (3, .ptr 5 0)], hWo vs vy va vb w ++ [.gone]⟩) (by simp [hx, hWo]) (by simp) ?_ ?_
      · simp only [go_sem, Nat.reduceLT, Nat.reduceAdd, Nat.reduceEqDiff, Nat.reduceLeDiff, Nat.reduceSub, Nat.reduceMul, Int.reduceEq, reduceIte, L35, R35, List.take_succ_cons, List.take_zero, cAct]
        rw [join_normal]
        refine ⟨by simp [hWo], _, ?_, rfl⟩
        have e := weak_rptr (x := x) (nt := 114) (st := ⟨mkE .top [(0, .ptr 0 0), (3, .ptr 5 0)], hWo vs vy va vb w ++ [.box (cAct 4 0 (q : Int) c t)]⟩) (cells' := cAct 4 0 (q : Int) c t) (H' := hWo vs vy va vb w ++ [.gone]) 3 5 rfl rfl (by simp [cAct, frz]) (by simp [cAct, PV.isPure]) rfl
        rw [put_mk] at e
        refine weak_eqD ?_ e
        simp [trim_mk, go_sem, Nat.reduceLT, Nat.reduceAdd, Nat.reduceEqDiff, Nat.reduceLeDiff, Nat.reduceSub, Nat.reduceMul, Int.reduceEq, reduceIte, subHeap, renObj, renCell, renLeaf, pos, List.range_succ, hWo, Wo.ss, cSi3, cSi, cAct]
      rintro st rfl
      refine WL_walk ?_
      simp only [go_sem, Nat.reduceLT, Nat.reduceAdd, Nat.reduceEqDiff, Nat.reduceLeDiff, Nat.reduceSub, Nat.reduceMul, Int.reduceEq, reduceIte, L35, R35, List.drop_succ_cons, List.drop_zero, hWo, Wo.ss, cSi3, cSi, cE, cAct, Int.ofNat_zero, Int.natCast_one, Int.cast_ofNat_Int, Int.reduceLT, Int.reduceLE, Int.reduceToNat, Nat.reduceLT, Int.toNat_zero, Int.natCast_zero, Int.le_refl, Int.lt_irrefl, Int.reduceAdd, frz, false_or, or_true, List.map_cons, List.map_nil, List.cons_append, List.nil_append, hn0]
      simp only [go_sem, Nat.reduceLT, Nat.reduceAdd, Nat.reduceEqDiff, Nat.reduceLeDiff, Nat.reduceSub, Nat.reduceMul, Int.reduceEq, reduceIte, hn0, hnN, List.length_map, Int.ofNat_zero, Int.natCast_one, Int.cast_ofNat_Int, Int.reduceLT, Int.reduceLE, Int.reduceToNat, Nat.reduceLT, Int.toNat_zero, Int.natCast_zero, Int.le_refl, Int.lt_irrefl, Int.reduceAdd, frz, false_or, or_true]
      repeat refine ⟨rfl, ?_⟩
      try simp only [go_sem, Nat.reduceLT, Nat.reduceAdd, Nat.reduceEqDiff, Nat.reduceLeDiff, Nat.reduceSub, Nat.reduceMul, Int.reduceEq, reduceIte, Int.ofNat_zero, Int.natCast_one, Int.cast_ofNat_Int, Int.reduceLT, Int.reduceLE, Int.reduceToNat, Nat.reduceLT, Int.toNat_zero, Int.natCast_zero, Int.le_refl, Int.lt_irrefl, Int.reduceAdd, frz, false_or, or_true, hq, hgq, cE]
      refine ops_call (.heapE [0, 1, 2, 3, 4] (r' := .bool false) (H' := hWo vs vy va' vb' w ++ [.gone]) hsd (by simp) (by simp) (by simp [go_sem, Nat.reduceLT, Nat.reduceAdd, Nat.reduceEqDiff, Nat.reduceLeDiff, Nat.reduceSub, Nat.reduceMul, Int.reduceEq, reduceIte, pos, cE]) ?_ ?_ ?_) ?_
      · skip
        simp [subHeap, renObj, renCell, renLeaf, pos, hWo, Wo.ss, cSi3, cSi]
      · simp [renT, ren, renCell, renLeaf]
      · skip
        simp [merge, mergeObj, callId, backF, backId, renObj, renCell, renLeaf, pos, List.range_succ, hWo, Wo.ss, cSi3, cSi, cE, cAct]
      simp only [go_sem, Nat.reduceLT, Nat.reduceAdd, Nat.reduceEqDiff, Nat.reduceLeDiff, Nat.reduceSub, Nat.reduceMul, Int.reduceEq, reduceIte, hWo, Int.ofNat_zero, Int.natCast_one, Int.cast_ofNat_Int, Int.reduceLT, Int.reduceLE, Int.reduceToNat, Nat.reduceLT, Int.toNat_zero, Int.natCast_zero, Int.le_refl, Int.lt_irrefl, Int.reduceAdd, frz, false_or, or_true]
      repeat refine ⟨rfl, ?_⟩
      try simp only [go_sem, Nat.reduceLT, Nat.reduceAdd, Nat.reduceEqDiff, Nat.reduceLeDiff, Nat.reduceSub, Nat.reduceMul, Int.reduceEq, reduceIte, Int.ofNat_zero, Int.natCast_one, Int.cast_ofNat_Int, Int.reduceLT, Int.reduceLE, Int.reduceToNat, Nat.reduceLT, Int.toNat_zero, Int.natCast_zero, Int.le_refl, Int.lt_irrefl, Int.reduceAdd, frz, false_or, or_true]
      refine ret_keep [] (by simp) (by simp) (by simp [hx, hWo]) ?_ ?_
      · simp [go_sem, Nat.reduceLT, Nat.reduceAdd, Nat.reduceEqDiff, Nat.reduceLeDiff, Nat.reduceSub, Nat.reduceMul, Int.reduceEq, reduceIte, L35, R35, hx, pos, hWo]
      · simp [subHeap, renObj, renCell, renLeaf, hx, pos, go_sem, Nat.reduceLT, Nat.reduceAdd, Nat.reduceEqDiff, Nat.reduceLeDiff, Nat.reduceSub, Nat.reduceMul, Int.reduceEq, reduceIte, hWo, List.range_succ, Wo.ss, cSi3, cSi]
    · have hs : sendW w 0 (nth w.a q) = w.setY 0 ((w.way 0) ++ [nth w.a q]) := by rw [sendW, if_neg (show ¬ (w.way 0).length = 30 from h30)]
      have hb : (!decide ((w.way 0).length = 30)) = true := by show (!decide (w.a.length = 30)) = true; simp [h30]
      rw [hs, hb] at hsd
      rw [hd, if_neg h30, if_pos rfl, hdW]
      generalize w.setY 0 ((w.way 0) ++ [nth w.a q]) = w2 at *
      refine Meets.of_parts Tryz.func35 Tryz.ntmps35 low35 res35 (by simp) fun x hx => ?_
      simp only [LC.flat, L35, R35, List.cons_append, List.nil_append]
      refine WL_join 1 [0, 3] 6 (fun st => st = ⟨mkE .top [(3, .rptr (cAct 4 0 (q : Int) c t)), (0, .ptr 0 0), (3, .ptr 5 0)], hWo vs vy va vb w ++ [.gone]⟩) (by simp [hx, hWo]) (by simp) ?_ ?_
      · simp only [go_sem, Nat.reduceLT, Nat.reduceAdd, Nat.reduceEqDiff, Nat.reduceLeDiff, Nat.reduceSub, Nat.reduceMul, Int.reduceEq, reduceIte, L35, R35, List.take_succ_cons, List.take_zero, cAct]
        rw [join_normal]
        refine ⟨by simp [hWo], _, ?_, rfl⟩
        have e := weak_rptr (x := x) (nt := 114) (st := ⟨mkE .top [(0, .ptr 0 0), (3, .ptr 5 0)], hWo vs vy va vb w ++ [.box (cAct 4 0 (q : Int) c t)]⟩) (cells' := cAct 4 0 (q : Int) c t) (H' := hWo vs vy va vb w ++ [.gone]) 3 5 rfl rfl (by simp [cAct, frz]) (by simp [cAct, PV.isPure]) rfl
        rw [put_mk] at e
        refine weak_eqD ?_ e
        simp [trim_mk, go_sem, Nat.reduceLT, Nat.reduceAdd, Nat.reduceEqDiff, Nat.reduceLeDiff, Nat.reduceSub, Nat.reduceMul, Int.reduceEq, reduceIte, subHeap, renObj, renCell, renLeaf, pos, List.range_succ, hWo, Wo.ss, cSi3, cSi, cAct]
      rintro st rfl
      refine WL_walk ?_
      simp only [go_sem, Nat.reduceLT, Nat.reduceAdd, Nat.reduceEqDiff, Nat.reduceLeDiff, Nat.reduceSub, Nat.reduceMul, Int.reduceEq, reduceIte, L35, R35, List.drop_succ_cons, List.drop_zero, hWo, Wo.ss, cSi3, cSi, cE, cAct, Int.ofNat_zero, Int.natCast_one, Int.cast_ofNat_Int, Int.reduceLT, Int.reduceLE, Int.reduceToNat, Nat.reduceLT, Int.toNat_zero, Int.natCast_zero, Int.le_refl, Int.lt_irrefl, Int.reduceAdd, frz, false_or, or_true, List.map_cons, List.map_nil, List.cons_append, List.nil_append, hn0]
      simp only [go_sem, Nat.reduceLT, Nat.reduceAdd, Nat.reduceEqDiff, Nat.reduceLeDiff, Nat.reduceSub, Nat.reduceMul, Int.reduceEq, reduceIte, hn0, hnN, List.length_map, Int.ofNat_zero, Int.natCast_one, Int.cast_ofNat_Int, Int.reduceLT, Int.reduceLE, Int.reduceToNat, Nat.reduceLT, Int.toNat_zero, Int.natCast_zero, Int.le_refl, Int.lt_irrefl, Int.reduceAdd, frz, false_or, or_true]
      repeat refine ⟨rfl, ?_⟩
      try simp only [go_sem, Nat.reduceLT, Nat.reduceAdd, Nat.reduceEqDiff, Nat.reduceLeDiff, Nat.reduceSub, Nat.reduceMul, Int.reduceEq, reduceIte, Int.ofNat_zero, Int.natCast_one, Int.cast_ofNat_Int, Int.reduceLT, Int.reduceLE, Int.reduceToNat, Nat.reduceLT, Int.toNat_zero, Int.natCast_zero, Int.le_refl, Int.lt_irrefl, Int.reduceAdd, frz, false_or, or_true, hq, hgq, cE]
      refine ops_call (.heapE [0, 1, 2, 3, 4] (r' := .bool true) (H' := hWo vs vy va' vb' w2 ++ [.gone]) hsd (by simp) (by simp) (by simp [go_sem, Nat.reduceLT, Nat.reduceAdd, Nat.reduceEqDiff, Nat.reduceLeDiff, Nat.reduceSub, Nat.reduceMul, Int.reduceEq, reduceIte, pos, cE]) ?_ ?_ ?_) ?_
      · skip
        simp [subHeap, renObj, renCell, renLeaf, pos, hWo, Wo.ss, cSi3, cSi]
      · simp [renT, ren, renCell, renLeaf]
      · skip
        simp [merge, mergeObj, callId, backF, backId, renObj, renCell, renLeaf, pos, List.range_succ, hWo, Wo.ss, cSi3, cSi, cE, cAct]
      simp only [go_sem, Nat.reduceLT, Nat.reduceAdd, Nat.reduceEqDiff, Nat.reduceLeDiff, Nat.reduceSub, Nat.reduceMul, Int.reduceEq, reduceIte, hWo, Int.ofNat_zero, Int.natCast_one, Int.cast_ofNat_Int, Int.reduceLT, Int.reduceLE, Int.reduceToNat, Nat.reduceLT, Int.toNat_zero, Int.natCast_zero, Int.le_refl, Int.lt_irrefl, Int.reduceAdd, frz, false_or, or_true]
      repeat refine ⟨rfl, ?_⟩
      try simp only [go_sem, Nat.reduceLT, Nat.reduceAdd, Nat.reduceEqDiff, Nat.reduceLeDiff, Nat.reduceSub, Nat.reduceMul, Int.reduceEq, reduceIte, Int.ofNat_zero, Int.natCast_one, Int.cast_ofNat_Int, Int.reduceLT, Int.reduceLE, Int.reduceToNat, Nat.reduceLT, Int.toNat_zero, Int.natCast_zero, Int.le_refl, Int.lt_irrefl, Int.reduceAdd, frz, false_or, or_true]
      refine end_keep [] (by simp) (by simp) (by simp [hx, hWo]) ?_ ?_
      · simp [go_sem, Nat.reduceLT, Nat.reduceAdd, Nat.reduceEqDiff, Nat.reduceLeDiff, Nat.reduceSub, Nat.reduceMul, Int.reduceEq, reduceIte, L35, R35, hx, pos, hWo]
      · simp [subHeap, renObj, renCell, renLeaf, hx, pos, go_sem, Nat.reduceLT, Nat.reduceAdd, Nat.reduceEqDiff, Nat.reduceLeDiff, Nat.reduceSub, Nat.reduceMul, Int.reduceEq, reduceIte, hWo, List.range_succ, Wo.ss, cSi3, cSi]
  · skip
    by_cases hn0 : n < 0
    · refine ⟨va, vb, ?_⟩
      rw [doErr0_n (by decide) (by decide) (.inl hn0), if_neg (by decide)]
      refine Meets.of_parts Tryz.func35 Tryz.ntmps35 low35 res35 (by simp) fun x hx => ?_
      simp only [LC.flat, L35, R35, List.cons_append, List.nil_append]
      refine WL_join 1 [0, 3] 6 (fun st => st = ⟨mkE .top [(3, .rptr (cAct 4 1 n c t)), (0, .ptr 0 0), (3, .ptr 5 0)], hWo vs vy va vb w ++ [.gone]⟩) (by simp [hx, hWo]) (by simp) ?_ ?_
      · simp only [go_sem, Nat.reduceLT, Nat.reduceAdd, Nat.reduceEqDiff, Nat.reduceLeDiff, Nat.reduceSub, Nat.reduceMul, Int.reduceEq, reduceIte, L35, R35, List.take_succ_cons, List.take_zero, cAct]
        rw [join_normal]
        refine ⟨by simp [hWo], _, ?_, rfl⟩
        have e := weak_rptr (x := x) (nt := 114) (st := ⟨mkE .top [(0, .ptr 0 0), (3, .ptr 5 0)], hWo vs vy va vb w ++ [.box (cAct 4 1 n c t)]⟩) (cells' := cAct 4 1 n c t) (H' := hWo vs vy va vb w ++ [.gone]) 3 5 rfl rfl (by simp [cAct, frz]) (by simp [cAct, PV.isPure]) rfl
        rw [put_mk] at e
        refine weak_eqD ?_ e
        simp [trim_mk, go_sem, Nat.reduceLT, Nat.reduceAdd, Nat.reduceEqDiff, Nat.reduceLeDiff, Nat.reduceSub, Nat.reduceMul, Int.reduceEq, reduceIte, subHeap, renObj, renCell, renLeaf, pos, List.range_succ, hWo, Wo.ss, cSi3, cSi, cAct]
      rintro st rfl
      refine WL_walk ?_
      simp only [go_sem, Nat.reduceLT, Nat.reduceAdd, Nat.reduceEqDiff, Nat.reduceLeDiff, Nat.reduceSub, Nat.reduceMul, Int.reduceEq, reduceIte, L35, R35, List.drop_succ_cons, List.drop_zero, hWo, Wo.ss, cSi3, cSi, cE, cAct, Int.ofNat_zero, Int.natCast_one, Int.cast_ofNat_Int, Int.reduceLT, Int.reduceLE, Int.reduceToNat, Nat.reduceLT, Int.toNat_zero, Int.natCast_zero, Int.le_refl, Int.lt_irrefl, Int.reduceAdd, frz, false_or, or_true, List.map_cons, List.map_nil, List.cons_append, List.nil_append, hn0]
      repeat refine ⟨rfl, ?_⟩
      refine ret_keep [] (by simp) (by simp) (by simp [hx, hWo]) ?_ ?_
      · simp [go_sem, Nat.reduceLT, Nat.reduceAdd, Nat.reduceEqDiff, Nat.reduceLeDiff, Nat.reduceSub, Nat.reduceMul, Int.reduceEq, reduceIte, L35, R35, hx, pos, hWo]
      · simp [subHeap, renObj, renCell, renLeaf, hx, pos, go_sem, Nat.reduceLT, Nat.reduceAdd, Nat.reduceEqDiff, Nat.reduceLeDiff, Nat.reduceSub, Nat.reduceMul, Int.reduceEq, reduceIte, hWo, List.range_succ, Wo.ss, cSi3, cSi]
    by_cases hn1 : (w.b.length : Int) ≤ n
    · refine ⟨va, vb, ?_⟩
      rw [doErr0_n (by decide) (by decide) (.inr (by show (w.b.length : Int) ≤ n; exact hn1)), if_neg (by decide)]
      refine Meets.of_parts Tryz.func35 Tryz.ntmps35 low35 res35 (by simp) fun x hx => ?_
      simp only [LC.flat, L35, R35, List.cons_append, List.nil_append]
      refine WL_join 1 [0, 3] 6 (fun st => st = ⟨mkE .top [(3, .rptr (cAct 4 1 n c t)), (0, .ptr 0 0), (3, .ptr 5 0)], hWo vs vy va vb w ++ [.gone]⟩) (by simp [hx, hWo]) (by simp) ?_ ?_
      · simp only [go_sem, Nat.reduceLT, Nat.reduceAdd, Nat.reduceEqDiff, Nat.reduceLeDiff, Nat.reduceSub, Nat.reduceMul, Int.reduceEq, reduceIte, L35, R35, List.take_succ_cons, List.take_zero, cAct]
        rw [join_normal]
        refine ⟨by simp [hWo], _, ?_, rfl⟩
        have e := weak_rptr (x := x) (nt := 114) (st := ⟨mkE .top [(0, .ptr 0 0), (3, .ptr 5 0)], hWo vs vy va vb w ++ [.box (cAct 4 1 n c t)]⟩) (cells' := cAct 4 1 n c t) (H' := hWo vs vy va vb w ++ [.gone]) 3 5 rfl rfl (by simp [cAct, frz]) (by simp [cAct, PV.isPure]) rfl
        rw [put_mk] at e
        refine weak_eqD ?_ e
        simp [trim_mk, go_sem, Nat.reduceLT, Nat.reduceAdd, Nat.reduceEqDiff, Nat.reduceLeDiff, Nat.reduceSub, Nat.reduceMul, Int.reduceEq, reduceIte, subHeap, renObj, renCell, renLeaf, pos, List.range_succ, hWo, Wo.ss, cSi3, cSi, cAct]
      rintro st rfl
      refine WL_walk ?_
      simp only [go_sem, Nat.reduceLT, Nat.reduceAdd, Nat.reduceEqDiff, Nat.reduceLeDiff, Nat.reduceSub, Nat.reduceMul, Int.reduceEq, reduceIte, L35, R35, List.drop_succ_cons, List.drop_zero, hWo, Wo.ss, cSi3, cSi, cE, cAct, Int.ofNat_zero, Int.natCast_one, Int.cast_ofNat_Int, Int.reduceLT, Int.reduceLE, Int.reduceToNat, Nat.reduceLT, Int.toNat_zero, Int.natCast_zero, Int.le_refl, Int.lt_irrefl, Int.reduceAdd, frz, false_or, or_true, List.map_cons, List.map_nil, List.cons_append, List.nil_append, hn0]
      simp only [go_sem, Nat.reduceLT, Nat.reduceAdd, Nat.reduceEqDiff, Nat.reduceLeDiff, Nat.reduceSub, Nat.reduceMul, Int.reduceEq, reduceIte, hn1, List.length_map]
      repeat refine ⟨rfl, ?_⟩
      refine ret_keep [] (by simp) (by simp) (by simp [hx, hWo]) ?_ ?_
      · simp [go_sem, Nat.reduceLT, Nat.reduceAdd, Nat.reduceEqDiff, Nat.reduceLeDiff, Nat.reduceSub, Nat.reduceMul, Int.reduceEq, reduceIte, L35, R35, hx, pos, hWo]
      · simp [subHeap, renObj, renCell, renLeaf, hx, pos, go_sem, Nat.reduceLT, Nat.reduceAdd, Nat.reduceEqDiff, Nat.reduceLeDiff, Nat.reduceSub, Nat.reduceMul, Int.reduceEq, reduceIte, hWo, List.range_succ, Wo.ss, cSi3, cSi]
    obtain ⟨q, rfl⟩ : ∃ q : Nat, n = q := ⟨n.toNat, by omega⟩
    have hq : q < w.b.length := by omega
    have hnn : ¬ ((q : Int) < 0 ∨ ((w.way 1).length : Int) ≤ (q : Int)) := by show ¬ ((q : Int) < 0 ∨ (w.b.length : Int) ≤ (q : Int)); omega
    have hce := h.cb _ (nthM hq)
    have hnN : ¬ w.b.length ≤ q := by omega
    have hgq : w.b[q]? = some (nth w.b q) := nth_get? _ _ hq
    have hls := (check_fit hce).2
    obtain ⟨va', vb', hsd⟩ := send_meets vs vy va vb w 1 (nth w.b q) (by omega) (by show w.b.length ≤ 30; omega) hls
    have hd : doErr0 w 4 1 q c t = if w.b.length = 30 then 2 else 0 := by rw [doErr0, if_neg (by decide), if_neg (by decide), if_neg hnn, if_neg (by decide), if_neg (by decide)]; rfl
    have hdW : doW w 4 1 q c t = w.setY 1 ((w.way 1) ++ [nth w.b q]) := by rw [doW, if_neg (by decide), if_neg (by decide), if_neg (by decide), if_neg (by decide), Int.toNat_natCast]; rfl
    refine ⟨va', vb', ?_⟩
    by_cases h30 : w.b.length = 30
    · have hs : sendW w 1 (nth w.b q) = w := by rw [sendW, if_pos (show (w.way 1).length = 30 from h30)]
      have hb : (!decide ((w.way 1).length = 30)) = false := by show (!decide (w.b.length = 30)) = false; simp [h30]
      rw [hs, hb] at hsd
      rw [hd, if_pos h30, if_neg (by decide)]
      refine Meets.of_parts Tryz.func35 Tryz.ntmps35 low35 res35 (by simp) fun x hx => ?_
      simp only [LC.flat, L35, R35, List.cons_append, List.nil_append]
      refine WL_join 1 [0, 3] 6 (fun st => st = ⟨mkE .top [(3, .rptr (cAct 4 1 (q : Int) c t)), (0, .ptr 0 0), (3, .ptr 5 0)], hWo vs vy va vb w ++ [.gone]⟩) (by simp [hx, hWo]) (by simp) ?_ ?_
      · simp only [go_sem, Nat.reduceLT, Nat.reduceAdd, Nat.reduceEqDiff, Nat.reduceLeDiff, Nat.reduceSub, Nat.reduceMul, Int.reduceEq, reduceIte, L35, R35, List.take_succ_cons, List.take_zero, cAct]
        rw [join_normal]
        refine ⟨by simp [hWo], _, ?_, rfl⟩
        have e := weak_rptr (x := x) (nt := 114) (st := ⟨mkE .top [(0, .ptr 0 0), (3, .ptr 5 0)], hWo vs vy va vb w ++ [.box (cAct 4 1 (q : Int) c t)]⟩) (cells' := cAct 4 1 (q : Int) c t) (H' := hWo vs vy va vb w ++ [.gone]) 3 5 rfl rfl (by simp [cAct, frz]) (by simp [cAct, PV.isPure]) rfl
        rw [put_mk] at e
        refine weak_eqD ?_ e
        simp [trim_mk, go_sem, Nat.reduceLT, Nat.reduceAdd, Nat.reduceEqDiff, Nat.reduceLeDiff, Nat.reduceSub, Nat.reduceMul, Int.reduceEq, reduceIte, subHeap, renObj, renCell, renLeaf, pos, List.range_succ, hWo, Wo.ss, cSi3, cSi, cAct]
      rintro st rfl
      refine WL_walk ?_
      simp only [go_sem, Nat.reduceLT, Nat.reduceAdd, Nat.reduceEqDiff, Nat.reduceLeDiff, Nat.reduceSub, Nat.reduceMul, Int.reduceEq, reduceIte, L35, R35, List.drop_succ_cons, List.drop_zero, hWo, Wo.ss, cSi3, cSi, cE, cAct, Int.ofNat_zero, Int.natCast_one, Int.cast_ofNat_Int, Int.reduceLT, Int.reduceLE, Int.reduceToNat, Nat.reduceLT, Int.toNat_zero, Int.natCast_zero, Int.le_refl, Int.lt_irrefl, Int.reduceAdd, frz, false_or, or_true, List.map_cons, List.map_nil, List.cons_append, List.nil_append, hn0]
      simp only [go_sem, Nat.reduceLT, Nat.reduceAdd, Nat.reduceEqDiff, Nat.reduceLeDiff, Nat.reduceSub, Nat.reduceMul, Int.reduceEq, reduceIte, hn0, hnN, List.length_map, Int.ofNat_zero, Int.natCast_one, Int.cast_ofNat_Int, Int.reduceLT, Int.reduceLE, Int.reduceToNat, Nat.reduceLT, Int.toNat_zero, Int.natCast_zero, Int.le_refl, Int.lt_irrefl, Int.reduceAdd, frz, false_or, or_true]
      repeat refine ⟨rfl, ?_⟩
      try simp only [go_sem, Nat.reduceLT, Nat.reduceAdd, Nat.reduceEqDiff, Nat.reduceLeDiff, Nat.reduceSub, Nat.reduceMul, Int.reduceEq, reduceIte, Int.ofNat_zero, Int.natCast_one, Int.cast_ofNat_Int, Int.reduceLT, Int.reduceLE, Int.reduceToNat, Nat.reduceLT, Int.toNat_zero, Int.natCast_zero, Int.le_refl, Int.lt_irrefl, Int.reduceAdd, frz, false_or, or_true, hq, hgq, cE]
      refine ops_call (.heapE [0, 1, 2, 3, 4] (r' := .bool false) (H' := hWo vs vy va' vb' w ++ [.gone]) hsd (by simp) (by simp) (by simp [go_sem, Nat.reduceLT, Nat.reduceAdd, Nat.reduceEqDiff, Nat.reduceLeDiff, Nat.reduceSub, Nat.reduceMul, Int.reduceEq, reduceIte, pos, cE]) ?_ ?_ ?_) ?_
      · skip
        simp [subHeap, renObj, renCell, renLeaf, pos, hWo, Wo.ss, cSi3, cSi]
      · simp [renT, ren, renCell, renLeaf]
      · skip
        simp [merge, mergeObj, callId, backF, backId, renObj, renCell, renLeaf, pos, List.range_succ, hWo, Wo.ss, cSi3, cSi, cE, cAct]
      simp only [go_sem, Nat.reduceLT, Nat.reduceAdd, Nat.reduceEqDiff, Nat.reduceLeDiff, Nat.reduceSub, Nat.reduceMul, Int.reduceEq, reduceIte, hWo, Int.ofNat_zero, Int.natCast_one, Int.cast_ofNat_Int, Int.reduceLT, Int.reduceLE, Int.reduceToNat, Nat.reduceLT, Int.toNat_zero, Int.natCast_zero, Int.le_refl, Int.lt_irrefl, Int.reduceAdd, frz, false_or, or_true]
      repeat refine ⟨rfl, ?_⟩
      try simp only [go_sem, Nat.reduceLT, Nat.reduceAdd, Nat.reduceEqDiff, Nat.reduceLeDiff, Nat.reduceSub, Nat.reduceMul, Int.reduceEq, reduceIte, Int.ofNat_zero, Int.natCast_one, Int.cast_ofNat_Int, Int.reduceLT, Int.reduceLE, Int.reduceToNat, Nat.reduceLT, Int.toNat_zero, Int.natCast_zero, Int.le_refl, Int.lt_irrefl, Int.reduceAdd, frz, false_or, or_true]
      refine ret_keep [] (by simp) (by simp) (by simp [hx, hWo]) ?_ ?_
      · simp [go_sem, Nat.reduceLT, Nat.reduceAdd, Nat.reduceEqDiff, Nat.reduceLeDiff, Nat.reduceSub, Nat.reduceMul, Int.reduceEq, reduceIte, L35, R35, hx, pos, hWo]
      · simp [subHeap, renObj, renCell, renLeaf, hx, pos, go_sem, Nat.reduceLT, Nat.reduceAdd, Nat.reduceEqDiff, Nat.reduceLeDiff, Nat.reduceSub, Nat.reduceMul, Int.reduceEq, reduceIte, hWo, List.range_succ, Wo.ss, cSi3, cSi]
    · have hs : sendW w 1 (nth w.b q) = w.setY 1 ((w.way 1) ++ [nth w.b q]) := by rw [sendW, if_neg (show ¬ (w.way 1).length = 30 from h30)]
      have hb : (!decide ((w.way 1).length = 30)) = true := by show (!decide (w.b.length = 30)) = true; simp [h30]
      rw [hs, hb] at hsd
      rw [hd, if_neg h30, if_pos rfl, hdW]
      generalize w.setY 1 ((w.way 1) ++ [nth w.b q]) = w2 at *
      refine Meets.of_parts Tryz.func35 Tryz.ntmps35 low35 res35 (by simp) fun x hx => ?_
      simp only [LC.flat, L35, R35, List.cons_append, List.nil_append]
      refine WL_join 1 [0, 3] 6 (fun st => st = ⟨mkE .top [(3, .rptr (cAct 4 1 (q : Int) c t)), (0, .ptr 0 0), (3, .ptr 5 0)], hWo vs vy va vb w ++ [.gone]⟩) (by simp [hx, hWo]) (by simp) ?_ ?_
      · simp only [go_sem, Nat.reduceLT, Nat.reduceAdd, Nat.reduceEqDiff, Nat.reduceLeDiff, Nat.reduceSub, Nat.reduceMul, Int.reduceEq, reduceIte, L35, R35, List.take_succ_cons, List.take_zero, cAct]
        rw [join_normal]
        refine ⟨by simp [hWo], _, ?_, rfl⟩
        have e := weak_rptr (x := x) (nt := 114) (st := ⟨mkE .top [(0, .ptr 0 0), (3, .ptr 5 0)], hWo vs vy va vb w ++ [.box (cAct 4 1 (q : Int) c t)]⟩) (cells' := cAct 4 1 (q : Int) c t) (H' := hWo vs vy va vb w ++ [.gone]) 3 5 rfl rfl (by simp [cAct, frz]) (by simp [cAct, PV.isPure]) rfl
        rw [put_mk] at e
        refine weak_eqD ?_ e
        simp [trim_mk, go_sem, Nat.reduceLT, Nat.reduceAdd, Nat.reduceEqDiff, Nat.reduceLeDiff, Nat.reduceSub, Nat.reduceMul, Int.reduceEq, reduceIte, subHeap, renObj, renCell, renLeaf, pos, List.range_succ, hWo, Wo.ss, cSi3, cSi, cAct]
      rintro st rfl
      refine WL_walk ?_
      simp only [go_sem, Nat.reduceLT, Nat.reduceAdd, Nat.reduceEqDiff, Nat.reduceLeDiff, Nat.reduceSub, Nat.reduceMul, Int.reduceEq, reduceIte, L35, R35, List.drop_succ_cons, List.drop_zero, hWo, Wo.ss, cSi3, cSi, cE, cAct, Int.ofNat_zero, Int.natCast_one, Int.cast_ofNat_Int, Int.reduceLT, Int.reduceLE, Int.reduceToNat, Nat.reduceLT, Int.toNat_zero, Int.natCast_zero, Int.le_refl, Int.lt_irrefl, Int.reduceAdd, frz, false_or, or_true, List.map_cons, List.map_nil, List.cons_append, List.nil_append, hn0]
      simp only [go_sem, Nat.reduceLT, Nat.reduceAdd, Nat.reduceEqDiff, Nat.reduceLeDiff, Nat.reduceSub, Nat.reduceMul, Int.reduceEq, reduceIte, hn0, hnN, List.length_map, Int.ofNat_zero, Int.natCast_one, Int.cast_ofNat_Int, Int.reduceLT, Int.reduceLE, Int.reduceToNat, Nat.reduceLT, Int.toNat_zero, Int.natCast_zero, Int.le_refl, Int.lt_irrefl, Int.reduceAdd, frz, false_or, or_true]
      repeat refine ⟨rfl, ?_⟩
      try simp only [go_sem, Nat.reduceLT, Nat.reduceAdd, Nat.reduceEqDiff, Nat.reduceLeDiff, Nat.reduceSub, Nat.reduceMul, Int.reduceEq, reduceIte, Int.ofNat_zero, Int.natCast_one, Int.cast_ofNat_Int, Int.reduceLT, Int.reduceLE, Int.reduceToNat, Nat.reduceLT, Int.toNat_zero, Int.natCast_zero, Int.le_refl, Int.lt_irrefl, Int.reduceAdd, frz, false_or, or_true, hq, hgq, cE]
      refine ops_call (.heapE [0, 1, 2, 3, 4] (r' := .bool true) (H' := hWo vs vy va' vb' w2 ++ [.gone]) hsd (by simp) (by simp) (by simp [go_sem, Nat.reduceLT, Nat.reduceAdd, Nat.reduceEqDiff, Nat.reduceLeDiff, Nat.reduceSub, Nat.reduceMul, Int.reduceEq, reduceIte, pos, cE]) ?_ ?_ ?_) ?_
      · skip
        simp [subHeap, renObj, renCell, renLeaf, pos, hWo, Wo.ss, cSi3, cSi]
      · simp [renT, ren, renCell, renLeaf]
      · skip
        simp [merge, mergeObj, callId, backF, backId, renObj, renCell, renLeaf, pos, List.range_succ, hWo, Wo.ss, cSi3, cSi, cE, cAct]
      simp only [go_sem, Nat.reduceLT, Nat.reduceAdd, Nat.reduceEqDiff, Nat.reduceLeDiff, Nat.reduceSub, Nat.reduceMul, Int.reduceEq, reduceIte, hWo, Int.ofNat_zero, Int.natCast_one, Int.cast_ofNat_Int, Int.reduceLT, Int.reduceLE, Int.reduceToNat, Nat.reduceLT, Int.toNat_zero, Int.natCast_zero, Int.le_refl, Int.lt_irrefl, Int.reduceAdd, frz, false_or, or_true]
      repeat refine ⟨rfl, ?_⟩
      try simp only [go_sem, Nat.reduceLT, Nat.reduceAdd, Nat.reduceEqDiff, Nat.reduceLeDiff, Nat.reduceSub, Nat.reduceMul, Int.reduceEq, reduceIte, Int.ofNat_zero, Int.natCast_one, Int.cast_ofNat_Int, Int.reduceLT, Int.reduceLE, Int.reduceToNat, Nat.reduceLT, Int.toNat_zero, Int.natCast_zero, Int.le_refl, Int.lt_irrefl, Int.reduceAdd, frz, false_or, or_true]
      refine end_keep [] (by simp) (by simp) (by simp [hx, hWo]) ?_ ?_
      · simp [go_sem, Nat.reduceLT, Nat.reduceAdd, Nat.reduceEqDiff, Nat.reduceLeDiff, Nat.reduceSub, Nat.reduceMul, Int.reduceEq, reduceIte, L35, R35, hx, pos, hWo]
      · simp [subHeap, renObj, renCell, renLeaf, hx, pos, go_sem, Nat.reduceLT, Nat.reduceAdd, Nat.reduceEqDiff, Nat.reduceLeDiff, Nat.reduceSub, Nat.reduceMul, Int.reduceEq, reduceIte, hWo, List.range_succ, Wo.ss, cSi3, cSi]
theorem do_meets (vs vy va vb : Nat) (w : Wo) (h : WoOk w) (k i n c : Int) (t : ByteArray) (hi : i = 0 ∨ i = 1) (hk : ¬ (k < 1 ∨ 5 < k)) :
    ∃ va' vb', Meets Tryz.prog 35 [.ptr 0 0, .agg (cAct k i n c t)] (hWo vs vy va vb w) (.int .i64 (doErr0 w k i n c t)) (hWo vs vy va' vb' (if doErr0 w k i n c t = 0 then doW w k i n c t else w)) := by
  have : k = 1 ∨ k = 2 ∨ k = 3 ∨ k = 4 ∨ k = 5 := by omega
  rcases this with rfl | rfl | rfl | rfl | rfl
  · exact do1_meets vs vy va vb w h i n c t hi
  · exact do2_meets vs vy va vb w h i n c t hi
  · exact do3_meets vs vy va vb w h i n c t hi
  · exact do4_meets vs vy va vb w h i n c t hi
  · have h0 : doErr0 w 5 i n c t = 0 := by rw [doErr0, if_neg (by decide), if_pos rfl]; exact (allW_ok h hi).1
    refine ⟨va, vb, ?_⟩
    rw [h0, if_pos rfl]
    exact do5_meets vs vy va vb w h i n c t hi
theorem extra_meets (k i n c : Int) (t : ByteArray) : Meets Tryz.prog 34 [.agg (cAct k i n c t)] [] (.bool (extraB k n c t)) [] := by
 have ht : decide (t = ⟨#[]⟩) = decide (t.size = 0) := by
  rw [Bool.eq_iff_iff, decide_eq_true_eq, decide_eq_true_eq]
  constructor
  ·
   intro h; rw [h]; rfl
  ·
   intro h; exact ByteArray.ext (Array.eq_empty_of_size_eq_zero h)
 refine Meets.of_walk Tryz.func34 Tryz.ntmps34 low34 res34 (by simp) fun x hx => ?_
 by_cases k1 : k = 1
 ·
  subst k1
  by_cases n0 : n = 0
  ·
   simp only [go_sem, Nat.reduceLT, Nat.reduceAdd, Nat.reduceEqDiff, Nat.reduceLeDiff, Nat.reduceSub, Nat.reduceMul, Int.reduceEq, reduceIte, L34, R34, cAct, Int.ofNat_zero, Int.natCast_one, Int.cast_ofNat_Int, Int.reduceLT, Int.reduceLE, Int.reduceToNat, Nat.reduceLT, Int.toNat_zero, Int.natCast_zero, Int.le_refl, Int.lt_irrefl, Int.reduceAdd, frz, false_or, or_true, n0]
   repeat refine ⟨rfl, ?_⟩
   refine ret_pure hx ?_
   simp [go_sem, Nat.reduceLT, Nat.reduceAdd, Nat.reduceEqDiff, Nat.reduceLeDiff, Nat.reduceSub, Nat.reduceMul, Int.reduceEq, reduceIte, L34, R34, extraB, n0]
  ·
   simp only [go_sem, Nat.reduceLT, Nat.reduceAdd, Nat.reduceEqDiff, Nat.reduceLeDiff, Nat.reduceSub, Nat.reduceMul, Int.reduceEq, reduceIte, L34, R34, cAct, Int.ofNat_zero, Int.natCast_one, Int.cast_ofNat_Int, Int.reduceLT, Int.reduceLE, Int.reduceToNat, Nat.reduceLT, Int.toNat_zero, Int.natCast_zero, Int.le_refl, Int.lt_irrefl, Int.reduceAdd, frz, false_or, or_true, n0]
   repeat refine ⟨rfl, ?_⟩
   refine ret_pure hx ?_
   simp [go_sem, Nat.reduceLT, Nat.reduceAdd, Nat.reduceEqDiff, Nat.reduceLeDiff, Nat.reduceSub, Nat.reduceMul, Int.reduceEq, reduceIte, L34, R34, extraB, n0]
 ·
  by_cases c0 : c = 0
  ·
   by_cases t0 : t.size = 0
   ·
    by_cases k5 : k = 5
    ·
     subst k5
     by_cases n0 : n = 0
     ·
      simp only [go_sem, Nat.reduceLT, Nat.reduceAdd, Nat.reduceEqDiff, Nat.reduceLeDiff, Nat.reduceSub, Nat.reduceMul, Int.reduceEq, reduceIte, L34, R34, cAct, Int.ofNat_zero, Int.natCast_one, Int.cast_ofNat_Int, Int.reduceLT, Int.reduceLE, Int.reduceToNat, Nat.reduceLT, Int.toNat_zero, Int.natCast_zero, Int.le_refl, Int.lt_irrefl, Int.reduceAdd, frz, false_or, or_true, n0, c0, ht, t0]
      repeat refine ⟨rfl, ?_⟩
      refine ret_pure hx ?_
      simp [go_sem, Nat.reduceLT, Nat.reduceAdd, Nat.reduceEqDiff, Nat.reduceLeDiff, Nat.reduceSub, Nat.reduceMul, Int.reduceEq, reduceIte, L34, R34, extraB, n0, t0]
     ·
      simp only [go_sem, Nat.reduceLT, Nat.reduceAdd, Nat.reduceEqDiff, Nat.reduceLeDiff, Nat.reduceSub, Nat.reduceMul, Int.reduceEq, reduceIte, L34, R34, cAct, Int.ofNat_zero, Int.natCast_one, Int.cast_ofNat_Int, Int.reduceLT, Int.reduceLE, Int.reduceToNat, Nat.reduceLT, Int.toNat_zero, Int.natCast_zero, Int.le_refl, Int.lt_irrefl, Int.reduceAdd, frz, false_or, or_true, n0, c0, ht, t0]
      repeat refine ⟨rfl, ?_⟩
      refine ret_pure hx ?_
      simp [go_sem, Nat.reduceLT, Nat.reduceAdd, Nat.reduceEqDiff, Nat.reduceLeDiff, Nat.reduceSub, Nat.reduceMul, Int.reduceEq, reduceIte, L34, R34, extraB, n0, t0]
    ·
     simp only [go_sem, Nat.reduceLT, Nat.reduceAdd, Nat.reduceEqDiff, Nat.reduceLeDiff, Nat.reduceSub, Nat.reduceMul, Int.reduceEq, reduceIte, L34, R34, cAct, Int.ofNat_zero, Int.natCast_one, Int.cast_ofNat_Int, Int.reduceLT, Int.reduceLE, Int.reduceToNat, Nat.reduceLT, Int.toNat_zero, Int.natCast_zero, Int.le_refl, Int.lt_irrefl, Int.reduceAdd, frz, false_or, or_true, k1, k5, c0, ht, t0]
     repeat refine ⟨rfl, ?_⟩
     refine ret_pure hx ?_
     simp [go_sem, Nat.reduceLT, Nat.reduceAdd, Nat.reduceEqDiff, Nat.reduceLeDiff, Nat.reduceSub, Nat.reduceMul, Int.reduceEq, reduceIte, L34, R34, extraB, k1, k5, t0]
   ·
    simp only [go_sem, Nat.reduceLT, Nat.reduceAdd, Nat.reduceEqDiff, Nat.reduceLeDiff, Nat.reduceSub, Nat.reduceMul, Int.reduceEq, reduceIte, L34, R34, cAct, Int.ofNat_zero, Int.natCast_one, Int.cast_ofNat_Int, Int.reduceLT, Int.reduceLE, Int.reduceToNat, Nat.reduceLT, Int.toNat_zero, Int.natCast_zero, Int.le_refl, Int.lt_irrefl, Int.reduceAdd, frz, false_or, or_true, k1, c0, ht, t0]
    repeat refine ⟨rfl, ?_⟩
    refine ret_pure hx ?_
    simp [go_sem, Nat.reduceLT, Nat.reduceAdd, Nat.reduceEqDiff, Nat.reduceLeDiff, Nat.reduceSub, Nat.reduceMul, Int.reduceEq, reduceIte, L34, R34, extraB, k1, t0]
  ·
   simp only [go_sem, Nat.reduceLT, Nat.reduceAdd, Nat.reduceEqDiff, Nat.reduceLeDiff, Nat.reduceSub, Nat.reduceMul, Int.reduceEq, reduceIte, L34, R34, cAct, Int.ofNat_zero, Int.natCast_one, Int.cast_ofNat_Int, Int.reduceLT, Int.reduceLE, Int.reduceToNat, Nat.reduceLT, Int.toNat_zero, Int.natCast_zero, Int.le_refl, Int.lt_irrefl, Int.reduceAdd, frz, false_or, or_true, k1, c0]
   repeat refine ⟨rfl, ?_⟩
   refine ret_pure hx ?_
   simp [go_sem, Nat.reduceLT, Nat.reduceAdd, Nat.reduceEqDiff, Nat.reduceLeDiff, Nat.reduceSub, Nat.reduceMul, Int.reduceEq, reduceIte, L34, R34, extraB, k1, c0]
end Go.Proofs.YtkgobnnkcnnfhaaGreat
/- Worlds: an act in a right world: a contract. -/
namespace Go.Proofs.YtkgobnnkcnnfhaaGreat
set_option linter.unusedSimpArgs false
set_option linter.unusedVariables false
open Go.RowKit
def cWo (w : Wo) : List PV := cWd w.ss w.ys
def cWoN : List PV := [.list [], .list []]
def doC (w : Wo) (k i n c : Int) (t : ByteArray) : List PV := if doErr w k i n c t = 0 then cWo (doW w k i n c t) else cWoN
set_option maxRecDepth 10000 in
set_option maxHeartbeats 4000000 in
theorem raw_meets (w : Wo) (h : WoOk w) (k i n c : Int) (t : ByteArray) : Meets Tryz.prog 15 [.agg (cWo w), .agg (cAct k i n c t)] [] (.tup [.agg (doC w k i n c t), .int .i64 (doErr w k i n c t)]) [] := by
  refine Meets.of_walk Tryz.func15 Tryz.ntmps15 low15 res15 (by simp) fun x hx => ?_
  have hown := woOwn_meets w h
  simp only [go_sem, Nat.reduceLT, Nat.reduceAdd, Nat.reduceEqDiff, Nat.reduceLeDiff, Nat.reduceSub, Nat.reduceMul, Int.reduceEq, reduceIte, L15, R15, cWo, cWd, cAct, Int.ofNat_zero, Int.natCast_one, Int.cast_ofNat_Int, Int.reduceLT, Int.reduceLE, Int.reduceToNat, Nat.reduceLT, Int.toNat_zero, Int.natCast_zero, Int.le_refl, Int.lt_irrefl, Int.reduceAdd, frz, false_or, or_true]
  refine ops_call (.heapE [] (r' := .ptr 3 0) (H' := [.box (cWo w), .box (cAct k i n c t), .box [.nilsl, .nilsl], .box [.arr 4 2, .arr 5 2], .arr 2 true false 47 3 (w.ss.map cSi3), .arr 2 true true 45 1 [[.arr 6 w.a.length], [.arr 7 w.b.length]], .arr w.a.length true false 53 5 (w.a.map cE), .arr w.b.length true false 53 5 (w.b.map cE)]) hown (by simp) (by simp) (by simp [go_sem, Nat.reduceLT, Nat.reduceAdd, Nat.reduceEqDiff, Nat.reduceLeDiff, Nat.reduceSub, Nat.reduceMul, Int.reduceEq, reduceIte, cWo, cWd]) rfl rfl rfl) ?_
  by_cases hk : k < 1 ∨ 5 < k
  · have e : doErr w k i n c t = 7 := by rw [doErr, if_pos hk]
    rcases hk with hk | hk
    · simp only [go_sem, Nat.reduceLT, Nat.reduceAdd, Nat.reduceEqDiff, Nat.reduceLeDiff, Nat.reduceSub, Nat.reduceMul, Int.reduceEq, reduceIte, hk, Int.ofNat_zero, Int.natCast_one, Int.cast_ofNat_Int, Int.reduceLT, Int.reduceLE, Int.reduceToNat, Nat.reduceLT, Int.toNat_zero, Int.natCast_zero, Int.le_refl, Int.lt_irrefl, Int.reduceAdd, frz, false_or, or_true, cAct]
      refine ret_pure hx ?_
      simp [go_sem, Nat.reduceLT, Nat.reduceAdd, Nat.reduceEqDiff, Nat.reduceLeDiff, Nat.reduceSub, Nat.reduceMul, Int.reduceEq, reduceIte, L15, R15, doC, e, cWoN]
    · have hk1 : ¬ k < 1 := by omega
      simp only [go_sem, Nat.reduceLT, Nat.reduceAdd, Nat.reduceEqDiff, Nat.reduceLeDiff, Nat.reduceSub, Nat.reduceMul, Int.reduceEq, reduceIte, hk, hk1, Int.ofNat_zero, Int.natCast_one, Int.cast_ofNat_Int, Int.reduceLT, Int.reduceLE, Int.reduceToNat, Nat.reduceLT, Int.toNat_zero, Int.natCast_zero, Int.le_refl, Int.lt_irrefl, Int.reduceAdd, frz, false_or, or_true, cAct]
      refine ret_pure hx ?_
      simp [go_sem, Nat.reduceLT, Nat.reduceAdd, Nat.reduceEqDiff, Nat.reduceLeDiff, Nat.reduceSub, Nat.reduceMul, Int.reduceEq, reduceIte, L15, R15, doC, e, cWoN]
  · have hk1 : ¬ k < 1 := by omega
    have hk2 : ¬ 5 < k := by omega
    simp only [go_sem, Nat.reduceLT, Nat.reduceAdd, Nat.reduceEqDiff, Nat.reduceLeDiff, Nat.reduceSub, Nat.reduceMul, Int.reduceEq, reduceIte, hk1, hk2, Int.ofNat_zero, Int.natCast_one, Int.cast_ofNat_Int, Int.reduceLT, Int.reduceLE, Int.reduceToNat, Nat.reduceLT, Int.toNat_zero, Int.natCast_zero, Int.le_refl, Int.lt_irrefl, Int.reduceAdd, frz, false_or, or_true, cAct]
    refine ops_call (.pureE (extra_meets k i n c t) (by simp [go_sem, Nat.reduceLT, Nat.reduceAdd, Nat.reduceEqDiff, Nat.reduceLeDiff, Nat.reduceSub, Nat.reduceMul, Int.reduceEq, reduceIte, cAct])) ?_
    cases hx2 : extraB k n c t
    · by_cases hi : i = 0 ∨ i = 1
      · have e : doErr w k i n c t = doErr0 w k i n c t := by rw [doErr, if_neg hk, if_neg (by simp [hx2]), if_neg (by simp [hi])]
        obtain ⟨va', vb', hdo⟩ := do_meets 2 2 w.a.length w.b.length w h k i n c t hi hk
        have hi0 : (¬ i = 0 ∧ ¬ i = 1) = False := by simp; omega
        have hcall : CallTo Tryz.prog 35 [.ptr 3 0, .agg (cAct k i n c t)] ([.box (cWo w), .box (cAct k i n c t), .box [.nilsl, .nilsl], .box [.arr 4 2, .arr 5 2], .arr 2 true false 47 3 (w.ss.map cSi3), .arr 2 true true 45 1 [[.arr 6 w.a.length], [.arr 7 w.b.length]], .arr w.a.length true false 53 5 (w.a.map cE), .arr w.b.length true false 53 5 (w.b.map cE)]) true (.int .i64 (doErr0 w k i n c t))
            ([.box (cWo w), .box (cAct k i n c t), .box [.nilsl, .nilsl], .box [.arr 4 2, .arr 5 2], .arr 2 true false 47 3 ((if doErr0 w k i n c t = 0 then doW w k i n c t else w).ss.map cSi3), .arr 2 true true 45 1 [[.arr 6 va'], [.arr 7 vb']], .arr va' true false 53 5 ((if doErr0 w k i n c t = 0 then doW w k i n c t else w).a.map cE), .arr vb' true false 53 5 ((if doErr0 w k i n c t = 0 then doW w k i n c t else w).b.map cE)]) := by
          refine .heapE [3, 4, 5, 6, 7] hdo (by simp) (by simp) (by simp [go_sem, Nat.reduceLT, Nat.reduceAdd, Nat.reduceEqDiff, Nat.reduceLeDiff, Nat.reduceSub, Nat.reduceMul, Int.reduceEq, reduceIte, pos, cAct]) ?_ ?_ ?_
          · simp [subHeap, renObj, renCell, renLeaf, pos, hWo]
          · simp [renT, ren, renCell, renLeaf]
          · simp [merge, mergeObj, callId, backF, backId, renObj, renCell, renLeaf, pos, List.range_succ, hWo, cAct]
        by_cases h0 : doErr0 w k i n c t = 0
        · rw [if_pos h0, h0] at hcall
          have eW : doC w k i n c t = cWo (doW w k i n c t) := by rw [doC, e, if_pos h0]
          rw [eW, e, h0]
          generalize doW w k i n c t = w2 at *
          rcases hi with rfl | rfl
          · skip
            simp only [go_sem, Nat.reduceLT, Nat.reduceAdd, Nat.reduceEqDiff, Nat.reduceLeDiff, Nat.reduceSub, Nat.reduceMul, Int.reduceEq, reduceIte, Int.ofNat_zero, Int.natCast_one, Int.cast_ofNat_Int, Int.reduceLT, Int.reduceLE, Int.reduceToNat, Nat.reduceLT, Int.toNat_zero, Int.natCast_zero, Int.le_refl, Int.lt_irrefl, Int.reduceAdd, frz, false_or, or_true, cAct]
            refine ops_call hcall ?_
            simp only [go_sem, Nat.reduceLT, Nat.reduceAdd, Nat.reduceEqDiff, Nat.reduceLeDiff, Nat.reduceSub, Nat.reduceMul, Int.reduceEq, reduceIte, Int.ofNat_zero, Int.natCast_one, Int.cast_ofNat_Int, Int.reduceLT, Int.reduceLE, Int.reduceToNat, Nat.reduceLT, Int.toNat_zero, Int.natCast_zero, Int.le_refl, Int.lt_irrefl, Int.reduceAdd, frz, false_or, or_true]
            refine ret_weak (weak_shut 6 rfl) ?_
            refine ret_weak (weak_shut 7 rfl) ?_
            refine ret_weak (weak_pu 5 rfl rfl (by simp [frz, PV.isPure])) ?_
            refine ret_weak (weak_shut 4 rfl) ?_
            refine ret_pure hx ?_
            simp [go_sem, Nat.reduceLT, Nat.reduceAdd, Nat.reduceEqDiff, Nat.reduceLeDiff, Nat.reduceSub, Nat.reduceMul, Int.reduceEq, reduceIte, L15, R15, cWo, cWd, cYs, Wo.ys, frzAt, pos, frz]
          · skip
            simp only [go_sem, Nat.reduceLT, Nat.reduceAdd, Nat.reduceEqDiff, Nat.reduceLeDiff, Nat.reduceSub, Nat.reduceMul, Int.reduceEq, reduceIte, Int.ofNat_zero, Int.natCast_one, Int.cast_ofNat_Int, Int.reduceLT, Int.reduceLE, Int.reduceToNat, Nat.reduceLT, Int.toNat_zero, Int.natCast_zero, Int.le_refl, Int.lt_irrefl, Int.reduceAdd, frz, false_or, or_true, cAct]
            refine ops_call hcall ?_
            simp only [go_sem, Nat.reduceLT, Nat.reduceAdd, Nat.reduceEqDiff, Nat.reduceLeDiff, Nat.reduceSub, Nat.reduceMul, Int.reduceEq, reduceIte, Int.ofNat_zero, Int.natCast_one, Int.cast_ofNat_Int, Int.reduceLT, Int.reduceLE, Int.reduceToNat, Nat.reduceLT, Int.toNat_zero, Int.natCast_zero, Int.le_refl, Int.lt_irrefl, Int.reduceAdd, frz, false_or, or_true]
            refine ret_weak (weak_shut 6 rfl) ?_
            refine ret_weak (weak_shut 7 rfl) ?_
            refine ret_weak (weak_pu 5 rfl rfl (by simp [frz, PV.isPure])) ?_
            refine ret_weak (weak_shut 4 rfl) ?_
            refine ret_pure hx ?_
            simp [go_sem, Nat.reduceLT, Nat.reduceAdd, Nat.reduceEqDiff, Nat.reduceLeDiff, Nat.reduceSub, Nat.reduceMul, Int.reduceEq, reduceIte, L15, R15, cWo, cWd, cYs, Wo.ys, frzAt, pos, frz]
        · rw [if_neg h0] at hcall
          have eW : doC w k i n c t = cWoN := by rw [doC, e, if_neg h0]
          rw [eW, e]
          rcases hi with rfl | rfl
          · skip
            simp only [go_sem, Nat.reduceLT, Nat.reduceAdd, Nat.reduceEqDiff, Nat.reduceLeDiff, Nat.reduceSub, Nat.reduceMul, Int.reduceEq, reduceIte, Int.ofNat_zero, Int.natCast_one, Int.cast_ofNat_Int, Int.reduceLT, Int.reduceLE, Int.reduceToNat, Nat.reduceLT, Int.toNat_zero, Int.natCast_zero, Int.le_refl, Int.lt_irrefl, Int.reduceAdd, frz, false_or, or_true, cAct]
            refine ops_call hcall ?_
            simp only [go_sem, Nat.reduceLT, Nat.reduceAdd, Nat.reduceEqDiff, Nat.reduceLeDiff, Nat.reduceSub, Nat.reduceMul, Int.reduceEq, reduceIte, Int.ofNat_zero, Int.natCast_one, Int.cast_ofNat_Int, Int.reduceLT, Int.reduceLE, Int.reduceToNat, Nat.reduceLT, Int.toNat_zero, Int.natCast_zero, Int.le_refl, Int.lt_irrefl, Int.reduceAdd, frz, false_or, or_true, h0]
            refine ret_pure hx ?_
            simp [go_sem, Nat.reduceLT, Nat.reduceAdd, Nat.reduceEqDiff, Nat.reduceLeDiff, Nat.reduceSub, Nat.reduceMul, Int.reduceEq, reduceIte, L15, R15, cWoN]
          · skip
            simp only [go_sem, Nat.reduceLT, Nat.reduceAdd, Nat.reduceEqDiff, Nat.reduceLeDiff, Nat.reduceSub, Nat.reduceMul, Int.reduceEq, reduceIte, Int.ofNat_zero, Int.natCast_one, Int.cast_ofNat_Int, Int.reduceLT, Int.reduceLE, Int.reduceToNat, Nat.reduceLT, Int.toNat_zero, Int.natCast_zero, Int.le_refl, Int.lt_irrefl, Int.reduceAdd, frz, false_or, or_true, cAct]
            refine ops_call hcall ?_
            simp only [go_sem, Nat.reduceLT, Nat.reduceAdd, Nat.reduceEqDiff, Nat.reduceLeDiff, Nat.reduceSub, Nat.reduceMul, Int.reduceEq, reduceIte, Int.ofNat_zero, Int.natCast_one, Int.cast_ofNat_Int, Int.reduceLT, Int.reduceLE, Int.reduceToNat, Nat.reduceLT, Int.toNat_zero, Int.natCast_zero, Int.le_refl, Int.lt_irrefl, Int.reduceAdd, frz, false_or, or_true, h0]
            refine ret_pure hx ?_
            simp [go_sem, Nat.reduceLT, Nat.reduceAdd, Nat.reduceEqDiff, Nat.reduceLeDiff, Nat.reduceSub, Nat.reduceMul, Int.reduceEq, reduceIte, L15, R15, cWoN]
      · have e : doErr w k i n c t = 3 := by rw [doErr, if_neg hk, if_neg (by simp [hx2]), if_pos hi]
        have hi0 : ¬ i = 0 := by omega
        have hi1 : ¬ i = 1 := by omega
        simp only [go_sem, Nat.reduceLT, Nat.reduceAdd, Nat.reduceEqDiff, Nat.reduceLeDiff, Nat.reduceSub, Nat.reduceMul, Int.reduceEq, reduceIte, hi0, hi1, Int.ofNat_zero, Int.natCast_one, Int.cast_ofNat_Int, Int.reduceLT, Int.reduceLE, Int.reduceToNat, Nat.reduceLT, Int.toNat_zero, Int.natCast_zero, Int.le_refl, Int.lt_irrefl, Int.reduceAdd, frz, false_or, or_true]
        refine ret_pure hx ?_
        simp [go_sem, Nat.reduceLT, Nat.reduceAdd, Nat.reduceEqDiff, Nat.reduceLeDiff, Nat.reduceSub, Nat.reduceMul, Int.reduceEq, reduceIte, L15, R15, doC, e, cWoN]
    · have e : doErr w k i n c t = 1 := by rw [doErr, if_neg hk, if_pos hx2]
      simp only [go_sem, Nat.reduceLT, Nat.reduceAdd, Nat.reduceEqDiff, Nat.reduceLeDiff, Nat.reduceSub, Nat.reduceMul, Int.reduceEq, reduceIte, Int.ofNat_zero, Int.natCast_one, Int.cast_ofNat_Int, Int.reduceLT, Int.reduceLE, Int.reduceToNat, Nat.reduceLT, Int.toNat_zero, Int.natCast_zero, Int.le_refl, Int.lt_irrefl, Int.reduceAdd, frz, false_or, or_true]
      refine ret_pure hx ?_
      simp [go_sem, Nat.reduceLT, Nat.reduceAdd, Nat.reduceEqDiff, Nat.reduceLeDiff, Nat.reduceSub, Nat.reduceMul, Int.reduceEq, reduceIte, L15, R15, doC, e, cWoN]
end Go.Proofs.YtkgobnnkcnnfhaaGreat
/- Worlds: Do, Settle, New: contracts. -/
namespace Go.Proofs.YtkgobnnkcnnfhaaGreat
set_option linter.unusedSimpArgs false
set_option linter.unusedVariables false
open Go.RowKit
theorem okSs_of {w : Wo} (h : WoOk w) : okSs w.ss ∧ okYs w.ys := by
 have a := (h.log (i := 0) (.inl rfl)).len
 have b := (h.log (i := 1) (.inr rfl)).len
 have a : w.p.length ≤ 40 := a
 have b : w.q.length ≤ 40 := b
 obtain ⟨-, -, -, -, -, -, -, c⟩ := si_pre h.s0
 obtain ⟨-, -, -, -, -, -, -, d⟩ := si_pre h.s1
 have la := h.la
 have lb := h.lb
 refine ⟨fun s hs => ?_, fun l hl => ?_⟩
 ·
  simp only [Wo.ss, List.mem_cons, List.not_mem_nil, or_false] at hs
  rcases hs with rfl | rfl
  ·
   simp only; omega
  ·
   simp only; omega
 ·
  simp only [Wo.ys, List.mem_cons, List.not_mem_nil, or_false] at hl
  rcases hl with rfl | rfl
  ·
   omega
  ·
   omega
theorem doC_cWd (w : Wo) (k i n c : Int) (t : ByteArray) : ∃ ds dy, doC w k i n c t = cWd ds dy := by
 unfold doC
 split
 ·
  exact ⟨_, _, rfl⟩
 ·
  exact ⟨[], [], rfl⟩
theorem woDo_bad (ss : List Si) (ys : List (List Entry)) (k i n c : Int) (t : ByteArray) (hs : ss.length ≤ 1000000000000000) (hy : ys.length ≤ 1000000000000000) (ho : okSs ss) (hoy : okYs ys) (h : woErr ss ys ≠ 0) :
    Meets Tryz.prog 4 [.agg (cWd ss ys), .agg (cAct k i n c t)] [] (.tup [.agg cWoN, .int .i64 (woErr ss ys)]) [] := by
  refine Meets.of_walk Tryz.func4 Tryz.ntmps4 low4 res4 (by simp) fun x hx => ?_
  simp only [go_sem, Nat.reduceLT, Nat.reduceAdd, Nat.reduceEqDiff, Nat.reduceLeDiff, Nat.reduceSub, Nat.reduceMul, Int.reduceEq, reduceIte, L4, R4, cWd, cAct]
  refine ops_call (.pureE (worldCheck_meets ss ys hs hy ho hoy) (by simp [go_sem, Nat.reduceLT, Nat.reduceAdd, Nat.reduceEqDiff, Nat.reduceLeDiff, Nat.reduceSub, Nat.reduceMul, Int.reduceEq, reduceIte, cWd])) ?_
  simp only [go_sem, Nat.reduceLT, Nat.reduceAdd, Nat.reduceEqDiff, Nat.reduceLeDiff, Nat.reduceSub, Nat.reduceMul, Int.reduceEq, reduceIte, h]
  refine ret_pure hx ?_
  simp [go_sem, Nat.reduceLT, Nat.reduceAdd, Nat.reduceEqDiff, Nat.reduceLeDiff, Nat.reduceSub, Nat.reduceMul, Int.reduceEq, reduceIte, L4, R4, cWoN]
theorem woDo_ok (w : Wo) (h : WoOk w) (k i n c : Int) (t : ByteArray) :
    Meets Tryz.prog 4 [.agg (cWo w), .agg (cAct k i n c t)] [] (.tup [.agg (doC w k i n c t), .int .i64 (doErr w k i n c t)]) [] := by
  obtain ⟨o1, o2⟩ := okSs_of h
  refine Meets.of_walk Tryz.func4 Tryz.ntmps4 low4 res4 (by simp) fun x hx => ?_
  simp only [go_sem, Nat.reduceLT, Nat.reduceAdd, Nat.reduceEqDiff, Nat.reduceLeDiff, Nat.reduceSub, Nat.reduceMul, Int.reduceEq, reduceIte, L4, R4, cWo, cWd, cAct]
  refine ops_call (.pureE (worldCheck_meets w.ss w.ys (by simp [Wo.ss]) (by simp [Wo.ys]) o1 o2) (by simp [go_sem, Nat.reduceLT, Nat.reduceAdd, Nat.reduceEqDiff, Nat.reduceLeDiff, Nat.reduceSub, Nat.reduceMul, Int.reduceEq, reduceIte, cWd])) ?_
  rw [woErr_ok.2 h]
  simp only [go_sem, Nat.reduceLT, Nat.reduceAdd, Nat.reduceEqDiff, Nat.reduceLeDiff, Nat.reduceSub, Nat.reduceMul, Int.reduceEq, reduceIte, Int.ofNat_zero, Int.natCast_one, Int.cast_ofNat_Int, Int.reduceLT, Int.reduceLE, Int.reduceToNat, Nat.reduceLT, Int.toNat_zero, Int.natCast_zero, Int.le_refl, Int.lt_irrefl, Int.reduceAdd, frz, false_or, or_true, cWo, cWd, cAct]
  have hraw := raw_meets w h k i n c t
  obtain ⟨ds, dy, hq⟩ := doC_cWd w k i n c t
  rw [hq] at hraw ⊢
  refine ops_call (.pureE hraw (by simp [go_sem, Nat.reduceLT, Nat.reduceAdd, Nat.reduceEqDiff, Nat.reduceLeDiff, Nat.reduceSub, Nat.reduceMul, Int.reduceEq, reduceIte, cWo, cWd, cAct])) ?_
  simp only [go_sem, Nat.reduceLT, Nat.reduceAdd, Nat.reduceEqDiff, Nat.reduceLeDiff, Nat.reduceSub, Nat.reduceMul, Int.reduceEq, reduceIte, cWd]
  refine ret_pure hx ?_
  simp [go_sem, Nat.reduceLT, Nat.reduceAdd, Nat.reduceEqDiff, Nat.reduceLeDiff, Nat.reduceSub, Nat.reduceMul, Int.reduceEq, reduceIte, L4, R4, cWd]
theorem settle_bad (ss : List Si) (ys : List (List Entry)) (hs : ss.length ≤ 1000000000000000) (hy : ys.length ≤ 1000000000000000) (ho : okSs ss) (hoy : okYs ys) (h : woErr ss ys ≠ 0) :
    Meets Tryz.prog 5 [.agg (cWd ss ys)] [] (.tup [.agg cWoN, .int .i64 (woErr ss ys)]) [] := by
  refine Meets.of_walk Tryz.func5 Tryz.ntmps5 low5 res5 (by simp) fun x hx => ?_
  simp only [go_sem, Nat.reduceLT, Nat.reduceAdd, Nat.reduceEqDiff, Nat.reduceLeDiff, Nat.reduceSub, Nat.reduceMul, Int.reduceEq, reduceIte, L5, R5, cWd]
  refine ops_call (.pureE (worldCheck_meets ss ys hs hy ho hoy) (by simp [go_sem, Nat.reduceLT, Nat.reduceAdd, Nat.reduceEqDiff, Nat.reduceLeDiff, Nat.reduceSub, Nat.reduceMul, Int.reduceEq, reduceIte, cWd])) ?_
  simp only [go_sem, Nat.reduceLT, Nat.reduceAdd, Nat.reduceEqDiff, Nat.reduceLeDiff, Nat.reduceSub, Nat.reduceMul, Int.reduceEq, reduceIte, h]
  refine ret_pure hx ?_
  simp [go_sem, Nat.reduceLT, Nat.reduceAdd, Nat.reduceEqDiff, Nat.reduceLeDiff, Nat.reduceSub, Nat.reduceMul, Int.reduceEq, reduceIte, L5, R5, cWoN]
def hS2 (w0 w : Wo) : List AObj := [.box (cWo w0), .box [.nilsl, .nilsl], .box [.arr 3 2, .arr 4 2], .arr 2 true false 47 3 (w.ss.map cSi3), .arr 2 true true 45 1 [[.arr 5 w0.a.length], [.arr 6 w0.b.length]], .arr w0.a.length true false 53 5 (w.a.map cE), .arr w0.b.length true false 53 5 (w.b.map cE)]
set_option maxHeartbeats 4000000 in
theorem settle_ok (w : Wo) (h : WoOk w) : Meets Tryz.prog 5 [.agg (cWo w)] [] (.tup [.agg (cWo (stW w)), .int .i64 0]) [] := by
  obtain ⟨o1, o2⟩ := okSs_of h
  have hown := woOwn_meets w h
  have k1 : IntKind.i64.wrap 1 = 1 := by decide
  have k2 : IntKind.i64.wrap 2 = 2 := by decide
  obtain ⟨-, a2, -, -, -⟩ := allW_ok h (.inl rfl)
  have hal0 := woAll_meets 2 2 w.a.length w.b.length w 0 (.inl rfl) h.s0 (h.log (.inr rfl))
  have hal1 : Meets Tryz.prog 17 [.ptr 0 0, .int .i64 1] (hWo 2 2 w.a.length w.b.length (w.setS 0 (allW w 0).2)) (.int .i64 0) (hWo 2 2 w.a.length w.b.length (stW w)) := woAll_meets 2 2 w.a.length w.b.length (w.setS 0 (allW w 0).2) 1 (.inr rfl) (a2.si (.inr rfl)) (a2.log (.inl rfl))
  refine Meets.of_walk Tryz.func5 Tryz.ntmps5 low5 res5 (by simp) fun x hx => ?_
  simp only [go_sem, Nat.reduceLT, Nat.reduceAdd, Nat.reduceEqDiff, Nat.reduceLeDiff, Nat.reduceSub, Nat.reduceMul, Int.reduceEq, reduceIte, L5, R5, cWo, cWd]
  refine ops_call (.pureE (worldCheck_meets w.ss w.ys (by simp [Wo.ss]) (by simp [Wo.ys]) o1 o2) (by simp [go_sem, Nat.reduceLT, Nat.reduceAdd, Nat.reduceEqDiff, Nat.reduceLeDiff, Nat.reduceSub, Nat.reduceMul, Int.reduceEq, reduceIte, cWd])) ?_
  rw [woErr_ok.2 h]
  simp only [go_sem, Nat.reduceLT, Nat.reduceAdd, Nat.reduceEqDiff, Nat.reduceLeDiff, Nat.reduceSub, Nat.reduceMul, Int.reduceEq, reduceIte, Int.ofNat_zero, Int.natCast_one, Int.cast_ofNat_Int, Int.reduceLT, Int.reduceLE, Int.reduceToNat, Nat.reduceLT, Int.toNat_zero, Int.natCast_zero, Int.le_refl, Int.lt_irrefl, Int.reduceAdd, frz, false_or, or_true, cWo, cWd]
  refine ops_call (.heapE [] (r' := .ptr 2 0) (H' := hS2 w w) hown (by simp) (by simp) (by simp [go_sem, Nat.reduceLT, Nat.reduceAdd, Nat.reduceEqDiff, Nat.reduceLeDiff, Nat.reduceSub, Nat.reduceMul, Int.reduceEq, reduceIte, cWd]) rfl rfl rfl) ?_
  simp only [go_sem, Nat.reduceLT, Nat.reduceAdd, Nat.reduceEqDiff, Nat.reduceLeDiff, Nat.reduceSub, Nat.reduceMul, Int.reduceEq, reduceIte, Int.ofNat_zero, Int.natCast_one, Int.cast_ofNat_Int, Int.reduceLT, Int.reduceLE, Int.reduceToNat, Nat.reduceLT, Int.toNat_zero, Int.natCast_zero, Int.le_refl, Int.lt_irrefl, Int.reduceAdd, frz, false_or, or_true]
  refine loop_keep [2, 5, 16] (fun m st => (m = 2 ∧ st = ⟨mkE .top [(2, .ptr 1 0), (5, .ptr 2 0), (16, .int .i64 0)], hS2 w w⟩) ∨
      (m = 1 ∧ st = ⟨mkE .top [(2, .ptr 1 0), (5, .ptr 2 0), (16, .int .i64 1)], hS2 w (w.setS 0 (allW w 0).2)⟩) ∨
      (m = 0 ∧ st = ⟨mkE .top [(2, .ptr 1 0), (5, .ptr 2 0), (16, .int .i64 2)], hS2 w (stW w)⟩)) 2 ?_ ?_
  · refine .inl ⟨rfl, ?_⟩
    simp [keep_mk, go_sem, Nat.reduceLT, Nat.reduceAdd, Nat.reduceEqDiff, Nat.reduceLeDiff, Nat.reduceSub, Nat.reduceMul, Int.reduceEq, reduceIte]
  · rintro m st (⟨rfl, rfl⟩ | ⟨rfl, rfl⟩ | ⟨rfl, rfl⟩)
    · skip
      have hcall : CallTo Tryz.prog 17 [.ptr 2 0, .int .i64 0] (hS2 w w) true (.int .i64 0) (hS2 w (w.setS 0 (allW w 0).2)) := by
        refine .heapE [2, 3, 4, 5, 6] (hal0) (by simp) (by simp [hS2]) (by simp [go_sem, Nat.reduceLT, Nat.reduceAdd, Nat.reduceEqDiff, Nat.reduceLeDiff, Nat.reduceSub, Nat.reduceMul, Int.reduceEq, reduceIte, pos]) ?_ ?_ ?_
        · simp [subHeap, renObj, renCell, renLeaf, pos, hWo, hS2]
        · simp [renT, ren, renCell, renLeaf]
        · simp [merge, mergeObj, callId, backF, backId, renObj, renCell, renLeaf, pos, List.range_succ, hWo, hS2]
      simp only [go_sem, Nat.reduceLT, Nat.reduceAdd, Nat.reduceEqDiff, Nat.reduceLeDiff, Nat.reduceSub, Nat.reduceMul, Int.reduceEq, reduceIte, hS2, Int.ofNat_zero, Int.natCast_one, Int.cast_ofNat_Int, Int.reduceLT, Int.reduceLE, Int.reduceToNat, Nat.reduceLT, Int.toNat_zero, Int.natCast_zero, Int.le_refl, Int.lt_irrefl, Int.reduceAdd, frz, false_or, or_true]
      refine ops_call hcall ?_
      simp only [go_sem, Nat.reduceLT, Nat.reduceAdd, Nat.reduceEqDiff, Nat.reduceLeDiff, Nat.reduceSub, Nat.reduceMul, Int.reduceEq, reduceIte, hS2, Int.ofNat_zero, Int.natCast_one, Int.cast_ofNat_Int, Int.reduceLT, Int.reduceLE, Int.reduceToNat, Nat.reduceLT, Int.toNat_zero, Int.natCast_zero, Int.le_refl, Int.lt_irrefl, Int.reduceAdd, frz, false_or, or_true, k1, k2]
      refine ⟨1, by omega, .inr (.inl ⟨rfl, ?_⟩)⟩
      simp [keep_mk, go_sem, Nat.reduceLT, Nat.reduceAdd, Nat.reduceEqDiff, Nat.reduceLeDiff, Nat.reduceSub, Nat.reduceMul, Int.reduceEq, reduceIte, hS2]
    · skip
      have hcall : CallTo Tryz.prog 17 [.ptr 2 0, .int .i64 1] (hS2 w (w.setS 0 (allW w 0).2)) true (.int .i64 0) (hS2 w (stW w)) := by
        refine .heapE [2, 3, 4, 5, 6] (hal1) (by simp) (by simp [hS2]) (by simp [go_sem, Nat.reduceLT, Nat.reduceAdd, Nat.reduceEqDiff, Nat.reduceLeDiff, Nat.reduceSub, Nat.reduceMul, Int.reduceEq, reduceIte, pos]) ?_ ?_ ?_
        · simp [subHeap, renObj, renCell, renLeaf, pos, hWo, hS2]
        · simp [renT, ren, renCell, renLeaf]
        · simp [merge, mergeObj, callId, backF, backId, renObj, renCell, renLeaf, pos, List.range_succ, hWo, hS2]
      simp only [go_sem, Nat.reduceLT, Nat.reduceAdd, Nat.reduceEqDiff, Nat.reduceLeDiff, Nat.reduceSub, Nat.reduceMul, Int.reduceEq, reduceIte, hS2, Int.ofNat_zero, Int.natCast_one, Int.cast_ofNat_Int, Int.reduceLT, Int.reduceLE, Int.reduceToNat, Nat.reduceLT, Int.toNat_zero, Int.natCast_zero, Int.le_refl, Int.lt_irrefl, Int.reduceAdd, frz, false_or, or_true]
      refine ops_call hcall ?_
      simp only [go_sem, Nat.reduceLT, Nat.reduceAdd, Nat.reduceEqDiff, Nat.reduceLeDiff, Nat.reduceSub, Nat.reduceMul, Int.reduceEq, reduceIte, hS2, Int.ofNat_zero, Int.natCast_one, Int.cast_ofNat_Int, Int.reduceLT, Int.reduceLE, Int.reduceToNat, Nat.reduceLT, Int.toNat_zero, Int.natCast_zero, Int.le_refl, Int.lt_irrefl, Int.reduceAdd, frz, false_or, or_true, k1, k2]
      refine ⟨0, by omega, .inr (.inr ⟨rfl, ?_⟩)⟩
      simp [keep_mk, go_sem, Nat.reduceLT, Nat.reduceAdd, Nat.reduceEqDiff, Nat.reduceLeDiff, Nat.reduceSub, Nat.reduceMul, Int.reduceEq, reduceIte, hS2]
    · generalize stW w = w2 at *
      simp only [go_sem, Nat.reduceLT, Nat.reduceAdd, Nat.reduceEqDiff, Nat.reduceLeDiff, Nat.reduceSub, Nat.reduceMul, Int.reduceEq, reduceIte, hS2, Int.ofNat_zero, Int.natCast_one, Int.cast_ofNat_Int, Int.reduceLT, Int.reduceLE, Int.reduceToNat, Nat.reduceLT, Int.toNat_zero, Int.natCast_zero, Int.le_refl, Int.lt_irrefl, Int.reduceAdd, frz, false_or, or_true]
      refine ret_weak (weak_shut 5 rfl) ?_
      refine ret_weak (weak_shut 6 rfl) ?_
      refine ret_weak (weak_pu 4 rfl rfl (by simp [frz, PV.isPure])) ?_
      refine ret_weak (weak_shut 3 rfl) ?_
      refine ret_pure hx ?_
      simp [go_sem, Nat.reduceLT, Nat.reduceAdd, Nat.reduceEqDiff, Nat.reduceLeDiff, Nat.reduceSub, Nat.reduceMul, Int.reduceEq, reduceIte, L5, R5, cWo, cWd, cYs, Wo.ys, frzAt, pos, frz]
def wNew : Wo := ⟨[], [], [], [], [], []⟩
theorem woNew_meets : Meets Tryz.prog 11 [] [] (.agg (cWo wNew)) [] := by
 have h0 : Meets Tryz.prog 11 [] [] (.agg [.list [[.int .i64 0, .nilsl, .nilsl], [.int .i64 1, .nilsl, .nilsl]], .list [[.nilsl], [.nilsl]]]) [] := by
  refine Meets.of_walk Tryz.func11 Tryz.ntmps11 low11 res11 (by simp) fun x hx => ?_
  simp only [go_sem, Nat.reduceLT, Nat.reduceAdd, Nat.reduceEqDiff, Nat.reduceLeDiff, Nat.reduceSub, Nat.reduceMul, Int.reduceEq, reduceIte, L11, R11, Int.ofNat_zero, Int.natCast_one, Int.cast_ofNat_Int, Int.reduceLT, Int.reduceLE, Int.reduceToNat, Nat.reduceLT, Int.toNat_zero, Int.natCast_zero, Int.le_refl, Int.lt_irrefl, Int.reduceAdd, frz, false_or, or_true, Int.reduceMul, Int.le_refl]
  change retQ _ _ _ _ _ .ret _
  refine ret_weak (weak_shut 1 rfl) ?_
  refine ret_pure hx ?_
  simp [go_sem, Nat.reduceLT, Nat.reduceAdd, Nat.reduceEqDiff, Nat.reduceLeDiff, Nat.reduceSub, Nat.reduceMul, Int.reduceEq, reduceIte, L11, R11, frzAt, pos]
 exact Meets.nl 4 h0 rfl
end Go.Proofs.YtkgobnnkcnnfhaaGreat
/- What must be in any case of worlds. -/
namespace Go.Proofs.YtkgobnnkcnnfhaaGreat
set_option linter.unusedSimpArgs false
set_option linter.unusedVariables false
open Go.RowKit
def wbT1 : ByteArray := ⟨#[112, 117, 116, 32, 97, 32, 120]⟩
def wbT2 : ByteArray := ⟨#[112, 117, 116, 32, 97, 32, 121]⟩
def wbT3 : ByteArray := ⟨#[112, 117, 116, 32, 98, 32, 122]⟩
def wa1 : Entry := ⟨⟨0, 1⟩, 1, wbT1, []⟩
def wb1 : Entry := ⟨⟨1, 1⟩, 1, wbT2, []⟩
def wb2 : Entry := ⟨⟨1, 2⟩, 1, wbT3, [⟨0, 1⟩, ⟨1, 1⟩]⟩
def wbW1 : Wo := ⟨[wa1], [], [], [], [], [wa1]⟩
def wbW2 : Wo := ⟨[wa1], [], [wb1], [], [wb1], [wa1]⟩
def wbW3 : Wo := ⟨[wa1], [], [wb1, wa1], [], [wb1], []⟩
def wbW4 : Wo := ⟨[wa1], [], [wb1, wa1], [], [], []⟩
def wbW5 : Wo := ⟨[wa1], [], [wb1, wa1, wb2], [], [wb2], []⟩
def wbW6 : Wo := ⟨[wa1], [wb2], [wb1, wa1, wb2], [], [], []⟩
def wbS : Wo := ⟨[wa1, wb1, wb2], [], [wb1, wa1, wb2], [], [], []⟩
def wbA : List (List PV) := [cAct 1 0 0 1 wbT1, cAct 1 1 0 1 wbT2, cAct 2 1 0 0 ⟨#[]⟩, cAct 3 0 0 0 ⟨#[]⟩, cAct 1 1 0 1 wbT3, cAct 2 0 0 0 ⟨#[]⟩]
theorem wb_h1 : sortI (headsC [] 1) = [] := by rw [← heads_eq (log_ok.1 (by decide +kernel))]; decide +kernel
theorem wb_h2 : sortI (headsC [wb1, wa1] 1) = [⟨0, 1⟩, ⟨1, 1⟩] := by rw [← heads_eq (log_ok.1 (by decide +kernel))]; decide +kernel
theorem wb_ok0 : WoOk wNew := woErr_ok.1 (by decide +kernel)
theorem wb_ok1 : WoOk wbW1 := woErr_ok.1 (by decide +kernel)
theorem wb_ok2 : WoOk wbW2 := woErr_ok.1 (by decide +kernel)
theorem wb_ok3 : WoOk wbW3 := woErr_ok.1 (by decide +kernel)
theorem wb_ok4 : WoOk wbW4 := woErr_ok.1 (by decide +kernel)
theorem wb_ok5 : WoOk wbW5 := woErr_ok.1 (by decide +kernel)
theorem wb_ok6 : WoOk wbW6 := woErr_ok.1 (by decide +kernel)
theorem wb_a1 : apE 0 [] 1 wbT1 = wa1 := by rw [apE, wb_h1]; rfl
theorem wb_a2 : apE 1 [] 1 wbT2 = wb1 := by rw [apE, wb_h1]; rfl
theorem wb_a3 : apE 1 [wb1, wa1] 1 wbT3 = wb2 := by rw [apE, wb_h2]; rfl
theorem wb_x1 : apErr 0 [] 1 wbT1 = 0 := by rw [apErr, wb_h1]; decide +kernel
theorem wb_x2 : apErr 1 [] 1 wbT2 = 0 := by rw [apErr, wb_h1]; decide +kernel
theorem wb_x3 : apErr 1 [wb1, wa1] 1 wbT3 = 0 := by rw [apErr, wb_h2]; decide +kernel
theorem doErr_app {w : Wo} {i c : Int} {t : ByteArray} (hi : i = 0 ∨ i = 1) (h : apErr i (w.log i) c t = 0) : doErr w 1 i 0 c t = 0 := by
 rw [doErr, if_neg (by decide), if_neg (by simp [extraB]), if_neg (by simp [hi]), doErr0, if_pos rfl, h]
theorem doW_app {w : Wo} {i c : Int} {t : ByteArray} {e : Entry} (h : apE i (w.log i) c t = e) : doW w 1 i 0 c t = sendW (w.setS i (settled (w.log i ++ [e]) (w.wts i))) (1 - i) e := by
 rw [doW, if_pos rfl, h]
theorem wb_y1 : doErr wNew 1 0 0 1 wbT1 = 0 := doErr_app (w := wNew) (.inl rfl) wb_x1
theorem wb_y2 : doErr wbW1 1 1 0 1 wbT2 = 0 := doErr_app (w := wbW1) (.inr rfl) wb_x2
theorem wb_y5 : doErr wbW4 1 1 0 1 wbT3 = 0 := doErr_app (w := wbW4) (.inr rfl) wb_x3
theorem wb_c1 : doC wNew 1 0 0 1 wbT1 = cWo wbW1 := by
 rw [doC, if_pos wb_y1, doW_app (w := wNew) (e := wa1) wb_a1]; rfl
theorem wb_c2 : doC wbW1 1 1 0 1 wbT2 = cWo wbW2 := by
 rw [doC, if_pos wb_y2, doW_app (w := wbW1) (e := wb1) wb_a2]; rfl
theorem wb_y3 : doErr wbW2 2 1 0 0 ⟨#[]⟩ = 0 := by decide +kernel
theorem wb_z3 : doW wbW2 2 1 0 0 ⟨#[]⟩ = wbW3 := by kernel_rfl
theorem wb_c3 : doC wbW2 2 1 0 0 ⟨#[]⟩ = cWo wbW3 := by rw [doC, if_pos wb_y3, wb_z3]
theorem wb_y4 : doErr wbW3 3 0 0 0 ⟨#[]⟩ = 0 := by decide +kernel
theorem wb_z4 : doW wbW3 3 0 0 0 ⟨#[]⟩ = wbW4 := by kernel_rfl
theorem wb_c4 : doC wbW3 3 0 0 0 ⟨#[]⟩ = cWo wbW4 := by rw [doC, if_pos wb_y4, wb_z4]
theorem wb_c5 : doC wbW4 1 1 0 1 wbT3 = cWo wbW5 := by
 rw [doC, if_pos wb_y5, doW_app (w := wbW4) (e := wb2) wb_a3]; rfl
theorem wb_y6 : doErr wbW5 2 0 0 0 ⟨#[]⟩ = 0 := by decide +kernel
theorem wb_z6 : doW wbW5 2 0 0 0 ⟨#[]⟩ = wbW6 := by kernel_rfl
theorem wb_c6 : doC wbW5 2 0 0 0 ⟨#[]⟩ = cWo wbW6 := by rw [doC, if_pos wb_y6, wb_z6]
theorem wb_s : stW wbW6 = wbS := by kernel_rfl
theorem acts_meets : Meets Tryz.prog 26 [] [] (.list wbA) [] := by
 refine Meets.of_walk Tryz.func26 Tryz.ntmps26 low26 res26 (by simp) fun x hx => ?_
 simp only [go_sem, Nat.reduceLT, Nat.reduceAdd, Nat.reduceEqDiff, Nat.reduceLeDiff, Nat.reduceSub, Nat.reduceMul, Int.reduceEq, reduceIte, L26, R26]
 refine ret_pure hx ?_
 simp [go_sem, Nat.reduceLT, Nat.reduceAdd, Nat.reduceEqDiff, Nat.reduceLeDiff, Nat.reduceSub, Nat.reduceMul, Int.reduceEq, reduceIte, L26, R26, wbA, cAct, wbT1, wbT2, wbT3]
def wbAt : Nat → Wo
 | 0 => wbW6
 | 1 => wbW5
 | 2 => wbW4
 | 3 => wbW3
 | 4 => wbW2
 | 5 => wbW1
 | _ => wNew
theorem wbAt1 : wbAt 1 = wbW5 := rfl
theorem wbAt2 : wbAt 2 = wbW4 := rfl
theorem wbAt3 : wbAt 3 = wbW3 := rfl
theorem wbAt4 : wbAt 4 = wbW2 := rfl
theorem wbAt5 : wbAt 5 = wbW1 := rfl
theorem wbAt0 : wbAt 0 = wbW6 := rfl
theorem wbAt6 : wbAt 6 = wNew := rfl
set_option maxRecDepth 10000 in
set_option maxHeartbeats 4000000 in
theorem worldBegun_meets : Meets Tryz.prog 9 [] [] (.bool true) [] := by
 have d1 := woDo_ok wNew wb_ok0 1 0 0 1 wbT1
 have d2 := woDo_ok wbW1 wb_ok1 1 1 0 1 wbT2
 have d3 := woDo_ok wbW2 wb_ok2 2 1 0 0 ⟨#[]⟩
 have d4 := woDo_ok wbW3 wb_ok3 3 0 0 0 ⟨#[]⟩
 have d5 := woDo_ok wbW4 wb_ok4 1 1 0 1 wbT3
 have d6 := woDo_ok wbW5 wb_ok5 2 0 0 0 ⟨#[]⟩
 rw [wb_c1, wb_y1] at d1
 rw [wb_c2, wb_y2] at d2
 rw [wb_c3, wb_y3] at d3
 rw [wb_c4, wb_y4] at d4
 rw [wb_c5, wb_y5] at d5
 rw [wb_c6, wb_y6] at d6
 have hst := settle_ok wbW6 wb_ok6
 rw [wb_s] at hst
 obtain ⟨o1, o2⟩ := okSs_of wb_ok6
 have hck := worldCheck_meets wbW6.ss wbW6.ys (by simp [Wo.ss]) (by simp [Wo.ys]) o1 o2
 rw [woErr_ok.2 wb_ok6] at hck
 have wrk : ∀ k : Int, 0 ≤ k → k < 7 → IntKind.i64.wrap k = k := fun k h1 h2 => by rw [IntKind.wrap_i64]; omega
 refine Meets.of_walk Tryz.func9 Tryz.ntmps9 low9 res9 (by simp) fun x hx => ?_
 simp only [go_sem, Nat.reduceLT, Nat.reduceAdd, Nat.reduceEqDiff, Nat.reduceLeDiff, Nat.reduceSub, Nat.reduceMul, Int.reduceEq, reduceIte, L9, R9]
 refine ops_call (.pure woNew_meets) ?_
 simp only [go_sem, Nat.reduceLT, Nat.reduceAdd, Nat.reduceEqDiff, Nat.reduceLeDiff, Nat.reduceSub, Nat.reduceMul, Int.reduceEq, reduceIte, Int.ofNat_zero, Int.natCast_one, Int.cast_ofNat_Int, Int.reduceLT, Int.reduceLE, Int.reduceToNat, Nat.reduceLT, Int.toNat_zero, Int.natCast_zero, Int.le_refl, Int.lt_irrefl, Int.reduceAdd, frz, false_or, or_true, cWo, cWd]
 refine loop_inv [1, 2] 1 (fun m st => m ≤ 6 ∧ st = ⟨mkE .top [(1, .ptr 0 0), (2, .int .i64 ((6 - m : Nat) : Int))], [.box (cWo (wbAt m))]⟩) 6 (by simp [hx]) (by simp) ?_ ?_
 ·
  refine ⟨by omega, ?_⟩
  simp [trim_mk, go_sem, Nat.reduceLT, Nat.reduceAdd, Nat.reduceEqDiff, Nat.reduceLeDiff, Nat.reduceSub, Nat.reduceMul, Int.reduceEq, reduceIte, subHeap, renObj, renCell, renLeaf, pos, List.range_succ, cWo, cWd, wbAt6]
 ·
  rintro m st ⟨hm, rfl⟩
  have hm6 : m = 0 ∨ m = 1 ∨ m = 2 ∨ m = 3 ∨ m = 4 ∨ m = 5 ∨ m = 6 := by omega
  rcases hm6 with rfl | rfl | rfl | rfl | rfl | rfl | rfl
  ·
   have e1 : (wbAt 0) = wbW6 := rfl
   rw [e1]
   simp only [go_sem, Nat.reduceLT, Nat.reduceAdd, Nat.reduceEqDiff, Nat.reduceLeDiff, Nat.reduceSub, Nat.reduceMul, Int.reduceEq, reduceIte, Int.ofNat_zero, Int.natCast_one, Int.cast_ofNat_Int, Int.reduceLT, Int.reduceLE, Int.reduceToNat, Nat.reduceLT, Int.toNat_zero, Int.natCast_zero, Int.le_refl, Int.lt_irrefl, Int.reduceAdd, frz, false_or, or_true, cWo, cWd]
   refine ops_call (.pure acts_meets) ?_
   simp only [go_sem, Nat.reduceLT, Nat.reduceAdd, Nat.reduceEqDiff, Nat.reduceLeDiff, Nat.reduceSub, Nat.reduceMul, Int.reduceEq, reduceIte, Int.ofNat_zero, Int.natCast_one, Int.cast_ofNat_Int, Int.reduceLT, Int.reduceLE, Int.reduceToNat, Nat.reduceLT, Int.toNat_zero, Int.natCast_zero, Int.le_refl, Int.lt_irrefl, Int.reduceAdd, frz, false_or, or_true, wbA, cWo, cWd, cAct, List.length_cons, List.length_nil]
   refine ops_call (.pureE hst (by simp [go_sem, Nat.reduceLT, Nat.reduceAdd, Nat.reduceEqDiff, Nat.reduceLeDiff, Nat.reduceSub, Nat.reduceMul, Int.reduceEq, reduceIte, cWo, cWd])) ?_
   simp only [go_sem, Nat.reduceLT, Nat.reduceAdd, Nat.reduceEqDiff, Nat.reduceLeDiff, Nat.reduceSub, Nat.reduceMul, Int.reduceEq, reduceIte, Int.ofNat_zero, Int.natCast_one, Int.cast_ofNat_Int, Int.reduceLT, Int.reduceLE, Int.reduceToNat, Nat.reduceLT, Int.toNat_zero, Int.natCast_zero, Int.le_refl, Int.lt_irrefl, Int.reduceAdd, frz, false_or, or_true, cWo, cWd]
   refine ops_call (.pureE hck (by simp [go_sem, Nat.reduceLT, Nat.reduceAdd, Nat.reduceEqDiff, Nat.reduceLeDiff, Nat.reduceSub, Nat.reduceMul, Int.reduceEq, reduceIte, cWd])) ?_
   simp only [go_sem, Nat.reduceLT, Nat.reduceAdd, Nat.reduceEqDiff, Nat.reduceLeDiff, Nat.reduceSub, Nat.reduceMul, Int.reduceEq, reduceIte, Int.ofNat_zero, Int.natCast_one, Int.cast_ofNat_Int, Int.reduceLT, Int.reduceLE, Int.reduceToNat, Nat.reduceLT, Int.toNat_zero, Int.natCast_zero, Int.le_refl, Int.lt_irrefl, Int.reduceAdd, frz, false_or, or_true, cWo, cWd, Wo.ss, wbS, wbW6, cSi3, cSi, List.map_cons, List.map_nil, List.length_cons, List.length_nil]
   refine ret_pure hx ?_
   simp [go_sem, Nat.reduceLT, Nat.reduceAdd, Nat.reduceEqDiff, Nat.reduceLeDiff, Nat.reduceSub, Nat.reduceMul, Int.reduceEq, reduceIte, L9, R9]
  ·
   skip
   rw [wbAt1]
   simp only [go_sem, Nat.reduceLT, Nat.reduceAdd, Nat.reduceEqDiff, Nat.reduceLeDiff, Nat.reduceSub, Nat.reduceMul, Int.reduceEq, reduceIte, Int.ofNat_zero, Int.natCast_one, Int.cast_ofNat_Int, Int.reduceLT, Int.reduceLE, Int.reduceToNat, Nat.reduceLT, Int.toNat_zero, Int.natCast_zero, Int.le_refl, Int.lt_irrefl, Int.reduceAdd, frz, false_or, or_true, cWo, cWd]
   refine ops_call (.pure acts_meets) ?_
   simp only [go_sem, Nat.reduceLT, Nat.reduceAdd, Nat.reduceEqDiff, Nat.reduceLeDiff, Nat.reduceSub, Nat.reduceMul, Int.reduceEq, reduceIte, Int.ofNat_zero, Int.natCast_one, Int.cast_ofNat_Int, Int.reduceLT, Int.reduceLE, Int.reduceToNat, Nat.reduceLT, Int.toNat_zero, Int.natCast_zero, Int.le_refl, Int.lt_irrefl, Int.reduceAdd, frz, false_or, or_true, wbA, cWo, cWd, cAct, List.length_cons, List.length_nil]
   refine ops_call (.pure acts_meets) ?_
   simp only [go_sem, Nat.reduceLT, Nat.reduceAdd, Nat.reduceEqDiff, Nat.reduceLeDiff, Nat.reduceSub, Nat.reduceMul, Int.reduceEq, reduceIte, Int.ofNat_zero, Int.natCast_one, Int.cast_ofNat_Int, Int.reduceLT, Int.reduceLE, Int.reduceToNat, Nat.reduceLT, Int.toNat_zero, Int.natCast_zero, Int.le_refl, Int.lt_irrefl, Int.reduceAdd, frz, false_or, or_true, wbA, cWo, cWd, cAct, List.length_cons, List.length_nil]
   refine ops_call (.pureE d6 (by simp [go_sem, Nat.reduceLT, Nat.reduceAdd, Nat.reduceEqDiff, Nat.reduceLeDiff, Nat.reduceSub, Nat.reduceMul, Int.reduceEq, reduceIte, cWo, cWd, cAct])) ?_
   simp only [go_sem, Nat.reduceLT, Nat.reduceAdd, Nat.reduceEqDiff, Nat.reduceLeDiff, Nat.reduceSub, Nat.reduceMul, Int.reduceEq, reduceIte, Int.ofNat_zero, Int.natCast_one, Int.cast_ofNat_Int, Int.reduceLT, Int.reduceLE, Int.reduceToNat, Nat.reduceLT, Int.toNat_zero, Int.natCast_zero, Int.le_refl, Int.lt_irrefl, Int.reduceAdd, frz, false_or, or_true, cWo, cWd, wrk]
   repeat refine ⟨rfl, ?_⟩
   refine ⟨by simp, 0, by omega, ?_⟩
   simp [trim_mk, go_sem, Nat.reduceLT, Nat.reduceAdd, Nat.reduceEqDiff, Nat.reduceLeDiff, Nat.reduceSub, Nat.reduceMul, Int.reduceEq, reduceIte, subHeap, renObj, renCell, renLeaf, pos, List.range_succ, cWo, cWd, wrk, wbAt0]
  ·
   skip
   rw [wbAt2]
   simp only [go_sem, Nat.reduceLT, Nat.reduceAdd, Nat.reduceEqDiff, Nat.reduceLeDiff, Nat.reduceSub, Nat.reduceMul, Int.reduceEq, reduceIte, Int.ofNat_zero, Int.natCast_one, Int.cast_ofNat_Int, Int.reduceLT, Int.reduceLE, Int.reduceToNat, Nat.reduceLT, Int.toNat_zero, Int.natCast_zero, Int.le_refl, Int.lt_irrefl, Int.reduceAdd, frz, false_or, or_true, cWo, cWd]
   refine ops_call (.pure acts_meets) ?_
   simp only [go_sem, Nat.reduceLT, Nat.reduceAdd, Nat.reduceEqDiff, Nat.reduceLeDiff, Nat.reduceSub, Nat.reduceMul, Int.reduceEq, reduceIte, Int.ofNat_zero, Int.natCast_one, Int.cast_ofNat_Int, Int.reduceLT, Int.reduceLE, Int.reduceToNat, Nat.reduceLT, Int.toNat_zero, Int.natCast_zero, Int.le_refl, Int.lt_irrefl, Int.reduceAdd, frz, false_or, or_true, wbA, cWo, cWd, cAct, List.length_cons, List.length_nil]
   refine ops_call (.pure acts_meets) ?_
   simp only [go_sem, Nat.reduceLT, Nat.reduceAdd, Nat.reduceEqDiff, Nat.reduceLeDiff, Nat.reduceSub, Nat.reduceMul, Int.reduceEq, reduceIte, Int.ofNat_zero, Int.natCast_one, Int.cast_ofNat_Int, Int.reduceLT, Int.reduceLE, Int.reduceToNat, Nat.reduceLT, Int.toNat_zero, Int.natCast_zero, Int.le_refl, Int.lt_irrefl, Int.reduceAdd, frz, false_or, or_true, wbA, cWo, cWd, cAct, List.length_cons, List.length_nil]
   refine ops_call (.pureE d5 (by simp [go_sem, Nat.reduceLT, Nat.reduceAdd, Nat.reduceEqDiff, Nat.reduceLeDiff, Nat.reduceSub, Nat.reduceMul, Int.reduceEq, reduceIte, cWo, cWd, cAct])) ?_
   simp only [go_sem, Nat.reduceLT, Nat.reduceAdd, Nat.reduceEqDiff, Nat.reduceLeDiff, Nat.reduceSub, Nat.reduceMul, Int.reduceEq, reduceIte, Int.ofNat_zero, Int.natCast_one, Int.cast_ofNat_Int, Int.reduceLT, Int.reduceLE, Int.reduceToNat, Nat.reduceLT, Int.toNat_zero, Int.natCast_zero, Int.le_refl, Int.lt_irrefl, Int.reduceAdd, frz, false_or, or_true, cWo, cWd, wrk]
   repeat refine ⟨rfl, ?_⟩
   refine ⟨by simp, 1, by omega, ?_⟩
   simp [trim_mk, go_sem, Nat.reduceLT, Nat.reduceAdd, Nat.reduceEqDiff, Nat.reduceLeDiff, Nat.reduceSub, Nat.reduceMul, Int.reduceEq, reduceIte, subHeap, renObj, renCell, renLeaf, pos, List.range_succ, cWo, cWd, wrk, wbAt1]
  ·
   skip
   rw [wbAt3]
   simp only [go_sem, Nat.reduceLT, Nat.reduceAdd, Nat.reduceEqDiff, Nat.reduceLeDiff, Nat.reduceSub, Nat.reduceMul, Int.reduceEq, reduceIte, Int.ofNat_zero, Int.natCast_one, Int.cast_ofNat_Int, Int.reduceLT, Int.reduceLE, Int.reduceToNat, Nat.reduceLT, Int.toNat_zero, Int.natCast_zero, Int.le_refl, Int.lt_irrefl, Int.reduceAdd, frz, false_or, or_true, cWo, cWd]
   refine ops_call (.pure acts_meets) ?_
   simp only [go_sem, Nat.reduceLT, Nat.reduceAdd, Nat.reduceEqDiff, Nat.reduceLeDiff, Nat.reduceSub, Nat.reduceMul, Int.reduceEq, reduceIte, Int.ofNat_zero, Int.natCast_one, Int.cast_ofNat_Int, Int.reduceLT, Int.reduceLE, Int.reduceToNat, Nat.reduceLT, Int.toNat_zero, Int.natCast_zero, Int.le_refl, Int.lt_irrefl, Int.reduceAdd, frz, false_or, or_true, wbA, cWo, cWd, cAct, List.length_cons, List.length_nil]
   refine ops_call (.pure acts_meets) ?_
   simp only [go_sem, Nat.reduceLT, Nat.reduceAdd, Nat.reduceEqDiff, Nat.reduceLeDiff, Nat.reduceSub, Nat.reduceMul, Int.reduceEq, reduceIte, Int.ofNat_zero, Int.natCast_one, Int.cast_ofNat_Int, Int.reduceLT, Int.reduceLE, Int.reduceToNat, Nat.reduceLT, Int.toNat_zero, Int.natCast_zero, Int.le_refl, Int.lt_irrefl, Int.reduceAdd, frz, false_or, or_true, wbA, cWo, cWd, cAct, List.length_cons, List.length_nil]
   refine ops_call (.pureE d4 (by simp [go_sem, Nat.reduceLT, Nat.reduceAdd, Nat.reduceEqDiff, Nat.reduceLeDiff, Nat.reduceSub, Nat.reduceMul, Int.reduceEq, reduceIte, cWo, cWd, cAct])) ?_
   simp only [go_sem, Nat.reduceLT, Nat.reduceAdd, Nat.reduceEqDiff, Nat.reduceLeDiff, Nat.reduceSub, Nat.reduceMul, Int.reduceEq, reduceIte, Int.ofNat_zero, Int.natCast_one, Int.cast_ofNat_Int, Int.reduceLT, Int.reduceLE, Int.reduceToNat, Nat.reduceLT, Int.toNat_zero, Int.natCast_zero, Int.le_refl, Int.lt_irrefl, Int.reduceAdd, frz, false_or, or_true, cWo, cWd, wrk]
   repeat refine ⟨rfl, ?_⟩
   refine ⟨by simp, 2, by omega, ?_⟩
   simp [trim_mk, go_sem, Nat.reduceLT, Nat.reduceAdd, Nat.reduceEqDiff, Nat.reduceLeDiff, Nat.reduceSub, Nat.reduceMul, Int.reduceEq, reduceIte, subHeap, renObj, renCell, renLeaf, pos, List.range_succ, cWo, cWd, wrk, wbAt2]
  ·
   skip
   rw [wbAt4]
   simp only [go_sem, Nat.reduceLT, Nat.reduceAdd, Nat.reduceEqDiff, Nat.reduceLeDiff, Nat.reduceSub, Nat.reduceMul, Int.reduceEq, reduceIte, Int.ofNat_zero, Int.natCast_one, Int.cast_ofNat_Int, Int.reduceLT, Int.reduceLE, Int.reduceToNat, Nat.reduceLT, Int.toNat_zero, Int.natCast_zero, Int.le_refl, Int.lt_irrefl, Int.reduceAdd, frz, false_or, or_true, cWo, cWd]
   refine ops_call (.pure acts_meets) ?_
   simp only [go_sem, Nat.reduceLT, Nat.reduceAdd, Nat.reduceEqDiff, Nat.reduceLeDiff, Nat.reduceSub, Nat.reduceMul, Int.reduceEq, reduceIte, Int.ofNat_zero, Int.natCast_one, Int.cast_ofNat_Int, Int.reduceLT, Int.reduceLE, Int.reduceToNat, Nat.reduceLT, Int.toNat_zero, Int.natCast_zero, Int.le_refl, Int.lt_irrefl, Int.reduceAdd, frz, false_or, or_true, wbA, cWo, cWd, cAct, List.length_cons, List.length_nil]
   refine ops_call (.pure acts_meets) ?_
   simp only [go_sem, Nat.reduceLT, Nat.reduceAdd, Nat.reduceEqDiff, Nat.reduceLeDiff, Nat.reduceSub, Nat.reduceMul, Int.reduceEq, reduceIte, Int.ofNat_zero, Int.natCast_one, Int.cast_ofNat_Int, Int.reduceLT, Int.reduceLE, Int.reduceToNat, Nat.reduceLT, Int.toNat_zero, Int.natCast_zero, Int.le_refl, Int.lt_irrefl, Int.reduceAdd, frz, false_or, or_true, wbA, cWo, cWd, cAct, List.length_cons, List.length_nil]
   refine ops_call (.pureE d3 (by simp [go_sem, Nat.reduceLT, Nat.reduceAdd, Nat.reduceEqDiff, Nat.reduceLeDiff, Nat.reduceSub, Nat.reduceMul, Int.reduceEq, reduceIte, cWo, cWd, cAct])) ?_
   simp only [go_sem, Nat.reduceLT, Nat.reduceAdd, Nat.reduceEqDiff, Nat.reduceLeDiff, Nat.reduceSub, Nat.reduceMul, Int.reduceEq, reduceIte, Int.ofNat_zero, Int.natCast_one, Int.cast_ofNat_Int, Int.reduceLT, Int.reduceLE, Int.reduceToNat, Nat.reduceLT, Int.toNat_zero, Int.natCast_zero, Int.le_refl, Int.lt_irrefl, Int.reduceAdd, frz, false_or, or_true, cWo, cWd, wrk]
   repeat refine ⟨rfl, ?_⟩
   refine ⟨by simp, 3, by omega, ?_⟩
   simp [trim_mk, go_sem, Nat.reduceLT, Nat.reduceAdd, Nat.reduceEqDiff, Nat.reduceLeDiff, Nat.reduceSub, Nat.reduceMul, Int.reduceEq, reduceIte, subHeap, renObj, renCell, renLeaf, pos, List.range_succ, cWo, cWd, wrk, wbAt3]
  ·
   skip
   rw [wbAt5]
   simp only [go_sem, Nat.reduceLT, Nat.reduceAdd, Nat.reduceEqDiff, Nat.reduceLeDiff, Nat.reduceSub, Nat.reduceMul, Int.reduceEq, reduceIte, Int.ofNat_zero, Int.natCast_one, Int.cast_ofNat_Int, Int.reduceLT, Int.reduceLE, Int.reduceToNat, Nat.reduceLT, Int.toNat_zero, Int.natCast_zero, Int.le_refl, Int.lt_irrefl, Int.reduceAdd, frz, false_or, or_true, cWo, cWd]
   refine ops_call (.pure acts_meets) ?_
   simp only [go_sem, Nat.reduceLT, Nat.reduceAdd, Nat.reduceEqDiff, Nat.reduceLeDiff, Nat.reduceSub, Nat.reduceMul, Int.reduceEq, reduceIte, Int.ofNat_zero, Int.natCast_one, Int.cast_ofNat_Int, Int.reduceLT, Int.reduceLE, Int.reduceToNat, Nat.reduceLT, Int.toNat_zero, Int.natCast_zero, Int.le_refl, Int.lt_irrefl, Int.reduceAdd, frz, false_or, or_true, wbA, cWo, cWd, cAct, List.length_cons, List.length_nil]
   refine ops_call (.pure acts_meets) ?_
   simp only [go_sem, Nat.reduceLT, Nat.reduceAdd, Nat.reduceEqDiff, Nat.reduceLeDiff, Nat.reduceSub, Nat.reduceMul, Int.reduceEq, reduceIte, Int.ofNat_zero, Int.natCast_one, Int.cast_ofNat_Int, Int.reduceLT, Int.reduceLE, Int.reduceToNat, Nat.reduceLT, Int.toNat_zero, Int.natCast_zero, Int.le_refl, Int.lt_irrefl, Int.reduceAdd, frz, false_or, or_true, wbA, cWo, cWd, cAct, List.length_cons, List.length_nil]
   refine ops_call (.pureE d2 (by simp [go_sem, Nat.reduceLT, Nat.reduceAdd, Nat.reduceEqDiff, Nat.reduceLeDiff, Nat.reduceSub, Nat.reduceMul, Int.reduceEq, reduceIte, cWo, cWd, cAct])) ?_
   simp only [go_sem, Nat.reduceLT, Nat.reduceAdd, Nat.reduceEqDiff, Nat.reduceLeDiff, Nat.reduceSub, Nat.reduceMul, Int.reduceEq, reduceIte, Int.ofNat_zero, Int.natCast_one, Int.cast_ofNat_Int, Int.reduceLT, Int.reduceLE, Int.reduceToNat, Nat.reduceLT, Int.toNat_zero, Int.natCast_zero, Int.le_refl, Int.lt_irrefl, Int.reduceAdd, frz, false_or, or_true, cWo, cWd, wrk]
   repeat refine ⟨rfl, ?_⟩
   refine ⟨by simp, 4, by omega, ?_⟩
   simp [trim_mk, go_sem, Nat.reduceLT, Nat.reduceAdd, Nat.reduceEqDiff, Nat.reduceLeDiff, Nat.reduceSub, Nat.reduceMul, Int.reduceEq, reduceIte, subHeap, renObj, renCell, renLeaf, pos, List.range_succ, cWo, cWd, wrk, wbAt4]
  ·
   skip
   rw [wbAt6]
   simp only [go_sem, Nat.reduceLT, Nat.reduceAdd, Nat.reduceEqDiff, Nat.reduceLeDiff, Nat.reduceSub, Nat.reduceMul, Int.reduceEq, reduceIte, Int.ofNat_zero, Int.natCast_one, Int.cast_ofNat_Int, Int.reduceLT, Int.reduceLE, Int.reduceToNat, Nat.reduceLT, Int.toNat_zero, Int.natCast_zero, Int.le_refl, Int.lt_irrefl, Int.reduceAdd, frz, false_or, or_true, cWo, cWd]
   refine ops_call (.pure acts_meets) ?_
   simp only [go_sem, Nat.reduceLT, Nat.reduceAdd, Nat.reduceEqDiff, Nat.reduceLeDiff, Nat.reduceSub, Nat.reduceMul, Int.reduceEq, reduceIte, Int.ofNat_zero, Int.natCast_one, Int.cast_ofNat_Int, Int.reduceLT, Int.reduceLE, Int.reduceToNat, Nat.reduceLT, Int.toNat_zero, Int.natCast_zero, Int.le_refl, Int.lt_irrefl, Int.reduceAdd, frz, false_or, or_true, wbA, cWo, cWd, cAct, List.length_cons, List.length_nil]
   refine ops_call (.pure acts_meets) ?_
   simp only [go_sem, Nat.reduceLT, Nat.reduceAdd, Nat.reduceEqDiff, Nat.reduceLeDiff, Nat.reduceSub, Nat.reduceMul, Int.reduceEq, reduceIte, Int.ofNat_zero, Int.natCast_one, Int.cast_ofNat_Int, Int.reduceLT, Int.reduceLE, Int.reduceToNat, Nat.reduceLT, Int.toNat_zero, Int.natCast_zero, Int.le_refl, Int.lt_irrefl, Int.reduceAdd, frz, false_or, or_true, wbA, cWo, cWd, cAct, List.length_cons, List.length_nil]
   refine ops_call (.pureE d1 (by simp [go_sem, Nat.reduceLT, Nat.reduceAdd, Nat.reduceEqDiff, Nat.reduceLeDiff, Nat.reduceSub, Nat.reduceMul, Int.reduceEq, reduceIte, cWo, cWd, cAct])) ?_
   simp only [go_sem, Nat.reduceLT, Nat.reduceAdd, Nat.reduceEqDiff, Nat.reduceLeDiff, Nat.reduceSub, Nat.reduceMul, Int.reduceEq, reduceIte, Int.ofNat_zero, Int.natCast_one, Int.cast_ofNat_Int, Int.reduceLT, Int.reduceLE, Int.reduceToNat, Nat.reduceLT, Int.toNat_zero, Int.natCast_zero, Int.le_refl, Int.lt_irrefl, Int.reduceAdd, frz, false_or, or_true, cWo, cWd, wrk]
   repeat refine ⟨rfl, ?_⟩
   refine ⟨by simp, 5, by omega, ?_⟩
   simp [trim_mk, go_sem, Nat.reduceLT, Nat.reduceAdd, Nat.reduceEqDiff, Nat.reduceLeDiff, Nat.reduceSub, Nat.reduceMul, Int.reduceEq, reduceIte, subHeap, renObj, renCell, renLeaf, pos, List.range_succ, cWo, cWd, wrk, wbAt5]
end Go.Proofs.YtkgobnnkcnnfhaaGreat
/- Worlds, in the law text's words: SameWorld at one world twice, worldIs, CheckWorld: contracts. -/
namespace Go.Proofs.YtkgobnnkcnnfhaaGreat
set_option linter.unusedSimpArgs false
set_option linter.unusedVariables false
open Go.RowKit
theorem cYs_get {ys : List (List Entry)} {k : Nat} (h : k < ys.length) : (cYs ys)[k]? = some [.list ((nth ys k).map cE)] := by
 unfold cYs; rw [List.getElem?_map, nth_get? _ _ h]; rfl
theorem cYs_len (ys : List (List Entry)) : (cYs ys).length = ys.length := by simp [cYs]
theorem sameWorld_meets (ss : List Si) (ys : List (List Entry)) (hs : ss.length ≤ 1000000000000000) (hy : ys.length ≤ 1000000000000000) (ho : okSs ss) (hoy : okYs ys) : Meets Tryz.prog 10 [.agg (cWd ss ys), .agg (cWd ss ys)] [] (.bool true) [] := by
 refine Meets.of_walk Tryz.func10 Tryz.ntmps10 low10 res10 (by simp) fun x hx => ?_
 simp only [go_sem, Nat.reduceLT, Nat.reduceAdd, Nat.reduceEqDiff, Nat.reduceLeDiff, Nat.reduceSub, Nat.reduceMul, Int.reduceEq, reduceIte, L10, R10, cWd, cYs_len]
 refine loop_inv [2, 3, 5] 2 (fun m st => ∃ k : Nat, k + m = ss.length ∧
  st = ⟨mkE .top [(2, .ptr 0 0), (3, .ptr 1 0), (5, .int .i64 k)], [.box (cWd ss ys), .box (cWd ss ys)]⟩) ss.length (by simp [hx]) (by simp) ?_ ?_
 ·
  refine ⟨0, by omega, ?_⟩
  simp [trim_mk, go_sem, Nat.reduceLT, Nat.reduceAdd, Nat.reduceEqDiff, Nat.reduceLeDiff, Nat.reduceSub, Nat.reduceMul, Int.reduceEq, reduceIte, subHeap, renObj, pos, List.range_succ, cWd]
 ·
  rintro m st ⟨k, hk, rfl⟩
  by_cases hlt : k < ss.length
  ·
   have hg : ss[k]? = some (nth ss k) := nth_get? _ _ hlt
   have wk := i64_up (k := k) (by omega)
   obtain ⟨l1, l2⟩ := nthS hlt ho
   simp only [go_sem, Nat.reduceLT, Nat.reduceAdd, Nat.reduceEqDiff, Nat.reduceLeDiff, Nat.reduceSub, Nat.reduceMul, Int.reduceEq, reduceIte, hlt, hg, cSi3, cSi, cWd]
   refine ops_call (.pureE (sameSite_meets (nth ss k) (by omega) (by omega)) (by simp [go_sem, Nat.reduceLT, Nat.reduceAdd, Nat.reduceEqDiff, Nat.reduceLeDiff, Nat.reduceSub, Nat.reduceMul, Int.reduceEq, reduceIte, cSi3, cSi])) ?_
   simp only [go_sem, Nat.reduceLT, Nat.reduceAdd, Nat.reduceEqDiff, Nat.reduceLeDiff, Nat.reduceSub, Nat.reduceMul, Int.reduceEq, reduceIte, wk]
   repeat refine ⟨rfl, ?_⟩
   refine ⟨by simp, m - 1, by omega, k + 1, by omega, ?_⟩
   simp [trim_mk, go_sem, Nat.reduceLT, Nat.reduceAdd, Nat.reduceEqDiff, Nat.reduceLeDiff, Nat.reduceSub, Nat.reduceMul, Int.reduceEq, reduceIte, subHeap, renObj, pos, List.range_succ, cWd]
  ·
   simp only [go_sem, Nat.reduceLT, Nat.reduceAdd, Nat.reduceEqDiff, Nat.reduceLeDiff, Nat.reduceSub, Nat.reduceMul, Int.reduceEq, reduceIte, hlt, cWd]
   refine loop_inv [2, 3, 6] 2 (fun m st => ∃ k : Nat, k + m = ys.length ∧
    st = ⟨mkE .top [(2, .ptr 0 0), (3, .ptr 1 0), (6, .int .i64 k)], [.box (cWd ss ys), .box (cWd ss ys)]⟩) ys.length (by simp [hx]) (by simp) ?_ ?_
   ·
    refine ⟨0, by omega, ?_⟩
    simp [trim_mk, go_sem, Nat.reduceLT, Nat.reduceAdd, Nat.reduceEqDiff, Nat.reduceLeDiff, Nat.reduceSub, Nat.reduceMul, Int.reduceEq, reduceIte, subHeap, renObj, pos, List.range_succ, cWd]
   ·
    rintro m st ⟨k, hk, rfl⟩
    by_cases hlt : k < ys.length
    ·
     have wk := i64_up (k := k) (by omega)
     have l1 := nthY hlt hoy
     have hlt' : k < (cYs ys).length := by rw [cYs_len]; exact hlt
     simp only [go_sem, Nat.reduceLT, Nat.reduceAdd, Nat.reduceEqDiff, Nat.reduceLeDiff, Nat.reduceSub, Nat.reduceMul, Int.reduceEq, reduceIte, hlt, hlt', cYs_get hlt, cYs_len, cWd]
     refine ops_call (.pureE (sameLog_meets (nth ys k) (by omega)) (by simp [go_sem, Nat.reduceLT, Nat.reduceAdd, Nat.reduceEqDiff, Nat.reduceLeDiff, Nat.reduceSub, Nat.reduceMul, Int.reduceEq, reduceIte])) ?_
     simp only [go_sem, Nat.reduceLT, Nat.reduceAdd, Nat.reduceEqDiff, Nat.reduceLeDiff, Nat.reduceSub, Nat.reduceMul, Int.reduceEq, reduceIte, wk]
     repeat refine ⟨rfl, ?_⟩
     refine ⟨by simp, m - 1, by omega, k + 1, by omega, ?_⟩
     simp [trim_mk, go_sem, Nat.reduceLT, Nat.reduceAdd, Nat.reduceEqDiff, Nat.reduceLeDiff, Nat.reduceSub, Nat.reduceMul, Int.reduceEq, reduceIte, subHeap, renObj, pos, List.range_succ, cWd]
    ·
     simp only [go_sem, Nat.reduceLT, Nat.reduceAdd, Nat.reduceEqDiff, Nat.reduceLeDiff, Nat.reduceSub, Nat.reduceMul, Int.reduceEq, reduceIte, hlt, cYs_len, cWd]
     refine ret_pure hx ?_
     simp [go_sem, Nat.reduceLT, Nat.reduceAdd, Nat.reduceEqDiff, Nat.reduceLeDiff, Nat.reduceSub, Nat.reduceMul, Int.reduceEq, reduceIte, L10, R10]
theorem worldIs_meets (e : Int) (ss : List Si) (ys : List (List Entry)) (hs : ss.length ≤ 1000000000000000) (hy : ys.length ≤ 1000000000000000) (ho : okSs ss) (hoy : okYs ys) :
    Meets Tryz.prog 14 [.agg (if e = 0 then cWd ss ys else cWoN), .int .i64 e, .int .i64 e, .agg (cWd ss ys)] [] (.bool true) [] := by
  refine Meets.of_walk Tryz.func14 Tryz.ntmps14 low14 res14 (by simp) fun x hx => ?_
  by_cases h : e = 0
  · simp only [go_sem, Nat.reduceLT, Nat.reduceAdd, Nat.reduceEqDiff, Nat.reduceLeDiff, Nat.reduceSub, Nat.reduceMul, Int.reduceEq, reduceIte, L14, R14, h, cWd]
    refine ops_call (.pureE (sameWorld_meets ss ys hs hy ho hoy) (by simp [go_sem, Nat.reduceLT, Nat.reduceAdd, Nat.reduceEqDiff, Nat.reduceLeDiff, Nat.reduceSub, Nat.reduceMul, Int.reduceEq, reduceIte, cWd])) ?_
    simp only [go_sem, Nat.reduceLT, Nat.reduceAdd, Nat.reduceEqDiff, Nat.reduceLeDiff, Nat.reduceSub, Nat.reduceMul, Int.reduceEq, reduceIte]
    refine ret_pure hx ?_
    simp [go_sem, Nat.reduceLT, Nat.reduceAdd, Nat.reduceEqDiff, Nat.reduceLeDiff, Nat.reduceSub, Nat.reduceMul, Int.reduceEq, reduceIte, L14, R14]
  · simp only [go_sem, Nat.reduceLT, Nat.reduceAdd, Nat.reduceEqDiff, Nat.reduceLeDiff, Nat.reduceSub, Nat.reduceMul, Int.reduceEq, reduceIte, L14, R14, h, cWd, cWoN]
    refine ops_call (.pureE (sameWorld_meets [] [] (by simp) (by simp) (by intro s h; cases h) (by intro s h; cases h)) (by simp [go_sem, Nat.reduceLT, Nat.reduceAdd, Nat.reduceEqDiff, Nat.reduceLeDiff, Nat.reduceSub, Nat.reduceMul, Int.reduceEq, reduceIte, cWd, cYs])) ?_
    simp only [go_sem, Nat.reduceLT, Nat.reduceAdd, Nat.reduceEqDiff, Nat.reduceLeDiff, Nat.reduceSub, Nat.reduceMul, Int.reduceEq, reduceIte]
    refine ret_pure hx ?_
    simp [go_sem, Nat.reduceLT, Nat.reduceAdd, Nat.reduceEqDiff, Nat.reduceLeDiff, Nat.reduceSub, Nat.reduceMul, Int.reduceEq, reduceIte, L14, R14]
set_option maxRecDepth 10000 in
set_option maxHeartbeats 4000000 in
theorem checkWorld_meets (ss : List Si) (ys : List (List Entry)) (hs : ss.length ≤ 1000000000000000) (hy : ys.length ≤ 1000000000000000) (ho : okSs ss) (hoy : okYs ys) : Meets Tryz.prog 6 [.agg (cWd ss ys)] [] (.int .i64 (woErr ss ys)) [] := by
 refine Meets.of_walk Tryz.func6 Tryz.ntmps6 low6 res6 (by simp) fun x hx => ?_
 by_cases h1 : (ss.length : Int) = 2
 ·
  by_cases h2 : (ys.length : Int) = 2
  ·
   have s2 : ss.length = 2 := by omega
   have y2 : ys.length = 2 := by omega
   have e1 : woErr ss ys = if firstNZ (steE ss) 2 ≠ 0 then firstNZ (steE ss) 2 else if firstNZ (fun i => wayErr ss (nth ys i)) 2 ≠ 0 then firstNZ (fun i => wayErr ss (nth ys i)) 2 else if strTo ss 2 = true then 4 else 0 := by rw [woErr, if_neg (by simp [s2, y2]), strTo_two s2]
   have hyl : (cYs ys).length = ys.length := by simp [cYs]
   simp only [go_sem, Nat.reduceLT, Nat.reduceAdd, Nat.reduceEqDiff, Nat.reduceLeDiff, Nat.reduceSub, Nat.reduceMul, Int.reduceEq, reduceIte, L6, R6, cWd, h1, h2, hyl]
   refine loop_inv [1, 3] 1 (fun m st => ∃ k : Nat, k + m = 2 ∧ firstNZ (steE ss) k = 0 ∧
    st = ⟨mkE .top [(1, .ptr 0 0), (3, .int .i64 k)], [.box (cWd ss ys)]⟩) 2 (by simp [hx]) (by simp) ?_ ?_
   ·
    refine ⟨0, by omega, rfl, ?_⟩
    simp [trim_mk, go_sem, Nat.reduceLT, Nat.reduceAdd, Nat.reduceEqDiff, Nat.reduceLeDiff, Nat.reduceSub, Nat.reduceMul, Int.reduceEq, reduceIte, subHeap, renObj, pos, List.range_succ, cWd]
   ·
    rintro m st ⟨k, hk, hz, rfl⟩
    by_cases hk2 : (k : Int) < 2
    ·
     have hlt : k < ss.length := by omega
     have hg : ss[k]? = some (nth ss k) := nth_get? _ _ hlt
     have wk := i64_up (k := k) (by omega)
     obtain ⟨l1, l2⟩ := nthS hlt ho
     have fin : ∀ q : Int, steE ss k = q → q ≠ 0 → woErr ss ys = q := fun q h3 h4 => by rw [e1, firstNZ_hit hz (by rw [h3]; exact h4) (by omega : k < 2), h3, if_pos h4]
     simp only [go_sem, Nat.reduceLT, Nat.reduceAdd, Nat.reduceEqDiff, Nat.reduceLeDiff, Nat.reduceSub, Nat.reduceMul, Int.reduceEq, reduceIte, hk2, hlt, hg, cSi3, cSi, cWd]
     refine ops_call (.pureE (checkSite_meets (nth ss k).1 (nth ss k).2.1 (nth ss k).2.2 (by omega) (by omega)) (by simp [go_sem, Nat.reduceLT, Nat.reduceAdd, Nat.reduceEqDiff, Nat.reduceLeDiff, Nat.reduceSub, Nat.reduceMul, Int.reduceEq, reduceIte, cSi])) ?_
     by_cases h3 : siErr (nth ss k).1 (nth ss k).2.1 (nth ss k).2.2 = 0
     ·
      by_cases h4 : (nth ss k).1 = (k : Int)
      ·
       have h5 : steE ss k = 0 := by rw [steE, if_pos h3, if_pos h4]
       simp only [go_sem, Nat.reduceLT, Nat.reduceAdd, Nat.reduceEqDiff, Nat.reduceLeDiff, Nat.reduceSub, Nat.reduceMul, Int.reduceEq, reduceIte, h3, hlt, hg, cSi3, cSi, cWd]
       simp only [go_sem, Nat.reduceLT, Nat.reduceAdd, Nat.reduceEqDiff, Nat.reduceLeDiff, Nat.reduceSub, Nat.reduceMul, Int.reduceEq, reduceIte, h4, wk]
       refine ⟨by simp, m - 1, by omega, k + 1, by omega, firstNZ_succ hz h5, ?_⟩
       simp [trim_mk, go_sem, Nat.reduceLT, Nat.reduceAdd, Nat.reduceEqDiff, Nat.reduceLeDiff, Nat.reduceSub, Nat.reduceMul, Int.reduceEq, reduceIte, subHeap, renObj, pos, List.range_succ, cWd]
      ·
       have h5 : steE ss k = 4 := by rw [steE, if_pos h3, if_neg h4]
       simp only [go_sem, Nat.reduceLT, Nat.reduceAdd, Nat.reduceEqDiff, Nat.reduceLeDiff, Nat.reduceSub, Nat.reduceMul, Int.reduceEq, reduceIte, h3, hlt, hg, cSi3, cSi, cWd]
       simp only [go_sem, Nat.reduceLT, Nat.reduceAdd, Nat.reduceEqDiff, Nat.reduceLeDiff, Nat.reduceSub, Nat.reduceMul, Int.reduceEq, reduceIte, h4]
       refine ret_pure hx ?_
       simp [go_sem, Nat.reduceLT, Nat.reduceAdd, Nat.reduceEqDiff, Nat.reduceLeDiff, Nat.reduceSub, Nat.reduceMul, Int.reduceEq, reduceIte, L6, R6, fin 4 h5 (by decide)]
     ·
      have h5 : steE ss k = siErr (nth ss k).1 (nth ss k).2.1 (nth ss k).2.2 := by rw [steE, if_neg h3]
      simp only [go_sem, Nat.reduceLT, Nat.reduceAdd, Nat.reduceEqDiff, Nat.reduceLeDiff, Nat.reduceSub, Nat.reduceMul, Int.reduceEq, reduceIte, h3]
      refine ret_pure hx ?_
      simp [go_sem, Nat.reduceLT, Nat.reduceAdd, Nat.reduceEqDiff, Nat.reduceLeDiff, Nat.reduceSub, Nat.reduceMul, Int.reduceEq, reduceIte, L6, R6, fin _ h5 h3]
    ·
     obtain rfl : k = 2 := by omega
     have hst : ∀ j, j < 2 → steE ss j = 0 := firstNZ_zero.1 hz
     have e2 : woErr ss ys = if firstNZ (fun i => wayErr ss (nth ys i)) 2 ≠ 0 then firstNZ (fun i => wayErr ss (nth ys i)) 2 else if strTo ss 2 = true then 4 else 0 := by rw [e1, if_neg (by simp [hz])]
     simp only [go_sem, Nat.reduceLT, Nat.reduceAdd, Nat.reduceEqDiff, Nat.reduceLeDiff, Nat.reduceSub, Nat.reduceMul, Int.reduceEq, reduceIte, hk2, cWd]
     refine loop_inv [1, 5] 1 (fun m st => ∃ k : Nat, k + m = 2 ∧ firstNZ (fun i => wayErr ss (nth ys i)) k = 0 ∧
      st = ⟨mkE .top [(1, .ptr 0 0), (5, .int .i64 k)], [.box (cWd ss ys)]⟩) 2 (by simp [hx]) (by simp) ?_ ?_
     ·
      refine ⟨0, by omega, rfl, ?_⟩
      simp [trim_mk, go_sem, Nat.reduceLT, Nat.reduceAdd, Nat.reduceEqDiff, Nat.reduceLeDiff, Nat.reduceSub, Nat.reduceMul, Int.reduceEq, reduceIte, subHeap, renObj, pos, List.range_succ, cWd]
     ·
      rintro m st ⟨k, hk, hz2, rfl⟩
      by_cases hk2 : (k : Int) < 2
      ·
       have hlt : k < ys.length := by omega
       have hg := cYs_get hlt
       have wk := i64_up (k := k) (by omega)
       have l1 := nthY hlt hoy
       have hkl : k < (cYs ys).length := by omega
       have fin : ∀ q : Int, wayErr ss (nth ys k) = q → q ≠ 0 → woErr ss ys = q := fun q h3 h4 => by rw [e2, firstNZ_hit hz2 (by simp only [h3]; exact h4) (by omega : k < 2)]; simp only [h3]; rw [if_pos h4]
       by_cases h30 : (30 : Int) < ((nth ys k).length : Int)
       ·
        have h3 : wayErr ss (nth ys k) = 2 := by rw [wayErr, if_pos (by omega)]
        simp only [go_sem, Nat.reduceLT, Nat.reduceAdd, Nat.reduceEqDiff, Nat.reduceLeDiff, Nat.reduceSub, Nat.reduceMul, Int.reduceEq, reduceIte, hk2, hkl, hg, cWd, h30]
        refine ret_pure hx ?_
        simp [go_sem, Nat.reduceLT, Nat.reduceAdd, Nat.reduceEqDiff, Nat.reduceLeDiff, Nat.reduceSub, Nat.reduceMul, Int.reduceEq, reduceIte, L6, R6, fin 2 h3 (by decide)]
       ·
        have hwe : wayErr ss (nth ys k) = firstNZ (wayE ss (nth ys k)) (nth ys k).length := by rw [wayErr, if_neg (by omega)]
        simp only [go_sem, Nat.reduceLT, Nat.reduceAdd, Nat.reduceEqDiff, Nat.reduceLeDiff, Nat.reduceSub, Nat.reduceMul, Int.reduceEq, reduceIte, hk2, hkl, hg, cWd, h30]
        generalize hl : nth ys k = l at *
        refine loop_inv [1, 5, 6] 1 (fun m st => ∃ q : Nat, q + m = l.length ∧ firstNZ (wayE ss l) q = 0 ∧
         st = ⟨mkE .top [(1, .ptr 0 0), (5, .int .i64 k), (6, .int .i64 q)], [.box (cWd ss ys)]⟩) l.length (by simp [hx]) (by simp) ?_ ?_
        ·
         refine ⟨0, by omega, rfl, ?_⟩
         simp [trim_mk, go_sem, Nat.reduceLT, Nat.reduceAdd, Nat.reduceEqDiff, Nat.reduceLeDiff, Nat.reduceSub, Nat.reduceMul, Int.reduceEq, reduceIte, subHeap, renObj, pos, List.range_succ, cWd]
        ·
         rintro m2 st ⟨q, hq, hz4, rfl⟩
         by_cases hql : q < l.length
         ·
          have hgq : l[q]? = some (nth l q) := nth_get? _ _ hql
          have wq := i64_up (k := q) (by omega)
          have fin2 : ∀ a : Int, wayE ss l q = a → a ≠ 0 → woErr ss ys = a := fun a h3 h4 => fin a (by rw [hwe, firstNZ_hit hz4 (by rw [h3]; exact h4) hql, h3]) h4
          simp only [go_sem, Nat.reduceLT, Nat.reduceAdd, Nat.reduceEqDiff, Nat.reduceLeDiff, Nat.reduceSub, Nat.reduceMul, Int.reduceEq, reduceIte, hkl, hg, hql, hgq, cE, cWd]
          refine ops_call (.pureE (checkEntry_meets (nth l q)) (by simp [go_sem, Nat.reduceLT, Nat.reduceAdd, Nat.reduceEqDiff, Nat.reduceLeDiff, Nat.reduceSub, Nat.reduceMul, Int.reduceEq, reduceIte, cE])) ?_
          by_cases h5 : checkEntry (nth l q) = 0
          ·
           simp only [go_sem, Nat.reduceLT, Nat.reduceAdd, Nat.reduceEqDiff, Nat.reduceLeDiff, Nat.reduceSub, Nat.reduceMul, Int.reduceEq, reduceIte, h5, hkl, hg, hql, hgq, cE, cWd]
           refine ops_call (.pureE (isBorn_meets ss ys (nth l q) s2 ho (check_reg h5)) (by simp [go_sem, Nat.reduceLT, Nat.reduceAdd, Nat.reduceEqDiff, Nat.reduceLeDiff, Nat.reduceSub, Nat.reduceMul, Int.reduceEq, reduceIte, cE, cWd])) ?_
           cases hb : bornB ss (nth l q)
           ·
            have h6 : wayE ss l q = 4 := by rw [wayE, if_pos h5, if_neg (by simp [hb])]
            simp only [go_sem, Nat.reduceLT, Nat.reduceAdd, Nat.reduceEqDiff, Nat.reduceLeDiff, Nat.reduceSub, Nat.reduceMul, Int.reduceEq, reduceIte]
            repeat refine ⟨rfl, ?_⟩
            refine ret_pure hx ?_
            simp [go_sem, Nat.reduceLT, Nat.reduceAdd, Nat.reduceEqDiff, Nat.reduceLeDiff, Nat.reduceSub, Nat.reduceMul, Int.reduceEq, reduceIte, L6, R6, fin2 4 h6 (by decide)]
           ·
            have h6 : wayE ss l q = 0 := by rw [wayE, if_pos h5, if_pos hb]
            simp only [go_sem, Nat.reduceLT, Nat.reduceAdd, Nat.reduceEqDiff, Nat.reduceLeDiff, Nat.reduceSub, Nat.reduceMul, Int.reduceEq, reduceIte, wq]
            repeat refine ⟨rfl, ?_⟩
            refine ⟨by simp, m2 - 1, by omega, q + 1, by omega, firstNZ_succ hz4 h6, ?_⟩
            simp [trim_mk, go_sem, Nat.reduceLT, Nat.reduceAdd, Nat.reduceEqDiff, Nat.reduceLeDiff, Nat.reduceSub, Nat.reduceMul, Int.reduceEq, reduceIte, subHeap, renObj, pos, List.range_succ, cWd]
          ·
           have h6 : wayE ss l q = checkEntry (nth l q) := by rw [wayE, if_neg h5]
           simp only [go_sem, Nat.reduceLT, Nat.reduceAdd, Nat.reduceEqDiff, Nat.reduceLeDiff, Nat.reduceSub, Nat.reduceMul, Int.reduceEq, reduceIte, h5]
           refine ret_pure hx ?_
           simp [go_sem, Nat.reduceLT, Nat.reduceAdd, Nat.reduceEqDiff, Nat.reduceLeDiff, Nat.reduceSub, Nat.reduceMul, Int.reduceEq, reduceIte, L6, R6, fin2 _ h6 h5]
         ·
          obtain rfl : q = l.length := by omega
          simp only [go_sem, Nat.reduceLT, Nat.reduceAdd, Nat.reduceEqDiff, Nat.reduceLeDiff, Nat.reduceSub, Nat.reduceMul, Int.reduceEq, reduceIte, hkl, hg, hql, cWd, wk]
          refine ⟨by simp, m - 1, by omega, k + 1, by omega, firstNZ_succ hz2 (by simp only [hl]; rw [hwe]; exact hz4), ?_⟩
          simp [trim_mk, go_sem, Nat.reduceLT, Nat.reduceAdd, Nat.reduceEqDiff, Nat.reduceLeDiff, Nat.reduceSub, Nat.reduceMul, Int.reduceEq, reduceIte, subHeap, renObj, pos, List.range_succ, cWd]
      ·
       obtain rfl : k = 2 := by omega
       have e3 : woErr ss ys = if strTo ss 2 = true then 4 else 0 := by rw [e2, if_neg (by simp [hz2])]
       simp only [go_sem, Nat.reduceLT, Nat.reduceAdd, Nat.reduceEqDiff, Nat.reduceLeDiff, Nat.reduceSub, Nat.reduceMul, Int.reduceEq, reduceIte, hk2, cWd]
       refine loop_inv [1, 8] 1 (fun m st => ∃ k : Nat, k + m = 2 ∧ strTo ss k = false ∧
        st = ⟨mkE .top [(1, .ptr 0 0), (8, .int .i64 k)], [.box (cWd ss ys)]⟩) 2 (by simp [hx]) (by simp) ?_ ?_
       ·
        refine ⟨0, by omega, rfl, ?_⟩
        simp [trim_mk, go_sem, Nat.reduceLT, Nat.reduceAdd, Nat.reduceEqDiff, Nat.reduceLeDiff, Nat.reduceSub, Nat.reduceMul, Int.reduceEq, reduceIte, subHeap, renObj, pos, List.range_succ, cWd]
       ·
        rintro m st ⟨k, hk, hz3, rfl⟩
        by_cases hk2 : (k : Int) < 2
        ·
         have hlt : k < ss.length := by omega
         have hg : ss[k]? = some (nth ss k) := nth_get? _ _ hlt
         have wk := i64_up (k := k) (by omega)
         obtain ⟨l1, l2⟩ := nthS hlt ho
         have hreg := si_reg (ste_ok (hst k (by omega))).1
         obtain ⟨-, n1, n2, -, -, -, -, -⟩ := si_pre (ste_ok (hst k (by omega))).1
         have hsB : strB ss (nth ss k) = (((nth ss k).2.1 ++ (nth ss k).2.2).any fun e => !bornB ss e) := by rw [List.any_append]; rfl
         have fin : strB ss (nth ss k) = true → woErr ss ys = 4 := fun h => by rw [e3, if_pos (strTo_hit (by omega : k < 2) (by omega) h)]
         simp only [go_sem, Nat.reduceLT, Nat.reduceAdd, Nat.reduceEqDiff, Nat.reduceLeDiff, Nat.reduceSub, Nat.reduceMul, Int.reduceEq, reduceIte, hk2, hlt, hg, cSi3, cSi, cWd]
         rw [app_arr rfl rfl (cE_row _) (by simp; omega)]
         simp only [go_sem, Nat.reduceLT, Nat.reduceAdd, Nat.reduceEqDiff, Nat.reduceLeDiff, Nat.reduceSub, Nat.reduceMul, Int.reduceEq, reduceIte, hlt, hg, cSi3, cSi, cWd]
         rw [app_arr rfl rfl (cE_row _) (by simp; omega)]
         rw [← List.map_append]
         have hregL : ∀ e ∈ (nth ss k).2.1 ++ (nth ss k).2.2, e.id.r = 0 ∨ e.id.r = 1 := fun e he => hreg e (List.mem_append.1 he)
         have hL : ((nth ss k).2.1 ++ (nth ss k).2.2).length ≤ 2000000000000000 := by rw [List.length_append]; omega
         generalize (nth ss k).2.1 ++ (nth ss k).2.2 = L at *
         simp only [go_sem, Nat.reduceLT, Nat.reduceAdd, Nat.reduceEqDiff, Nat.reduceLeDiff, Nat.reduceSub, Nat.reduceMul, Int.reduceEq, reduceIte]
         repeat refine ⟨rfl, ?_⟩
         refine loop_inv [1, 8, 9, 10] 2 (fun m st => ∃ q : Nat, q + m = L.length ∧ (L.take q).any (fun e => !bornB ss e) = false ∧
          st = ⟨mkE .top [(1, .ptr 0 0), (8, .int .i64 k), (9, .arr 1 2), (10, .int .i64 q)], [.box (cWd ss ys), .arr 2 true false 53 5 (L.map cE)]⟩) L.length (by simp [hx]) (by simp) ?_ ?_
         ·
          refine ⟨0, by omega, rfl, ?_⟩
          simp [trim_mk, go_sem, Nat.reduceLT, Nat.reduceAdd, Nat.reduceEqDiff, Nat.reduceLeDiff, Nat.reduceSub, Nat.reduceMul, Int.reduceEq, reduceIte, subHeap, renObj, renCell, renLeaf, pos, List.range_succ, cWd]
         ·
          rintro m2 st ⟨q, hq, hz4, rfl⟩
          by_cases hql : q < L.length
          ·
           have hgq : L[q]? = some (nth L q) := nth_get? _ _ hql
           have wq := i64_up (k := q) (by omega)
           simp only [go_sem, Nat.reduceLT, Nat.reduceAdd, Nat.reduceEqDiff, Nat.reduceLeDiff, Nat.reduceSub, Nat.reduceMul, Int.reduceEq, reduceIte, hql, hgq, cE, cWd]
           refine ops_call (.pureE (isBorn_meets ss ys (nth L q) s2 ho (hregL _ (nthM hql))) (by simp [go_sem, Nat.reduceLT, Nat.reduceAdd, Nat.reduceEqDiff, Nat.reduceLeDiff, Nat.reduceSub, Nat.reduceMul, Int.reduceEq, reduceIte, cE, cWd])) ?_
           cases hb : bornB ss (nth L q)
           ·
            have h5 : strB ss (nth ss k) = true := by rw [hsB, List.any_eq_true]; exact ⟨_, nthM hql, by simp [hb]⟩
            simp only [go_sem, Nat.reduceLT, Nat.reduceAdd, Nat.reduceEqDiff, Nat.reduceLeDiff, Nat.reduceSub, Nat.reduceMul, Int.reduceEq, reduceIte]
            repeat refine ⟨rfl, ?_⟩
            refine ret_pure hx ?_
            simp [go_sem, Nat.reduceLT, Nat.reduceAdd, Nat.reduceEqDiff, Nat.reduceLeDiff, Nat.reduceSub, Nat.reduceMul, Int.reduceEq, reduceIte, L6, R6, fin h5]
           ·
            simp only [go_sem, Nat.reduceLT, Nat.reduceAdd, Nat.reduceEqDiff, Nat.reduceLeDiff, Nat.reduceSub, Nat.reduceMul, Int.reduceEq, reduceIte, wq]
            repeat refine ⟨rfl, ?_⟩
            refine ⟨by simp, m2 - 1, by omega, q + 1, by omega, ?_, ?_⟩
            ·
             rw [takeE_succ hql, List.any_append, hz4]; simp [hb]
            ·
             simp [trim_mk, go_sem, Nat.reduceLT, Nat.reduceAdd, Nat.reduceEqDiff, Nat.reduceLeDiff, Nat.reduceSub, Nat.reduceMul, Int.reduceEq, reduceIte, subHeap, renObj, renCell, renLeaf, pos, List.range_succ, cWd]
          ·
           obtain rfl : q = L.length := by omega
           rw [List.take_length] at hz4
           have h5 : strB ss (nth ss k) = false := by rw [hsB, hz4]
           simp only [go_sem, Nat.reduceLT, Nat.reduceAdd, Nat.reduceEqDiff, Nat.reduceLeDiff, Nat.reduceSub, Nat.reduceMul, Int.reduceEq, reduceIte, hql, wk]
           refine ⟨by simp, m - 1, by omega, k + 1, by omega, by rw [strTo_succ hlt, hz3, h5]; rfl, ?_⟩
           simp [trim_mk, go_sem, Nat.reduceLT, Nat.reduceAdd, Nat.reduceEqDiff, Nat.reduceLeDiff, Nat.reduceSub, Nat.reduceMul, Int.reduceEq, reduceIte, subHeap, renObj, renCell, renLeaf, pos, List.range_succ, cWd]
        ·
         obtain rfl : k = 2 := by omega
         have e4 : woErr ss ys = 0 := by rw [e3, if_neg (by simp [hz3])]
         simp only [go_sem, Nat.reduceLT, Nat.reduceAdd, Nat.reduceEqDiff, Nat.reduceLeDiff, Nat.reduceSub, Nat.reduceMul, Int.reduceEq, reduceIte, hk2]
         refine ret_pure hx ?_
         simp [go_sem, Nat.reduceLT, Nat.reduceAdd, Nat.reduceEqDiff, Nat.reduceLeDiff, Nat.reduceSub, Nat.reduceMul, Int.reduceEq, reduceIte, L6, R6, e4]
  ·
   have e1 : woErr ss ys = 1 := by rw [woErr, if_pos (by omega)]
   have hyl : (cYs ys).length = ys.length := by simp [cYs]
   simp only [go_sem, Nat.reduceLT, Nat.reduceAdd, Nat.reduceEqDiff, Nat.reduceLeDiff, Nat.reduceSub, Nat.reduceMul, Int.reduceEq, reduceIte, L6, R6, cWd, h1, h2, hyl]
   refine ret_pure hx ?_
   simp [go_sem, Nat.reduceLT, Nat.reduceAdd, Nat.reduceEqDiff, Nat.reduceLeDiff, Nat.reduceSub, Nat.reduceMul, Int.reduceEq, reduceIte, L6, R6, e1]
 ·
  have e1 : woErr ss ys = 1 := by rw [woErr, if_pos (by omega)]
  simp only [go_sem, Nat.reduceLT, Nat.reduceAdd, Nat.reduceEqDiff, Nat.reduceLeDiff, Nat.reduceSub, Nat.reduceMul, Int.reduceEq, reduceIte, L6, R6, cWd, h1]
  refine ret_pure hx ?_
  simp [go_sem, Nat.reduceLT, Nat.reduceAdd, Nat.reduceEqDiff, Nat.reduceLeDiff, Nat.reduceSub, Nat.reduceMul, Int.reduceEq, reduceIte, L6, R6, e1]
end Go.Proofs.YtkgobnnkcnnfhaaGreat
/- Worlds, in the law text's words: NewWorld, CopyWorld, without, AllAt, DoOf: contracts. -/
namespace Go.Proofs.YtkgobnnkcnnfhaaGreat
set_option linter.unusedSimpArgs false
set_option linter.unusedVariables false
open Go.RowKit
theorem weak_imp {x : Cx} {nt : Nat} {st : St} (id : Nat) {v T sz : Nat} {rows : List (List PV)} (h : st.heap[id]? = some (.arr v true false T sz rows)) : Weak x nt st ⟨st.env, st.heap.set id (.arr v true true T sz rows)⟩ := by
 intro a w ⟨⟨C, hr, he⟩, hdf, hs⟩
 obtain ⟨k1, k2⟩ := hr.change (C' := C) (ob' := .arr v true true T sz rows) h (step_refl w) rfl (fun _ => rfl) (fun _ _ => ⟨rfl, rfl⟩) (.inl ⟨rfl, rfl⟩)
  (fun b o _ hf hb => by have := hf hb; simp at this) (fun b o _ _ => rfl) (fun b h => .inl h)
  (fun hm hmp => by
   obtain ⟨o1, o2, o3, xs, o4, o5⟩ := hr.obj id _ h
   refine ⟨o1, o2, o3, xs, o4, fun k row j p u a b c => ?_⟩
   obtain ⟨e1, e2⟩ := o5 k row j p u a b c
   refine ⟨e1, ?_⟩
   simp only [Bool.false_eq_true, if_false, if_true] at e2 ⊢
   exact .pure (hmp _ _ e2))
 exact ⟨⟨C, k1, fun u => k2 _ _ (he u)⟩, hdf, hs⟩
theorem newWorld_meets : Meets Tryz.prog 12 [] [] (.agg (cWo wNew)) [] := by
 have h0 : Meets Tryz.prog 12 [] [] (.agg [.list [[.int .i64 0, .nilsl, .nilsl], [.int .i64 1, .nilsl, .nilsl]], .list [[.nilsl], [.nilsl]]]) [] := by
  refine Meets.of_walk Tryz.func12 Tryz.ntmps12 low12 res12 (by simp) fun x hx => ?_
  simp only [go_sem, Nat.reduceLT, Nat.reduceAdd, Nat.reduceEqDiff, Nat.reduceLeDiff, Nat.reduceSub, Nat.reduceMul, Int.reduceEq, reduceIte, L12, R12, Int.ofNat_zero, Int.natCast_one, Int.cast_ofNat_Int, Int.reduceLT, Int.reduceLE, Int.reduceToNat, Nat.reduceLT, Int.toNat_zero, Int.natCast_zero, Int.le_refl, Int.lt_irrefl, Int.reduceAdd, frz, false_or, or_true]
  refine ret_pure hx ?_
  simp [go_sem, Nat.reduceLT, Nat.reduceAdd, Nat.reduceEqDiff, Nat.reduceLeDiff, Nat.reduceSub, Nat.reduceMul, Int.reduceEq, reduceIte, L12, R12]
 exact Meets.nl 4 h0 rfl
theorem cYs_row (ys : List (List Entry)) : ∀ row ∈ cYs ys, row.length = 1 := fun row h => by
 obtain ⟨w, -, rfl⟩ := List.mem_map.1 h; rfl
def hCW (w w2 : Wo) : List AObj := [.arr 2 true false 47 3 (w.ss.map cSi3), .arr 2 true true 45 1 (cYs w2.ys)]
theorem copyWorld_meets (w : Wo) : Meets Tryz.prog 22 [.agg (cWo w)] [] (.agg [.arr 0 2, .arr 1 2]) (hCW w w) := by
 refine Meets.of_walk Tryz.func22 Tryz.ntmps22 low22 res22 (by simp) fun x hx => ?_
 simp only [go_sem, Nat.reduceLT, Nat.reduceAdd, Nat.reduceEqDiff, Nat.reduceLeDiff, Nat.reduceSub, Nat.reduceMul, Int.reduceEq, reduceIte, L22, R22, cWo, cWd]
 rw [app_arr rfl rfl (cSi3_row _) (by simp [Wo.ss])]
 simp only [go_sem, Nat.reduceLT, Nat.reduceAdd, Nat.reduceEqDiff, Nat.reduceLeDiff, Nat.reduceSub, Nat.reduceMul, Int.reduceEq, reduceIte]
 rw [app_arr rfl rfl (cYs_row _) (by simp [cYs, Wo.ys])]
 simp only [go_sem, Nat.reduceLT, Nat.reduceAdd, Nat.reduceEqDiff, Nat.reduceLeDiff, Nat.reduceSub, Nat.reduceMul, Int.reduceEq, reduceIte]
 repeat refine ⟨rfl, ?_⟩
 refine ret_weak (weak_imp 3 rfl) ?_
 refine ret_keep [2, 3] (by simp) (by simp [hx]) (by simp [hx]) ?_ ?_
 ·
  simp [go_sem, Nat.reduceLT, Nat.reduceAdd, Nat.reduceEqDiff, Nat.reduceLeDiff, Nat.reduceSub, Nat.reduceMul, Int.reduceEq, reduceIte, L22, R22, hx, pos]
 ·
  simp [subHeap, renObj, renCell, renLeaf, hx, pos, go_sem, Nat.reduceLT, Nat.reduceAdd, Nat.reduceEqDiff, Nat.reduceLeDiff, Nat.reduceSub, Nat.reduceMul, Int.reduceEq, reduceIte, hCW, List.range_succ, cYs, Wo.ys]
theorem without_meets (l : List Entry) (n : Nat) (hn : n < l.length) (hl : l.length ≤ 1000000) : Meets Tryz.prog 25 [.list (l.map cE), .int .i64 n] [] (.list ((l.eraseIdx n).map cE)) [] := by
 have h1 : List.take n (l.map cE) = (l.take n).map cE := by rw [List.map_take]
 have h2 : List.drop (n + 1) (l.map cE) = (l.drop (n + 1)).map cE := by rw [List.map_drop]
 have hle : n ≤ l.length := by omega
 have hle1 : n + 1 ≤ l.length := by omega
 have wn := i64_up (k := n) (by omega)
 have hrow : (∀ row ∈ List.map cE l, row.length = 5) = True := eq_true (cE_row l)
 refine Meets.of_walk Tryz.func25 Tryz.ntmps25 low25 res25 (by simp) fun x hx => ?_
 simp only [go_sem, Nat.reduceLT, Nat.reduceAdd, Nat.reduceEqDiff, Nat.reduceLeDiff, Nat.reduceSub, Nat.reduceMul, Int.reduceEq, reduceIte, L25, R25, h1, h2, hle, hle1, wn, hrow, Int.ofNat_zero, Int.natCast_one, Int.cast_ofNat_Int, Int.reduceLT, Int.reduceLE, Int.reduceToNat, Nat.reduceLT, Int.toNat_zero, Int.natCast_zero, Int.le_refl, Int.lt_irrefl, Int.reduceAdd, frz, false_or, or_true, Int.sub_zero, Int.natCast_nonneg]
 have hte : ∀ row ∈ (l.take n).map cE, row.length = 5 := cE_row _
 have hdr : ∀ row ∈ (l.drop (n + 1)).map cE, row.length = 5 := cE_row _
 rw [app_arr rfl rfl hte (by simp; omega)]
 simp only [go_sem, Nat.reduceLT, Nat.reduceAdd, Nat.reduceEqDiff, Nat.reduceLeDiff, Nat.reduceSub, Nat.reduceMul, Int.reduceEq, reduceIte, L25, R25, h1, h2, hle, hle1, wn, hrow, Int.ofNat_zero, Int.natCast_one, Int.cast_ofNat_Int, Int.reduceLT, Int.reduceLE, Int.reduceToNat, Nat.reduceLT, Int.toNat_zero, Int.natCast_zero, Int.le_refl, Int.lt_irrefl, Int.reduceAdd, frz, false_or, or_true, Int.sub_zero, Int.natCast_nonneg]
 have h3 : List.take ((l.length : Int) - ((n + 1 : Nat) : Int)).toNat ((l.drop (n + 1)).map cE) = (l.drop (n + 1)).map cE := List.take_of_length_le (by simp; omega)
 rw [h3, app_arr rfl rfl hdr (by simp; omega)]
 have h4 : (l.take n).map cE ++ (l.drop (n + 1)).map cE = (l.eraseIdx n).map cE := by rw [← List.map_append, ← List.eraseIdx_eq_take_drop_succ]
 simp only [go_sem, Nat.reduceLT, Nat.reduceAdd, Nat.reduceEqDiff, Nat.reduceLeDiff, Nat.reduceSub, Nat.reduceMul, Int.reduceEq, reduceIte, h4]
 repeat refine ⟨rfl, ?_⟩
 refine ret_weak (weak_shut 0 rfl) ?_
 refine ret_pure hx ?_
 simp [go_sem, Nat.reduceLT, Nat.reduceAdd, Nat.reduceEqDiff, Nat.reduceLeDiff, Nat.reduceSub, Nat.reduceMul, Int.reduceEq, reduceIte, L25, R25, frzAt, pos, frz]
set_option maxHeartbeats 4000000 in
theorem allAt_meets (w : Wo) (i : Int) (hi : i = 0 ∨ i = 1) (hs : siErr i (w.log i) (w.wts i) = 0) (hB : LogOk (w.log (1 - i))) :
    Meets Tryz.prog 8 [.agg (cWo w), .int .i64 i] [] (.tup [.agg (cWo (w.setS i (allW w i).2)), .int .i64 0]) [] := by
  have hchk : ∀ k, ∀ e ∈ (w.log (1 - i)).take k, checkEntry e = 0 := fun k e he => hB.mem_chk (List.mem_of_mem_take he)
  have hlen := hB.len
  rcases hi with rfl | rfl
  · have hB : LogOk w.q := hB
    have hlen : w.q.length ≤ 40 := hlen
    have hchk : ∀ k, ∀ e ∈ w.q.take k, checkEntry e = 0 := hchk
    have hs : siErr 0 w.p w.u = 0 := hs
    show Meets _ _ _ _ (.tup [.agg (cWo (w.setS 0 (allN 0 w.q w.p w.u).2)), .int .i64 0]) _
    have k10 : IntKind.i64.wrap (1 - 0) = 1 := by decide
    refine Meets.of_walk Tryz.func8 Tryz.ntmps8 low8 res8 (by simp) fun x hx => ?_
    simp only [go_sem, Nat.reduceLT, Nat.reduceAdd, Nat.reduceEqDiff, Nat.reduceLeDiff, Nat.reduceSub, Nat.reduceMul, Int.reduceEq, reduceIte, L8, R8, cWo, cWd]
    refine ops_call (.heapE [] (r' := .agg [.arr 2 2, .arr 3 2]) (H' := [.box (cWo w), .box [.nilsl, .nilsl]] ++ hCW w w) (copyWorld_meets w) (by simp) (by simp) (by simp [go_sem, Nat.reduceLT, Nat.reduceAdd, Nat.reduceEqDiff, Nat.reduceLeDiff, Nat.reduceSub, Nat.reduceMul, Int.reduceEq, reduceIte, cWo, cWd]) rfl rfl rfl) ?_
    simp only [go_sem, Nat.reduceLT, Nat.reduceAdd, Nat.reduceEqDiff, Nat.reduceLeDiff, Nat.reduceSub, Nat.reduceMul, Int.reduceEq, reduceIte, hCW, cWo, cWd, Wo.ss, Wo.ys, cSi3, cSi, Int.ofNat_zero, Int.natCast_one, Int.cast_ofNat_Int, Int.reduceLT, Int.reduceLE, Int.reduceToNat, Nat.reduceLT, Int.toNat_zero, Int.natCast_zero, Int.le_refl, Int.lt_irrefl, Int.reduceAdd, frz, false_or, or_true, List.map_cons, List.map_nil, List.cons_append, List.nil_append, k10]
    refine loop_inv [1, 4, 6, 7, 8] 5 (fun m st => ∃ k : Nat, k + m = w.q.length ∧
      st = ⟨mkE .top [(1, .int .i64 0), (4, .ptr 1 0), (6, .ptr 4 0), (7, .list (w.q.map cE)), (8, .int .i64 k)], [.box (cWo w), .box [.nilsl, .nilsl]] ++ hCW (w.setS 0 (allN 0 (w.q.take k) w.p w.u).2) w ++ [.box [.arr 2 2, .arr 3 2]]⟩) w.q.length (by simp [hx]) (by simp [hCW]) ?_ ?_
    · refine ⟨0, by omega, ?_⟩
      simp [trim_mk, go_sem, Nat.reduceLT, Nat.reduceAdd, Nat.reduceEqDiff, Nat.reduceLeDiff, Nat.reduceSub, Nat.reduceMul, Int.reduceEq, reduceIte, subHeap, renObj, renCell, renLeaf, pos, List.range_succ, hCW, cWo, cWd, Wo.ss, Wo.ys, cYs, cSi3, cSi, allN, Wo.setS]
    · rintro m st ⟨k, hk, rfl⟩
      have hok := hchk k
      obtain ⟨a1, a2, -, -⟩ := allN_ok (w.q.take k) w.p w.u hs hok
      by_cases hlt : k < w.q.length
      · have hg : w.q[k]? = some (nth w.q k) := nth_get? _ _ hlt
        have wk := i64_up (k := k) (by omega)
        have hce := hB.chk k hlt
        have hst := allN_step (r := 0) (p := w.p) (u := w.u) hlt a1
        by_cases hr : (nth w.q k).id.r = 0
        · have hst2 : w.setS 0 (allN 0 (w.q.take (k + 1)) w.p w.u).2 = w.setS 0 (allN 0 (w.q.take k) w.p w.u).2 := by rw [hst, allN, if_pos hr, allN]
          simp only [go_sem, Nat.reduceLT, Nat.reduceAdd, Nat.reduceEqDiff, Nat.reduceLeDiff, Nat.reduceSub, Nat.reduceMul, Int.reduceEq, reduceIte, hlt, hg, cE, hr, hCW, List.cons_append, List.nil_append, wk]
          refine ⟨by simp [hCW], m - 1, by omega, k + 1, by omega, ?_⟩
          rw [hst2]
          simp [trim_mk, go_sem, Nat.reduceLT, Nat.reduceAdd, Nat.reduceEqDiff, Nat.reduceLeDiff, Nat.reduceSub, Nat.reduceMul, Int.reduceEq, reduceIte, subHeap, renObj, renCell, renLeaf, pos, List.range_succ, hCW, cWo, cWd, Wo.ss, Wo.ys, cYs, cSi3, cSi]
        · obtain ⟨r1, -, -, -, -, -, -⟩ := rc_ok a2 hce hr
          obtain ⟨-, s2, s3, s4, s5, s6, -, -⟩ := si_pre a2
          have hrc := receiveOf_meets 0 (allN 0 (w.q.take k) w.p w.u).2.1 (allN 0 (w.q.take k) w.p w.u).2.2 (nth w.q k) s2 s3 s4 s5 s6 (check_fit hce)
          have hst2 : allN 0 (w.q.take (k + 1)) w.p w.u = (0, (rcSi 0 (allN 0 (w.q.take k) w.p w.u).2.1 (allN 0 (w.q.take k) w.p w.u).2.2 (nth w.q k)).2) := by
            rw [hst, allN, if_neg hr, if_pos r1, allN]
          rw [r1, rcSi_one r1] at hrc
          obtain ⟨TT, hTT⟩ : ∃ TT, allN 0 (w.q.take (k + 1)) w.p w.u = TT := ⟨_, rfl⟩
          rw [hTT] at hst2
          generalize (rcSi 0 (allN 0 (w.q.take k) w.p w.u).2.1 (allN 0 (w.q.take k) w.p w.u).2.2 (nth w.q k)).2 = T at *
          generalize (allN 0 (w.q.take k) w.p w.u).2 = T0 at *
          obtain ⟨t1, t2⟩ := T0
          obtain ⟨u1, u2⟩ := T
          simp only at hrc
          simp only [go_sem, Nat.reduceLT, Nat.reduceAdd, Nat.reduceEqDiff, Nat.reduceLeDiff, Nat.reduceSub, Nat.reduceMul, Int.reduceEq, reduceIte, hlt, hg, cE, hr, hCW, Wo.ss, Wo.setS, cSi3, cSi, Int.ofNat_zero, Int.natCast_one, Int.cast_ofNat_Int, Int.reduceLT, Int.reduceLE, Int.reduceToNat, Nat.reduceLT, Int.toNat_zero, Int.natCast_zero, Int.le_refl, Int.lt_irrefl, Int.reduceAdd, frz, false_or, or_true, List.map_cons, List.map_nil, List.cons_append, List.nil_append]
          refine ops_call (.pureE hrc (by simp [go_sem, Nat.reduceLT, Nat.reduceAdd, Nat.reduceEqDiff, Nat.reduceLeDiff, Nat.reduceSub, Nat.reduceMul, Int.reduceEq, reduceIte, cSi, cE])) ?_
          simp only [go_sem, Nat.reduceLT, Nat.reduceAdd, Nat.reduceEqDiff, Nat.reduceLeDiff, Nat.reduceSub, Nat.reduceMul, Int.reduceEq, reduceIte, Int.ofNat_zero, Int.natCast_one, Int.cast_ofNat_Int, Int.reduceLT, Int.reduceLE, Int.reduceToNat, Nat.reduceLT, Int.toNat_zero, Int.natCast_zero, Int.le_refl, Int.lt_irrefl, Int.reduceAdd, frz, false_or, or_true, cSi3, cSi, wk]
          repeat refine ⟨rfl, ?_⟩
          try simp only [go_sem, Nat.reduceLT, Nat.reduceAdd, Nat.reduceEqDiff, Nat.reduceLeDiff, Nat.reduceSub, Nat.reduceMul, Int.reduceEq, reduceIte, Int.ofNat_zero, Int.natCast_one, Int.cast_ofNat_Int, Int.reduceLT, Int.reduceLE, Int.reduceToNat, Nat.reduceLT, Int.toNat_zero, Int.natCast_zero, Int.le_refl, Int.lt_irrefl, Int.reduceAdd, frz, false_or, or_true, wk]
          refine ⟨by simp [hCW], m - 1, by omega, k + 1, by omega, ?_⟩
          rw [hTT, hst2]
          simp [trim_mk, go_sem, Nat.reduceLT, Nat.reduceAdd, Nat.reduceEqDiff, Nat.reduceLeDiff, Nat.reduceSub, Nat.reduceMul, Int.reduceEq, reduceIte, subHeap, renObj, renCell, renLeaf, pos, List.range_succ, hCW, cWo, cWd, Wo.ss, Wo.ys, Wo.setS, cYs, cSi3, cSi]
      · have htk : w.q.take k = w.q := List.take_of_length_le (by omega)
        rw [htk]
        simp only [go_sem, Nat.reduceLT, Nat.reduceAdd, Nat.reduceEqDiff, Nat.reduceLeDiff, Nat.reduceSub, Nat.reduceMul, Int.reduceEq, reduceIte, hlt, hCW, List.cons_append, List.nil_append]
        refine ret_weak (weak_shut 2 rfl) ?_
        refine ret_weak (weak_pu 3 rfl rfl (by simp [frz, PV.isPure, cYs, Wo.ys])) ?_
        refine ret_pure hx ?_
        simp [go_sem, Nat.reduceLT, Nat.reduceAdd, Nat.reduceEqDiff, Nat.reduceLeDiff, Nat.reduceSub, Nat.reduceMul, Int.reduceEq, reduceIte, L8, R8, cWo, cWd, Wo.ys, Wo.setS, frzAt, pos, frz, cYs]
        rfl
  · have hB : LogOk w.p := hB
    have hlen : w.p.length ≤ 40 := hlen
    have hchk : ∀ k, ∀ e ∈ w.p.take k, checkEntry e = 0 := hchk
    have hs : siErr 1 w.q w.v = 0 := hs
    show Meets _ _ _ _ (.tup [.agg (cWo (w.setS 1 (allN 1 w.p w.q w.v).2)), .int .i64 0]) _
    have k10 : IntKind.i64.wrap (1 - 1) = 0 := by decide
    refine Meets.of_walk Tryz.func8 Tryz.ntmps8 low8 res8 (by simp) fun x hx => ?_
    simp only [go_sem, Nat.reduceLT, Nat.reduceAdd, Nat.reduceEqDiff, Nat.reduceLeDiff, Nat.reduceSub, Nat.reduceMul, Int.reduceEq, reduceIte, L8, R8, cWo, cWd]
    refine ops_call (.heapE [] (r' := .agg [.arr 2 2, .arr 3 2]) (H' := [.box (cWo w), .box [.nilsl, .nilsl]] ++ hCW w w) (copyWorld_meets w) (by simp) (by simp) (by simp [go_sem, Nat.reduceLT, Nat.reduceAdd, Nat.reduceEqDiff, Nat.reduceLeDiff, Nat.reduceSub, Nat.reduceMul, Int.reduceEq, reduceIte, cWo, cWd]) rfl rfl rfl) ?_
    simp only [go_sem, Nat.reduceLT, Nat.reduceAdd, Nat.reduceEqDiff, Nat.reduceLeDiff, Nat.reduceSub, Nat.reduceMul, Int.reduceEq, reduceIte, hCW, cWo, cWd, Wo.ss, Wo.ys, cSi3, cSi, Int.ofNat_zero, Int.natCast_one, Int.cast_ofNat_Int, Int.reduceLT, Int.reduceLE, Int.reduceToNat, Nat.reduceLT, Int.toNat_zero, Int.natCast_zero, Int.le_refl, Int.lt_irrefl, Int.reduceAdd, frz, false_or, or_true, List.map_cons, List.map_nil, List.cons_append, List.nil_append, k10]
    refine loop_inv [1, 4, 6, 7, 8] 5 (fun m st => ∃ k : Nat, k + m = w.p.length ∧
      st = ⟨mkE .top [(1, .int .i64 1), (4, .ptr 1 0), (6, .ptr 4 0), (7, .list (w.p.map cE)), (8, .int .i64 k)], [.box (cWo w), .box [.nilsl, .nilsl]] ++ hCW (w.setS 1 (allN 1 (w.p.take k) w.q w.v).2) w ++ [.box [.arr 2 2, .arr 3 2]]⟩) w.p.length (by simp [hx]) (by simp [hCW]) ?_ ?_
    · refine ⟨0, by omega, ?_⟩
      simp [trim_mk, go_sem, Nat.reduceLT, Nat.reduceAdd, Nat.reduceEqDiff, Nat.reduceLeDiff, Nat.reduceSub, Nat.reduceMul, Int.reduceEq, reduceIte, subHeap, renObj, renCell, renLeaf, pos, List.range_succ, hCW, cWo, cWd, Wo.ss, Wo.ys, cYs, cSi3, cSi, allN, Wo.setS]
    · rintro m st ⟨k, hk, rfl⟩
      have hok := hchk k
      obtain ⟨a1, a2, -, -⟩ := allN_ok (w.p.take k) w.q w.v hs hok
      by_cases hlt : k < w.p.length
      · have hg : w.p[k]? = some (nth w.p k) := nth_get? _ _ hlt
        have wk := i64_up (k := k) (by omega)
        have hce := hB.chk k hlt
        have hst := allN_step (r := 1) (p := w.q) (u := w.v) hlt a1
        by_cases hr : (nth w.p k).id.r = 1
        · have hst2 : w.setS 1 (allN 1 (w.p.take (k + 1)) w.q w.v).2 = w.setS 1 (allN 1 (w.p.take k) w.q w.v).2 := by rw [hst, allN, if_pos hr, allN]
          simp only [go_sem, Nat.reduceLT, Nat.reduceAdd, Nat.reduceEqDiff, Nat.reduceLeDiff, Nat.reduceSub, Nat.reduceMul, Int.reduceEq, reduceIte, hlt, hg, cE, hr, hCW, List.cons_append, List.nil_append, wk]
          refine ⟨by simp [hCW], m - 1, by omega, k + 1, by omega, ?_⟩
          rw [hst2]
          simp [trim_mk, go_sem, Nat.reduceLT, Nat.reduceAdd, Nat.reduceEqDiff, Nat.reduceLeDiff, Nat.reduceSub, Nat.reduceMul, Int.reduceEq, reduceIte, subHeap, renObj, renCell, renLeaf, pos, List.range_succ, hCW, cWo, cWd, Wo.ss, Wo.ys, cYs, cSi3, cSi]
        · obtain ⟨r1, -, -, -, -, -, -⟩ := rc_ok a2 hce hr
          obtain ⟨-, s2, s3, s4, s5, s6, -, -⟩ := si_pre a2
          have hrc := receiveOf_meets 1 (allN 1 (w.p.take k) w.q w.v).2.1 (allN 1 (w.p.take k) w.q w.v).2.2 (nth w.p k) s2 s3 s4 s5 s6 (check_fit hce)
          have hst2 : allN 1 (w.p.take (k + 1)) w.q w.v = (0, (rcSi 1 (allN 1 (w.p.take k) w.q w.v).2.1 (allN 1 (w.p.take k) w.q w.v).2.2 (nth w.p k)).2) := by
            rw [hst, allN, if_neg hr, if_pos r1, allN]
          rw [r1, rcSi_one r1] at hrc
          obtain ⟨TT, hTT⟩ : ∃ TT, allN 1 (w.p.take (k + 1)) w.q w.v = TT := ⟨_, rfl⟩
          rw [hTT] at hst2
          generalize (rcSi 1 (allN 1 (w.p.take k) w.q w.v).2.1 (allN 1 (w.p.take k) w.q w.v).2.2 (nth w.p k)).2 = T at *
          generalize (allN 1 (w.p.take k) w.q w.v).2 = T0 at *
          obtain ⟨t1, t2⟩ := T0
          obtain ⟨u1, u2⟩ := T
          simp only at hrc
          simp only [go_sem, Nat.reduceLT, Nat.reduceAdd, Nat.reduceEqDiff, Nat.reduceLeDiff, Nat.reduceSub, Nat.reduceMul, Int.reduceEq, reduceIte, hlt, hg, cE, hr, hCW, Wo.ss, Wo.setS, cSi3, cSi, Int.ofNat_zero, Int.natCast_one, Int.cast_ofNat_Int, Int.reduceLT, Int.reduceLE, Int.reduceToNat, Nat.reduceLT, Int.toNat_zero, Int.natCast_zero, Int.le_refl, Int.lt_irrefl, Int.reduceAdd, frz, false_or, or_true, List.map_cons, List.map_nil, List.cons_append, List.nil_append]
          refine ops_call (.pureE hrc (by simp [go_sem, Nat.reduceLT, Nat.reduceAdd, Nat.reduceEqDiff, Nat.reduceLeDiff, Nat.reduceSub, Nat.reduceMul, Int.reduceEq, reduceIte, cSi, cE])) ?_
          simp only [go_sem, Nat.reduceLT, Nat.reduceAdd, Nat.reduceEqDiff, Nat.reduceLeDiff, Nat.reduceSub, Nat.reduceMul, Int.reduceEq, reduceIte, Int.ofNat_zero, Int.natCast_one, Int.cast_ofNat_Int, Int.reduceLT, Int.reduceLE, Int.reduceToNat, Nat.reduceLT, Int.toNat_zero, Int.natCast_zero, Int.le_refl, Int.lt_irrefl, Int.reduceAdd, frz, false_or, or_true, cSi3, cSi, wk]
          repeat refine ⟨rfl, ?_⟩
          try simp only [go_sem, Nat.reduceLT, Nat.reduceAdd, Nat.reduceEqDiff, Nat.reduceLeDiff, Nat.reduceSub, Nat.reduceMul, Int.reduceEq, reduceIte, Int.ofNat_zero, Int.natCast_one, Int.cast_ofNat_Int, Int.reduceLT, Int.reduceLE, Int.reduceToNat, Nat.reduceLT, Int.toNat_zero, Int.natCast_zero, Int.le_refl, Int.lt_irrefl, Int.reduceAdd, frz, false_or, or_true, wk]
          refine ⟨by simp [hCW], m - 1, by omega, k + 1, by omega, ?_⟩
          rw [hTT, hst2]
          simp [trim_mk, go_sem, Nat.reduceLT, Nat.reduceAdd, Nat.reduceEqDiff, Nat.reduceLeDiff, Nat.reduceSub, Nat.reduceMul, Int.reduceEq, reduceIte, subHeap, renObj, renCell, renLeaf, pos, List.range_succ, hCW, cWo, cWd, Wo.ss, Wo.ys, Wo.setS, cYs, cSi3, cSi]
      · have htk : w.p.take k = w.p := List.take_of_length_le (by omega)
        rw [htk]
        simp only [go_sem, Nat.reduceLT, Nat.reduceAdd, Nat.reduceEqDiff, Nat.reduceLeDiff, Nat.reduceSub, Nat.reduceMul, Int.reduceEq, reduceIte, hlt, hCW, List.cons_append, List.nil_append]
        refine ret_weak (weak_shut 2 rfl) ?_
        refine ret_weak (weak_pu 3 rfl rfl (by simp [frz, PV.isPure, cYs, Wo.ys])) ?_
        refine ret_pure hx ?_
        simp [go_sem, Nat.reduceLT, Nat.reduceAdd, Nat.reduceEqDiff, Nat.reduceLeDiff, Nat.reduceSub, Nat.reduceMul, Int.reduceEq, reduceIte, L8, R8, cWo, cWd, Wo.ys, Wo.setS, frzAt, pos, frz, cYs]
        rfl
end Go.Proofs.YtkgobnnkcnnfhaaGreat
