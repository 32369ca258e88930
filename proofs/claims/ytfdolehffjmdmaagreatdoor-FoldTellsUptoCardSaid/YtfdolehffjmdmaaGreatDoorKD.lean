/- Joined texts of this claim: D5 D4 D6 D7 D8 F6 F7 H1 Lt F8 F9 M4 F10 F11 F12 F4 F5 F13 D9 D10. -/
import Derived.Test.YtfdolehffjmdmaaGreatDoorKC
import Derived.Test.YtfdolehffjmdmaaGreatDoorKB
import Derived.Shelf.Small.Strs
set_option linter.unusedSimpArgs false
set_option linter.unusedVariables false
set_option linter.unusedSectionVars false
/- Pasts: contracts. -/
namespace Go.Proofs.YtfdolehffjmdmaaGreatDoor
set_option linter.unusedSimpArgs false
set_option linter.unusedVariables false
open Go.RowKit
def ofRows (ps : List (List Id)) : List (List PV) := ps.map fun p => [.list (p.map cId)]
def pvPasts (l : List Entry) (ps : List (List Id)) : PV := .rptr [.list (l.map cE), .list (ofRows ps)]
theorem of_meets (l : List Entry) (ps : List (List Id)) (x : Id) (hl : l.length ≤ 9223372036854775806) (h0 : 0 ≤ findE l x) (h1 : findE l x < ps.length) :
    Meets Tryz.prog 101 [pvPasts l ps, .agg (cId x)] [] (.list ((pastAt ps l x).map cId)) [] := by
  have hg : ps[(findE l x).toNat]? = some (pastAt ps l x) := nth_get? _ _ (by omega)
  refine Meets.of_walk Tryz.func101 Tryz.ntmps101 low101 res101 (by simp) fun xx hx => ?_
  simp only [go_sem, Nat.reduceLT, Nat.reduceAdd, Nat.reduceEqDiff, Nat.reduceLeDiff, Nat.reduceSub, Nat.reduceMul, Int.reduceEq, eq_self, reduceIte, L101, R101, cId, pvPasts, ofRows]
  refine ops_call (.pureE (find_meets l x hl) (by simp [go_sem, Nat.reduceLT, Nat.reduceAdd, Nat.reduceEqDiff, Nat.reduceLeDiff, Nat.reduceSub, Nat.reduceMul, Int.reduceEq, eq_self, reduceIte, cId])) ?_
  simp only [go_sem, Nat.reduceLT, Nat.reduceAdd, Nat.reduceEqDiff, Nat.reduceLeDiff, Nat.reduceSub, Nat.reduceMul, Int.reduceEq, eq_self, reduceIte, h0, h1, hg]
  refine ret_pure hx ?_
  simp [go_sem, Nat.reduceLT, Nat.reduceAdd, Nat.reduceEqDiff, Nat.reduceLeDiff, Nat.reduceSub, Nat.reduceMul, Int.reduceEq, eq_self, reduceIte, L101, R101]
theorem ofA_meets (l : List Entry) (ps : List (List Id)) (x : Id) (v T : Nat) (hl : l.length ≤ 9223372036854775806) (h0 : 0 ≤ findE l x) (h1 : findE l x < ps.length) :
    Meets Tryz.prog 101 [.ptr 0 0, .agg (cId x)] [.box [.list (l.map cE), .arr 1 v], .arr v false false T 1 (ofRows ps)] (.list ((pastAt ps l x).map cId)) [.box [.list (l.map cE), .arr 1 v], .arr v false false T 1 (ofRows ps)] := by
  have hg : ps[(findE l x).toNat]? = some (pastAt ps l x) := nth_get? _ _ (by omega)
  refine Meets.of_walk Tryz.func101 Tryz.ntmps101 low101 res101 (by simp) fun xx hx => ?_
  simp only [go_sem, Nat.reduceLT, Nat.reduceAdd, Nat.reduceEqDiff, Nat.reduceLeDiff, Nat.reduceSub, Nat.reduceMul, Int.reduceEq, eq_self, reduceIte, L101, R101, cId, ofRows]
  refine ops_call (.pureE (find_meets l x hl) (by simp [go_sem, Nat.reduceLT, Nat.reduceAdd, Nat.reduceEqDiff, Nat.reduceLeDiff, Nat.reduceSub, Nat.reduceMul, Int.reduceEq, eq_self, reduceIte, cId])) ?_
  simp only [go_sem, Nat.reduceLT, Nat.reduceAdd, Nat.reduceEqDiff, Nat.reduceLeDiff, Nat.reduceSub, Nat.reduceMul, Int.reduceEq, eq_self, reduceIte, h0, h1, hg]
  refine ret_keep [] (by simp) (by simp) (by simp [hx]) ?_ ?_
  · simp [go_sem, Nat.reduceLT, Nat.reduceAdd, Nat.reduceEqDiff, Nat.reduceLeDiff, Nat.reduceSub, Nat.reduceMul, Int.reduceEq, eq_self, reduceIte, L101, R101, hx, pos, List.range_succ]
  · simp [subHeap, renObj, hx, go_sem, Nat.reduceLT, Nat.reduceAdd, Nat.reduceEqDiff, Nat.reduceLeDiff, Nat.reduceSub, Nat.reduceMul, Int.reduceEq, eq_self, reduceIte, pos, List.range_succ]
theorem allOf_take {ps : List (List Id)} {l : List Entry} {ls : List Id} {j : Nat} (h : j < ls.length) : allOf ps l (ls.take (j + 1)) = allOf ps l (ls.take j) ++ [nth ls j] ++ pastAt ps l (nth ls j) := by
  unfold allOf
  rw [List.take_succ_eq_append_getElem h, nth_eq _ _ h, List.flatMap_append]
  simp only [List.flatMap_cons, List.flatMap_nil, List.append_nil, List.append_assoc, List.cons_append, List.nil_append]
theorem pastAt_to {l : List Entry} {k : Nat} {x : Id} (hk : k ≤ l.length) (h0 : 0 ≤ findE l x) (h1 : findE l x < k) : pastAt (pastsTo l k) l x = pastOf l (findE l x).toNat := by
  unfold pastAt pastOf pasts
  rw [pastsTo_nth l (by omega : (findE l x).toNat < k), pastsTo_nth l (by omega : (findE l x).toNat < l.length)]
theorem allOf_len {l : List Entry} (h : LogOk l) {k : Nat} (hk : k < l.length) : ∀ j, j ≤ (nth l k).ls.length → (allOf (pastsTo l k) l ((nth l k).ls.take j)).length ≤ 41 * j
  | 0, _ => by simp [allOf]
  | j + 1, hj => by
    have hlj : j < (nth l k).ls.length := by omega
    obtain ⟨f1, f2⟩ := h.link_lt hk (x := nth (nth l k).ls j) (by rw [nth_eq _ _ hlj]; exact List.getElem_mem hlj)
    have := allOf_len h hk j (by omega)
    have h2 := pastOf_len h (k := (findE l (nth (nth l k).ls j)).toNat) (by omega)
    rw [allOf_take hlj, pastAt_to (by omega) f1 f2]
    simp only [List.length_append, List.length_cons, List.length_nil]
    omega
set_option maxHeartbeats 1000000 in
theorem before_meets (l : List Entry) (h : LogOk l) : Meets Tryz.prog 84 [.list (l.map cE)] [] (pvPasts l (pasts l)) [] := by
  have hm := h.len
  refine Meets.of_walk Tryz.func84 Tryz.ntmps84 low84 res84 (by simp) fun x hx => ?_
  simp only [go_sem, Nat.reduceLT, Nat.reduceAdd, Nat.reduceEqDiff, Nat.reduceLeDiff, Nat.reduceSub, Nat.reduceMul, Int.reduceEq, eq_self, reduceIte, L84, R84]
  refine W_weak (weak_ownc 0 1 0 44 1 false false rfl rfl (by omega)) ?_
  refine loop_inv [3, 12, 13, 14] 2 (fun n st => ∃ k : Nat, k + n = l.length ∧
    st = ⟨mkE .top [(3, .ptr 0 0), (12, .list (l.map cE)), (13, .int .i64 l.length), (14, .int .i64 k)], [.box [.list (l.map cE), .arr 1 k], .arr k false false 44 1 (ofRows (pastsTo l k))]⟩) l.length (by simp [hx]) (by simp) ?_ ?_
  · refine ⟨0, by omega, ?_⟩
    simp [trim_mk, go_sem, Nat.reduceLT, Nat.reduceAdd, Nat.reduceEqDiff, Nat.reduceLeDiff, Nat.reduceSub, Nat.reduceMul, Int.reduceEq, eq_self, reduceIte, subHeap, renObj, pos, List.range_succ, pastsTo, ofRows]
  · rintro n st ⟨k, hk, rfl⟩
    by_cases hlt : k < l.length
    · have hg : l[k]? = some (nth l k) := nth_get? _ _ hlt
      have wk := i64_up (k := k) (by omega)
      have hls := h.links hlt
      simp only [go_sem, Nat.reduceLT, Nat.reduceAdd, Nat.reduceEqDiff, Nat.reduceLeDiff, Nat.reduceSub, Nat.reduceMul, Int.reduceEq, eq_self, reduceIte, hlt, hg, cE]
      refine W_weak (weak_own 6 0 43 2 true false rfl (by omega)) ?_
      refine loop_inv [3, 6, 12, 13, 14, 19, 20, 21] 4 (fun n st => ∃ j : Nat, j + n = (nth l k).ls.length ∧
        st = ⟨mkE .top [(3, .ptr 0 0), (6, .arr 3 (2 * j)), (12, .list (l.map cE)), (13, .int .i64 l.length), (14, .int .i64 k), (19, .list ((nth l k).ls.map cId)), (20, .int .i64 (nth l k).ls.length), (21, .int .i64 j)],
          [.box [.list (l.map cE), .arr 1 k], .arr k false false 44 1 (ofRows (pastsTo l k)), .box (cE (nth l k)), .arr (2 * j) true false 43 2 ((allOf (pastsTo l k) l ((nth l k).ls.take j)).map cId)]⟩) (nth l k).ls.length (by simp [hx]) (by simp [St.put]) ?_ ?_
      · refine ⟨0, by omega, ?_⟩
        simp [trim_mk, go_sem, Nat.reduceLT, Nat.reduceAdd, Nat.reduceEqDiff, Nat.reduceLeDiff, Nat.reduceSub, Nat.reduceMul, Int.reduceEq, eq_self, reduceIte, subHeap, renObj, pos, List.range_succ, cE, allOf]
      · rintro n2 st ⟨j, hj, rfl⟩
        by_cases hlj : j < (nth l k).ls.length
        · have hgj : (nth l k).ls[j]? = some (nth (nth l k).ls j) := nth_get? _ _ hlj
          have wj := i64_up (k := j) (by omega)
          have hmem : nth (nth l k).ls j ∈ (nth l k).ls := by rw [nth_eq _ _ hlj]; exact List.getElem_mem hlj
          obtain ⟨f1, f2⟩ := h.link_lt hlt hmem
          simp only [go_sem, Nat.reduceLT, Nat.reduceAdd, Nat.reduceEqDiff, Nat.reduceLeDiff, Nat.reduceSub, Nat.reduceMul, Int.reduceEq, eq_self, reduceIte, hlj, hgj, cId]
          have b1 := allOf_len h hlt j (by omega)
          have b2 := pastOf_len h (k := (findE l (nth (nth l k).ls j)).toNat) (by omega)
          rw [← pastAt_to (k := k) (by omega) f1 f2] at b2
          rw [app_arr rfl rfl (by simp) (by simp; omega)]
          simp only [go_sem, Nat.reduceLT, Nat.reduceAdd, Nat.reduceEqDiff, Nat.reduceLeDiff, Nat.reduceSub, Nat.reduceMul, Int.reduceEq, eq_self, reduceIte]
          refine ops_call (.heapE [0, 1] (r' := .list ((pastAt (pastsTo l k) l (nth (nth l k).ls j)).map cId)) (H' := [.box [.list (l.map cE), .arr 1 k], .arr k false false 44 1 (ofRows (pastsTo l k)), .box (cE (nth l k)), .arr (2 * j + 1) true false 43 2 ((allOf (pastsTo l k) l ((nth l k).ls.take j)).map cId ++ [cId (nth (nth l k).ls j)]), .box (cId (nth (nth l k).ls j))]) (ofA_meets l (pastsTo l k) (nth (nth l k).ls j) k 44 (by omega) f1 (by simp; omega))
            (by simp) (by simp) (by simp [go_sem, Nat.reduceLT, Nat.reduceAdd, Nat.reduceEqDiff, Nat.reduceLeDiff, Nat.reduceSub, Nat.reduceMul, Int.reduceEq, eq_self, reduceIte, pos, cId]) (by simp [subHeap, renObj, go_sem, Nat.reduceLT, Nat.reduceAdd, Nat.reduceEqDiff, Nat.reduceLeDiff, Nat.reduceSub, Nat.reduceMul, Int.reduceEq, eq_self, reduceIte, pos]) rfl (by simp [merge, mergeObj, callId, renObj, pos, go_sem, Nat.reduceLT, Nat.reduceAdd, Nat.reduceEqDiff, Nat.reduceLeDiff, Nat.reduceSub, Nat.reduceMul, Int.reduceEq, eq_self, reduceIte, List.range_succ, backF, backId, cE, cId])) ?_
          simp only [go_sem, Nat.reduceLT, Nat.reduceAdd, Nat.reduceEqDiff, Nat.reduceLeDiff, Nat.reduceSub, Nat.reduceMul, Int.reduceEq, eq_self, reduceIte]
          rw [app_arr rfl rfl (by simp [cId]) (by simp; omega)]
          simp only [go_sem, Nat.reduceLT, Nat.reduceAdd, Nat.reduceEqDiff, Nat.reduceLeDiff, Nat.reduceSub, Nat.reduceMul, Int.reduceEq, eq_self, reduceIte, wj]
          refine ⟨rfl, ?_⟩
          refine ⟨by simp, n2 - 1, by omega, j + 1, by omega, ?_⟩
          simp [trim_mk, go_sem, Nat.reduceLT, Nat.reduceAdd, Nat.reduceEqDiff, Nat.reduceLeDiff, Nat.reduceSub, Nat.reduceMul, Int.reduceEq, eq_self, reduceIte, subHeap, renObj, pos, List.range_succ, cE, allOf_take hlj, show 2 * (j + 1) = 2 * j + 1 + 1 by omega]
        · have htl : (nth l k).ls.take j = (nth l k).ls := List.take_of_length_le (by omega)
          have b1 := allOf_len h hlt j (by omega)
          rw [htl] at b1
          simp only [go_sem, Nat.reduceLT, Nat.reduceAdd, Nat.reduceEqDiff, Nat.reduceLeDiff, Nat.reduceSub, Nat.reduceMul, Int.reduceEq, eq_self, reduceIte, hlj, htl]
          have hso := sortIds_meets (allOf (pastsTo l k) l (nth l k).ls) (2 * j) 43 (by omega)
          refine ops_call (.heapE [3] (r' := .tup []) (H' := [.box [.list (l.map cE), .arr 1 k], .arr k false false 44 1 (ofRows (pastsTo l k)), .box (cE (nth l k)), .arr (2 * j) true false 43 2 ((sortI (allOf (pastsTo l k) l (nth l k).ls)).map cId)]) hso
            (by simp) (by simp) (by simp [go_sem, Nat.reduceLT, Nat.reduceAdd, Nat.reduceEqDiff, Nat.reduceLeDiff, Nat.reduceSub, Nat.reduceMul, Int.reduceEq, eq_self, reduceIte, pos]) (by simp [subHeap, renObj, go_sem, Nat.reduceLT, Nat.reduceAdd, Nat.reduceEqDiff, Nat.reduceLeDiff, Nat.reduceSub, Nat.reduceMul, Int.reduceEq, eq_self, reduceIte, pos]) rfl (by simp [merge, mergeObj, callId, renObj, pos, go_sem, Nat.reduceLT, Nat.reduceAdd, Nat.reduceEqDiff, Nat.reduceLeDiff, Nat.reduceSub, Nat.reduceMul, Int.reduceEq, eq_self, reduceIte, List.range_succ, backF, backId, cE])) ?_
          simp only [go_sem, Nat.reduceLT, Nat.reduceAdd, Nat.reduceEqDiff, Nat.reduceLeDiff, Nat.reduceSub, Nat.reduceMul, Int.reduceEq, eq_self, reduceIte]
          have hco := compactIds_meets (sortI (allOf (pastsTo l k) l (nth l k).ls)) (2 * j) 43 (by rw [sortI_length]; omega)
          refine ops_call1 3 hco rfl rfl rfl rfl (by simp [go_sem, Nat.reduceLT, Nat.reduceAdd, Nat.reduceEqDiff, Nat.reduceLeDiff, Nat.reduceSub, Nat.reduceMul, Int.reduceEq, eq_self, reduceIte]) (by simp [go_sem, Nat.reduceLT, Nat.reduceAdd, Nat.reduceEqDiff, Nat.reduceLeDiff, Nat.reduceSub, Nat.reduceMul, Int.reduceEq, eq_self, reduceIte, pos]) rfl ?_
          simp only [go_sem, Nat.reduceLT, Nat.reduceAdd, Nat.reduceEqDiff, Nat.reduceLeDiff, Nat.reduceSub, Nat.reduceMul, Int.reduceEq, eq_self, reduceIte]
          rw [app_arr rfl rfl (by simp) (by simp [ofRows]; omega)]
          simp only [go_sem, Nat.reduceLT, Nat.reduceAdd, Nat.reduceEqDiff, Nat.reduceLeDiff, Nat.reduceSub, Nat.reduceMul, Int.reduceEq, eq_self, reduceIte, wk]
          refine ⟨rfl, rfl, rfl, ?_⟩
          refine ⟨by simp, n - 1, by omega, k + 1, by omega, ?_⟩
          simp [trim_mk, go_sem, Nat.reduceLT, Nat.reduceAdd, Nat.reduceEqDiff, Nat.reduceLeDiff, Nat.reduceSub, Nat.reduceMul, Int.reduceEq, eq_self, reduceIte, subHeap, renObj, pos, List.range_succ, cE, ofRows, pastsTo, setI]
    · have hke : k = l.length := by omega
      subst hke
      simp only [go_sem, Nat.reduceLT, Nat.reduceAdd, Nat.reduceEqDiff, Nat.reduceLeDiff, Nat.reduceSub, Nat.reduceMul, Int.reduceEq, eq_self, reduceIte, Nat.lt_irrefl]
      refine ret_weak (weak_rptr (cells' := [.list (l.map cE), .list (ofRows (pastsTo l l.length))]) 2 0 rfl rfl (by simp [frz]) rfl rfl) ?_
      refine ret_pure hx ?_
      simp [go_sem, Nat.reduceLT, Nat.reduceAdd, Nat.reduceEqDiff, Nat.reduceLeDiff, Nat.reduceSub, Nat.reduceMul, Int.reduceEq, eq_self, reduceIte, L84, R84, pvPasts, pasts]
end Go.Proofs.YtfdolehffjmdmaaGreatDoor
/- Logs, in the law text's words: counting, finding, being right; colors; ids among others: contracts. -/
namespace Go.Proofs.YtfdolehffjmdmaaGreatDoor
set_option linter.unusedSimpArgs false
set_option linter.unusedVariables false
open Go.RowKit
theorem countOf_meets (l : List Entry) (h : okReg l) (hl : l.length ≤ 1000000000000000) : Meets Tryz.prog 48 [.list (l.map cE)] [] (.agg [.int .i64 (cntR l 0), .int .i64 (cntR l 1)]) [] := by
  refine Meets.of_walk Tryz.func48 Tryz.ntmps48 low48 res48 (by simp) fun x hx => ?_
  simp only [go_sem, Nat.reduceLT, Nat.reduceAdd, Nat.reduceEqDiff, Nat.reduceLeDiff, Nat.reduceSub, Nat.reduceMul, Int.reduceEq, eq_self, reduceIte, L48, R48]
  refine loop_inv [0, 2, 3, 4] 2 (fun n st => ∃ k : Nat, k + n = l.length ∧
    st = ⟨mkE .top [(0, .list (l.map cE)), (2, .ptr 0 0), (3, .ptr 1 0), (4, .int .i64 k)], [.box [.int .i64 0, .int .i64 0], .box [.int .i64 (cntR (l.take k) 0), .int .i64 (cntR (l.take k) 1)]]⟩) l.length (by simp [hx]) (by simp) ?_ ?_
  · refine ⟨0, by omega, ?_⟩
    simp [trim_mk, go_sem, Nat.reduceLT, Nat.reduceAdd, Nat.reduceEqDiff, Nat.reduceLeDiff, Nat.reduceSub, Nat.reduceMul, Int.reduceEq, eq_self, reduceIte, subHeap, renObj, pos, List.range_succ, cntR]
  · rintro n st ⟨k, hk, rfl⟩
    by_cases hlt : k < l.length
    · have hg : l[k]? = some (nth l k) := nth_get? _ _ hlt
      have wk := i64_up (k := k) (by omega)
      have hle : ∀ r, cntR (l.take k) r ≤ 1000000000000000 := fun r => by have := cntR_le (l.take k) r; rw [List.length_take] at this; omega
      have w0 := i64_up (k := cntR (l.take k) 0) (by have := hle 0; omega)
      have w1 := i64_up (k := cntR (l.take k) 1) (by have := hle 1; omega)
      have c0 := cntR_take l k 0 hlt
      have c1 := cntR_take l k 1 hlt
      rcases h (nth l k) (by rw [nth_eq _ _ hlt]; exact List.getElem_mem hlt) with hr | hr
      · rw [hr] at c0 c1
        simp only [go_sem, Nat.reduceLT, Nat.reduceAdd, Nat.reduceEqDiff, Nat.reduceLeDiff, Nat.reduceSub, Nat.reduceMul, Int.reduceEq, eq_self, reduceIte, hlt, hg, cE, hr, w0, w1, wk, Int.reduceLE, Int.reduceLT, Int.reduceToNat, Int.cast_ofNat_Int, Int.ofNat_zero, Int.toNat_zero, Int.le_refl]
        refine ⟨by simp, n - 1, by omega, k + 1, by omega, ?_⟩
        simp [trim_mk, go_sem, Nat.reduceLT, Nat.reduceAdd, Nat.reduceEqDiff, Nat.reduceLeDiff, Nat.reduceSub, Nat.reduceMul, Int.reduceEq, eq_self, reduceIte, subHeap, renObj, pos, List.range_succ, c0, c1]
      · rw [hr] at c0 c1
        simp only [go_sem, Nat.reduceLT, Nat.reduceAdd, Nat.reduceEqDiff, Nat.reduceLeDiff, Nat.reduceSub, Nat.reduceMul, Int.reduceEq, eq_self, reduceIte, hlt, hg, cE, hr, w0, w1, wk, Int.reduceLE, Int.reduceLT, Int.reduceToNat, Int.cast_ofNat_Int, Int.ofNat_zero, Int.toNat_zero, Int.le_refl]
        refine ⟨by simp, n - 1, by omega, k + 1, by omega, ?_⟩
        simp [trim_mk, go_sem, Nat.reduceLT, Nat.reduceAdd, Nat.reduceEqDiff, Nat.reduceLeDiff, Nat.reduceSub, Nat.reduceMul, Int.reduceEq, eq_self, reduceIte, subHeap, renObj, pos, List.range_succ, c0, c1]
    · have : l.take k = l := List.take_of_length_le (by omega)
      simp only [go_sem, Nat.reduceLT, Nat.reduceAdd, Nat.reduceEqDiff, Nat.reduceLeDiff, Nat.reduceSub, Nat.reduceMul, Int.reduceEq, eq_self, reduceIte, hlt]
      refine ret_pure hx ?_
      simp [go_sem, Nat.reduceLT, Nat.reduceAdd, Nat.reduceEqDiff, Nat.reduceLeDiff, Nat.reduceSub, Nat.reduceMul, Int.reduceEq, eq_self, reduceIte, L48, R48, this]
theorem entryAt_meets (l : List Entry) (y : Id) (hl : l.length ≤ 9223372036854775806) : Meets Tryz.prog 47 [.list (l.map cE), .agg (cId y)] [] (.int .i64 (findE l y)) [] := by
  refine Meets.of_walk Tryz.func47 Tryz.ntmps47 low47 res47 (by simp) fun x hx => ?_
  simp only [go_sem, Nat.reduceLT, Nat.reduceAdd, Nat.reduceEqDiff, Nat.reduceLeDiff, Nat.reduceSub, Nat.reduceMul, Int.reduceEq, eq_self, reduceIte, L47, R47, cId]
  refine loop_inv [0, 3, 5] 1 (fun n st => ∃ k : Nat, k + n = l.length ∧ idxF (fun e => decide (e.id = y)) (l.drop k) k = findE l y ∧
    st = ⟨mkE .top [(0, .list (l.map cE)), (3, .ptr 0 0), (5, .int .i64 k)], [.box (cId y)]⟩) l.length (by simp [hx]) (by simp) ?_ ?_
  · refine ⟨0, by omega, by simp [findE], ?_⟩
    simp [trim_mk, go_sem, Nat.reduceLT, Nat.reduceAdd, Nat.reduceEqDiff, Nat.reduceLeDiff, Nat.reduceSub, Nat.reduceMul, Int.reduceEq, eq_self, reduceIte, subHeap, renObj, pos, List.range_succ, cId]
  · rintro n st ⟨k, hk, hi, rfl⟩
    by_cases hlt : k < l.length
    · have hg : l[k]? = some (nth l k) := nth_get? _ _ hlt
      have wk := i64_up (k := k) (by omega)
      rw [idxF_drop _ l k hlt] at hi
      by_cases he : (nth l k).id = y
      · simp only [go_sem, Nat.reduceLT, Nat.reduceAdd, Nat.reduceEqDiff, Nat.reduceLeDiff, Nat.reduceSub, Nat.reduceMul, Int.reduceEq, eq_self, reduceIte, hlt, hg, cE, cId, beqId, he]
        refine ret_pure hx ?_
        simp [he] at hi
        simp [go_sem, Nat.reduceLT, Nat.reduceAdd, Nat.reduceEqDiff, Nat.reduceLeDiff, Nat.reduceSub, Nat.reduceMul, Int.reduceEq, eq_self, reduceIte, L47, R47, hi]
      · simp only [go_sem, Nat.reduceLT, Nat.reduceAdd, Nat.reduceEqDiff, Nat.reduceLeDiff, Nat.reduceSub, Nat.reduceMul, Int.reduceEq, eq_self, reduceIte, hlt, hg, cE, cId, beqId, he, wk]
        refine ⟨by simp, n - 1, by omega, k + 1, by omega, by simpa [he] using hi, ?_⟩
        simp [trim_mk, go_sem, Nat.reduceLT, Nat.reduceAdd, Nat.reduceEqDiff, Nat.reduceLeDiff, Nat.reduceSub, Nat.reduceMul, Int.reduceEq, eq_self, reduceIte, subHeap, renObj, pos, List.range_succ, cId]
    · have : l.drop k = [] := List.drop_eq_nil_of_le (by omega)
      rw [this] at hi
      simp only [go_sem, Nat.reduceLT, Nat.reduceAdd, Nat.reduceEqDiff, Nat.reduceLeDiff, Nat.reduceSub, Nat.reduceMul, Int.reduceEq, eq_self, reduceIte, hlt]
      refine ret_pure hx ?_
      simp [go_sem, Nat.reduceLT, Nat.reduceAdd, Nat.reduceEqDiff, Nat.reduceLeDiff, Nat.reduceSub, Nat.reduceMul, Int.reduceEq, eq_self, reduceIte, L47, R47, ← hi, idxF]
theorem checkLog_meets (l : List Entry) (hm : l.length ≤ 9223372036854775806) : Meets Tryz.prog 12 [.list (l.map cE)] [] (.int .i64 (checkLog l)) [] := by
  refine Meets.of_walk Tryz.func12 Tryz.ntmps12 low12 res12 (by simp) fun x hx => ?_
  by_cases h40 : 40 < l.length
  · have d40 : decide ((40 : Int) < (l.length : Nat)) = true := by simp; omega
    simp only [go_sem, Nat.reduceLT, Nat.reduceAdd, Nat.reduceEqDiff, Nat.reduceLeDiff, Nat.reduceSub, Nat.reduceMul, Int.reduceEq, eq_self, reduceIte, L12, R12, d40]
    refine ret_pure hx ?_
    simp [go_sem, Nat.reduceLT, Nat.reduceAdd, Nat.reduceEqDiff, Nat.reduceLeDiff, Nat.reduceSub, Nat.reduceMul, Int.reduceEq, eq_self, reduceIte, L12, R12, checkLog, h40]
  have d40 : decide ((40 : Int) < (l.length : Nat)) = false := by simp; omega
  have hcl : checkLog l = firstNZ (logErr l) l.length := by simp [checkLog, h40]
  simp only [go_sem, Nat.reduceLT, Nat.reduceAdd, Nat.reduceEqDiff, Nat.reduceLeDiff, Nat.reduceSub, Nat.reduceMul, Int.reduceEq, eq_self, reduceIte, L12, R12, d40, hcl]
  refine loop_inv [0, 3] 0 (fun n st => ∃ k : Nat, k + n = l.length ∧ firstNZ (logErr l) k = 0 ∧
    st = ⟨mkE .top [(0, .list (l.map cE)), (3, .int .i64 k)], []⟩) l.length (by simp [hx]) (by simp) ?_ ?_
  · refine ⟨0, by omega, rfl, ?_⟩
    simp [trim_mk, go_sem, Nat.reduceLT, Nat.reduceAdd, Nat.reduceEqDiff, Nat.reduceLeDiff, Nat.reduceSub, Nat.reduceMul, Int.reduceEq, eq_self, reduceIte, subHeap, renObj, pos]
  · rintro n st ⟨k, hk, hz, rfl⟩
    by_cases hlt : k < l.length
    · have hg : l[k]? = some (nth l k) := nth_get? _ _ hlt
      have wk := i64_up (k := k) (by omega)
      have hle : k ≤ l.length := by omega
      have hrow : (∀ row ∈ List.map cE l, row.length = 5) = True := eq_true (cE_row l)
      have htk : List.take k (List.map cE l) = List.map cE (List.take k l) := List.map_take.symm
      have hlk : (l.take k).length ≤ 40 := by rw [List.length_take]; omega
      have hreg := okReg_take hz hle
      have fin : ∀ r : Int, logErr l k = r → r ≠ 0 → firstNZ (logErr l) l.length = r := fun r h1 h2 => by rw [firstNZ_hit hz (by rw [h1]; exact h2) hlt, h1]
      simp only [go_sem, Nat.reduceLT, Nat.reduceAdd, Nat.reduceEqDiff, Nat.reduceLeDiff, Nat.reduceSub, Nat.reduceMul, Int.reduceEq, eq_self, reduceIte, hlt, hg, cE]
      refine ops_call (.pureE (checkEntry_meets (nth l k)) (by simp [go_sem, Nat.reduceLT, Nat.reduceAdd, Nat.reduceEqDiff, Nat.reduceLeDiff, Nat.reduceSub, Nat.reduceMul, Int.reduceEq, eq_self, reduceIte, cE])) ?_
      by_cases h1 : checkEntry (nth l k) = 0
      · have hr := reg_of_check h1
        have hls := (check_ok_bounds h1).2.2.2.1
        simp only [go_sem, Nat.reduceLT, Nat.reduceAdd, Nat.reduceEqDiff, Nat.reduceLeDiff, Nat.reduceSub, Nat.reduceMul, Int.reduceEq, eq_self, reduceIte, h1, hlt, hg, hle, hrow, htk, Int.le_refl, Int.sub_zero, Int.toNat_zero, Int.natCast_nonneg, cE]
        refine ops_call (.pureE (entryAt_meets (l.take k) (nth l k).id (by omega)) (by simp [go_sem, Nat.reduceLT, Nat.reduceAdd, Nat.reduceEqDiff, Nat.reduceLeDiff, Nat.reduceSub, Nat.reduceMul, Int.reduceEq, eq_self, reduceIte, cId])) ?_
        by_cases h2 : 0 ≤ findE (l.take k) (nth l k).id
        · simp only [go_sem, Nat.reduceLT, Nat.reduceAdd, Nat.reduceEqDiff, Nat.reduceLeDiff, Nat.reduceSub, Nat.reduceMul, Int.reduceEq, eq_self, reduceIte, h2]
          refine ret_pure hx ?_
          have : logErr l k = 6 := by simp [logErr, h1, h2]
          simp [go_sem, Nat.reduceLT, Nat.reduceAdd, Nat.reduceEqDiff, Nat.reduceLeDiff, Nat.reduceSub, Nat.reduceMul, Int.reduceEq, eq_self, reduceIte, L12, R12, fin _ this (by decide)]
        simp only [go_sem, Nat.reduceLT, Nat.reduceAdd, Nat.reduceEqDiff, Nat.reduceLeDiff, Nat.reduceSub, Nat.reduceMul, Int.reduceEq, eq_self, reduceIte, h2, hlt, hg, hle, hrow, htk, Int.le_refl, Int.sub_zero, Int.toNat_zero, Int.natCast_nonneg, cE]
        refine ops_call (.pureE (countOf_meets (l.take k) hreg (by omega)) (by simp [go_sem, Nat.reduceLT, Nat.reduceAdd, Nat.reduceEqDiff, Nat.reduceLeDiff, Nat.reduceSub, Nat.reduceMul, Int.reduceEq, eq_self, reduceIte])) ?_
        have hw : ∀ r, IntKind.i64.wrap ((cntR (l.take k) r : Int) + 1) = (cntR (l.take k) r : Int) + 1 := fun r => by have := cntR_le (l.take k) r; rw [IntWalk.i64_in _ (by omega)]
        by_cases h3 : (cntR (l.take k) (nth l k).id.r : Int) + 1 = (nth l k).id.n
        · have h3e : logErr l k = if readyB (l.take k) (nth l k) = false then 5 else 0 := by simp [logErr, h1, h2, h3]
          have hrb : readyB (l.take k) (nth l k) = !((nth l k).ls.any fun x => decide (findE (l.take k) x < 0)) := by simp [readyB, h3]
          have looped : ∀ j, (nth l k).ls.any (fun x => decide (findE (l.take k) x < 0)) = false ∨ j ≤ (nth l k).ls.length → True := fun _ _ => trivial
          rcases hr with hr | hr
          all_goals
            have h3' := h3
            rw [hr] at h3'
            have dc := decide_eq_true h3'
            simp only [go_sem, Nat.reduceLT, Nat.reduceAdd, Nat.reduceEqDiff, Nat.reduceLeDiff, Nat.reduceSub, Nat.reduceMul, Int.reduceEq, eq_self, reduceIte, hr, hw, dc, hlt, hg, hle, hrow, htk, Int.sub_zero, Int.natCast_nonneg, cE, Int.reduceLE, Int.reduceLT, Int.reduceToNat, Int.cast_ofNat_Int, Int.ofNat_zero, Int.toNat_zero, Int.le_refl]
            refine loop_inv [0, 3, 5] 0 (fun n st => ∃ j : Nat, j + n = (nth l k).ls.length ∧ ((nth l k).ls.take j).any (fun x => decide (findE (l.take k) x < 0)) = false ∧
              st = ⟨mkE .top [(0, .list (l.map cE)), (3, .int .i64 k), (5, .int .i64 j)], []⟩) (nth l k).ls.length (by simp [hx]) (by simp) ?_ ?_
            · refine ⟨0, by omega, by simp, ?_⟩
              simp [trim_mk, go_sem, Nat.reduceLT, Nat.reduceAdd, Nat.reduceEqDiff, Nat.reduceLeDiff, Nat.reduceSub, Nat.reduceMul, Int.reduceEq, eq_self, reduceIte, subHeap, renObj, pos]
            · rintro n2 st ⟨j, hj, ha, rfl⟩
              by_cases hlj : j < (nth l k).ls.length
              · have hgj : (nth l k).ls[j]? = some (nth (nth l k).ls j) := nth_get? _ _ hlj
                have wj := i64_up (k := j) (by omega)
                simp only [go_sem, Nat.reduceLT, Nat.reduceAdd, Nat.reduceEqDiff, Nat.reduceLeDiff, Nat.reduceSub, Nat.reduceMul, Int.reduceEq, eq_self, reduceIte, hlt, hg, hlj, hgj, hle, hrow, htk, Int.sub_zero, Int.natCast_nonneg, Int.toNat_zero, Int.le_refl, cE, cId]
                refine ops_call (.pureE (entryAt_meets (l.take k) (nth (nth l k).ls j) (by omega)) (by simp [go_sem, Nat.reduceLT, Nat.reduceAdd, Nat.reduceEqDiff, Nat.reduceLeDiff, Nat.reduceSub, Nat.reduceMul, Int.reduceEq, eq_self, reduceIte, cId])) ?_
                have hsucc : ((nth l k).ls.take (j + 1)).any (fun x => decide (findE (l.take k) x < 0)) = decide (findE (l.take k) (nth (nth l k).ls j) < 0) := by
                  rw [List.take_succ_eq_append_getElem hlj, List.any_append, ha, nth_eq _ _ hlj]; simp
                by_cases h5 : findE (l.take k) (nth (nth l k).ls j) < 0
                · simp only [go_sem, Nat.reduceLT, Nat.reduceAdd, Nat.reduceEqDiff, Nat.reduceLeDiff, Nat.reduceSub, Nat.reduceMul, Int.reduceEq, eq_self, reduceIte, h5]
                  refine ret_pure hx ?_
                  have hall : (nth l k).ls.any (fun x => decide (findE (l.take k) x < 0)) = true := by
                    rw [List.any_eq_true]
                    exact ⟨nth (nth l k).ls j, by rw [nth_eq _ _ hlj]; exact List.getElem_mem hlj, by simp [h5]⟩
                  have : logErr l k = 5 := by rw [h3e, hrb, hall]; rfl
                  simp [go_sem, Nat.reduceLT, Nat.reduceAdd, Nat.reduceEqDiff, Nat.reduceLeDiff, Nat.reduceSub, Nat.reduceMul, Int.reduceEq, eq_self, reduceIte, L12, R12, fin _ this (by decide)]
                · simp only [go_sem, Nat.reduceLT, Nat.reduceAdd, Nat.reduceEqDiff, Nat.reduceLeDiff, Nat.reduceSub, Nat.reduceMul, Int.reduceEq, eq_self, reduceIte, h5, wj]
                  refine ⟨by simp, n2 - 1, by omega, j + 1, by omega, by rw [hsucc]; simp [h5], ?_⟩
                  simp [trim_mk, go_sem, Nat.reduceLT, Nat.reduceAdd, Nat.reduceEqDiff, Nat.reduceLeDiff, Nat.reduceSub, Nat.reduceMul, Int.reduceEq, eq_self, reduceIte, subHeap, renObj, pos]
              · have htl : (nth l k).ls.take j = (nth l k).ls := List.take_of_length_le (by omega)
                rw [htl] at ha
                simp only [go_sem, Nat.reduceLT, Nat.reduceAdd, Nat.reduceEqDiff, Nat.reduceLeDiff, Nat.reduceSub, Nat.reduceMul, Int.reduceEq, eq_self, reduceIte, hlt, hg, hlj, cE, wk]
                refine ⟨by simp, n - 1, by omega, k + 1, by omega, firstNZ_succ hz (by rw [h3e, hrb, ha]; rfl), ?_⟩
                simp [trim_mk, go_sem, Nat.reduceLT, Nat.reduceAdd, Nat.reduceEqDiff, Nat.reduceLeDiff, Nat.reduceSub, Nat.reduceMul, Int.reduceEq, eq_self, reduceIte, subHeap, renObj, pos]
        · rcases hr with hr | hr
          all_goals
            have h3' := h3
            rw [hr] at h3'
            have dc := decide_eq_false h3'
            simp only [go_sem, Nat.reduceLT, Nat.reduceAdd, Nat.reduceEqDiff, Nat.reduceLeDiff, Nat.reduceSub, Nat.reduceMul, Int.reduceEq, eq_self, reduceIte, hr, hw, dc, hlt, hg, cE, Int.reduceLE, Int.reduceLT, Int.reduceToNat, Int.cast_ofNat_Int, Int.ofNat_zero, Int.toNat_zero, Int.le_refl]
            refine ret_pure hx ?_
            have : logErr l k = 4 := by simp [logErr, h1, h2, h3]
            simp [go_sem, Nat.reduceLT, Nat.reduceAdd, Nat.reduceEqDiff, Nat.reduceLeDiff, Nat.reduceSub, Nat.reduceMul, Int.reduceEq, eq_self, reduceIte, L12, R12, fin _ this (by decide)]
      · simp only [go_sem, Nat.reduceLT, Nat.reduceAdd, Nat.reduceEqDiff, Nat.reduceLeDiff, Nat.reduceSub, Nat.reduceMul, Int.reduceEq, eq_self, reduceIte, h1]
        refine ret_pure hx ?_
        have : logErr l k = checkEntry (nth l k) := by simp [logErr, h1]
        simp [go_sem, Nat.reduceLT, Nat.reduceAdd, Nat.reduceEqDiff, Nat.reduceLeDiff, Nat.reduceSub, Nat.reduceMul, Int.reduceEq, eq_self, reduceIte, L12, R12, fin _ this h1]
    · have hke : k = l.length := by omega
      subst hke
      simp only [go_sem, Nat.reduceLT, Nat.reduceAdd, Nat.reduceEqDiff, Nat.reduceLeDiff, Nat.reduceSub, Nat.reduceMul, Int.reduceEq, eq_self, reduceIte, Nat.lt_irrefl, hz]
      refine ret_pure hx ?_
      simp [go_sem, Nat.reduceLT, Nat.reduceAdd, Nat.reduceEqDiff, Nat.reduceLeDiff, Nat.reduceSub, Nat.reduceMul, Int.reduceEq, eq_self, reduceIte, L12, R12, hz]
end Go.Proofs.YtfdolehffjmdmaaGreatDoor
/- Pasts, heads, counts: contracts. -/
namespace Go.Proofs.YtfdolehffjmdmaaGreatDoor
set_option linter.unusedSimpArgs false
set_option linter.unusedVariables false
open Go.RowKit
def hasI (l : List Id) (y : Id) : Bool := l.any fun x => decide (y = x)
theorem hasI_iff {l : List Id} {y : Id} : hasI l y = true ↔ y ∈ l := by simp [hasI]
theorem indexI2_meets (l : List Id) (y : Id) (hl : l.length ≤ 9223372036854775806) : Meets Tryz.prog 157 [.list (l.map cId), .agg (cId y)] [] (.int .i64 (idxF (fun x => decide (y = x)) l 0)) [] := by
  refine Meets.of_walk Tryz.func157 Tryz.ntmps157 low157 res157 (by simp) fun x hx => ?_
  simp only [go_sem, Nat.reduceLT, Nat.reduceAdd, Nat.reduceEqDiff, Nat.reduceLeDiff, Nat.reduceSub, Nat.reduceMul, Int.reduceEq, eq_self, reduceIte, L157, R157, cId]
  refine loop_inv [0, 3, 7, 8] 1 (fun n st => ∃ k : Nat, k + n = l.length ∧ idxF (fun x => decide (y = x)) (l.drop k) k = idxF (fun x => decide (y = x)) l 0 ∧
    st = ⟨mkE .top [(0, .list (l.map cId)), (3, .ptr 0 0), (7, .int .i64 l.length), (8, .int .i64 k)], [.box (cId y)]⟩) l.length (by simp [hx]) (by simp) ?_ ?_
  · refine ⟨0, by omega, by simp, ?_⟩
    simp [trim_mk, go_sem, Nat.reduceLT, Nat.reduceAdd, Nat.reduceEqDiff, Nat.reduceLeDiff, Nat.reduceSub, Nat.reduceMul, Int.reduceEq, eq_self, reduceIte, subHeap, renObj, pos, List.range_succ, cId]
  · rintro n st ⟨k, hk, hi, rfl⟩
    by_cases hlt : k < l.length
    · have hg : l[k]? = some (nth l k) := nth_get? _ _ hlt
      have wk := i64_up (k := k) (by omega)
      rw [idxF_drop _ l k hlt] at hi
      by_cases he : y = nth l k
      · simp only [go_sem, Nat.reduceLT, Nat.reduceAdd, Nat.reduceEqDiff, Nat.reduceLeDiff, Nat.reduceSub, Nat.reduceMul, Int.reduceEq, eq_self, reduceIte, hlt, hg, cId, beqId, he]
        refine ret_pure hx ?_
        simp [he] at hi
        simp [go_sem, Nat.reduceLT, Nat.reduceAdd, Nat.reduceEqDiff, Nat.reduceLeDiff, Nat.reduceSub, Nat.reduceMul, Int.reduceEq, eq_self, reduceIte, L157, R157, hi, he]
      · simp only [go_sem, Nat.reduceLT, Nat.reduceAdd, Nat.reduceEqDiff, Nat.reduceLeDiff, Nat.reduceSub, Nat.reduceMul, Int.reduceEq, eq_self, reduceIte, hlt, hg, cId, beqId, he, wk]
        refine ⟨by simp, n - 1, by omega, k + 1, by omega, by simpa [he] using hi, ?_⟩
        simp [trim_mk, go_sem, Nat.reduceLT, Nat.reduceAdd, Nat.reduceEqDiff, Nat.reduceLeDiff, Nat.reduceSub, Nat.reduceMul, Int.reduceEq, eq_self, reduceIte, subHeap, renObj, pos, List.range_succ, cId]
    · have : l.drop k = [] := List.drop_eq_nil_of_le (by omega)
      rw [this] at hi
      simp only [go_sem, Nat.reduceLT, Nat.reduceAdd, Nat.reduceEqDiff, Nat.reduceLeDiff, Nat.reduceSub, Nat.reduceMul, Int.reduceEq, eq_self, reduceIte, hlt]
      refine ret_pure hx ?_
      simp [go_sem, Nat.reduceLT, Nat.reduceAdd, Nat.reduceEqDiff, Nat.reduceLeDiff, Nat.reduceSub, Nat.reduceMul, Int.reduceEq, eq_self, reduceIte, L157, R157, ← hi, idxF]
theorem containsI_meets (l : List Id) (y : Id) (hl : l.length ≤ 9223372036854775806) : Meets Tryz.prog 131 [.list (l.map cId), .agg (cId y)] [] (.bool (hasI l y)) [] := by
  refine Meets.of_walk Tryz.func131 Tryz.ntmps131 low131 res131 (by simp) fun x hx => ?_
  simp only [go_sem, Nat.reduceLT, Nat.reduceAdd, Nat.reduceEqDiff, Nat.reduceLeDiff, Nat.reduceSub, Nat.reduceMul, Int.reduceEq, eq_self, reduceIte, L131, R131, cId]
  refine ops_call (.pureE (indexI2_meets l y hl) (by simp [go_sem, Nat.reduceLT, Nat.reduceAdd, Nat.reduceEqDiff, Nat.reduceLeDiff, Nat.reduceSub, Nat.reduceMul, Int.reduceEq, eq_self, reduceIte, cId])) ?_
  simp only [go_sem, Nat.reduceLT, Nat.reduceAdd, Nat.reduceEqDiff, Nat.reduceLeDiff, Nat.reduceSub, Nat.reduceMul, Int.reduceEq, eq_self, reduceIte]
  refine ret_pure hx ?_
  simp [go_sem, Nat.reduceLT, Nat.reduceAdd, Nat.reduceEqDiff, Nat.reduceLeDiff, Nat.reduceSub, Nat.reduceMul, Int.reduceEq, eq_self, reduceIte, L131, R131, hasI, idxF_any]
theorem ahead_meets (l : List Entry) (ps : List (List Id)) (y z : Id) (hl : l.length ≤ 9223372036854775806) (h0 : 0 ≤ findE l z) (h1 : findE l z < ps.length) (h2 : (pastAt ps l z).length ≤ 9223372036854775806) :
    Meets Tryz.prog 91 [pvPasts l ps, .agg (cId y), .agg (cId z)] [] (.bool (hasI (pastAt ps l z) y)) [] := by
  refine Meets.of_walk Tryz.func91 Tryz.ntmps91 low91 res91 (by simp) fun x hx => ?_
  simp only [go_sem, Nat.reduceLT, Nat.reduceAdd, Nat.reduceEqDiff, Nat.reduceLeDiff, Nat.reduceSub, Nat.reduceMul, Int.reduceEq, eq_self, reduceIte, L91, R91, cId, pvPasts]
  refine ops_call (.pureE (of_meets l ps z hl h0 h1) (by simp [go_sem, Nat.reduceLT, Nat.reduceAdd, Nat.reduceEqDiff, Nat.reduceLeDiff, Nat.reduceSub, Nat.reduceMul, Int.reduceEq, eq_self, reduceIte, cId, pvPasts])) ?_
  simp only [go_sem, Nat.reduceLT, Nat.reduceAdd, Nat.reduceEqDiff, Nat.reduceLeDiff, Nat.reduceSub, Nat.reduceMul, Int.reduceEq, eq_self, reduceIte]
  refine ops_call (.pureE (containsI_meets (pastAt ps l z) y h2) (by simp [go_sem, Nat.reduceLT, Nat.reduceAdd, Nat.reduceEqDiff, Nat.reduceLeDiff, Nat.reduceSub, Nat.reduceMul, Int.reduceEq, eq_self, reduceIte, cId])) ?_
  simp only [go_sem, Nat.reduceLT, Nat.reduceAdd, Nat.reduceEqDiff, Nat.reduceLeDiff, Nat.reduceSub, Nat.reduceMul, Int.reduceEq, eq_self, reduceIte]
  refine ret_pure hx ?_
  simp [go_sem, Nat.reduceLT, Nat.reduceAdd, Nat.reduceEqDiff, Nat.reduceLeDiff, Nat.reduceSub, Nat.reduceMul, Int.reduceEq, eq_self, reduceIte, L91, R91]
def bitB (c : Int) (i : Nat) : Bool := decide (c / 2 ^ i % 2 = 1)
def meetB (a b : Int) : Bool := (bitB a 0 && bitB b 0) || (bitB a 1 && bitB b 1) || (bitB a 2 && bitB b 2)
theorem and_meet0 {a b : Int} (ha : wthn a 1 7 = true) (hb : wthn b 1 7 = true) : (!decide (IntKind.i64.wrap ((BitVec.ofInt IntKind.i64.bits a &&& BitVec.ofInt IntKind.i64.bits b).toNat : Int) = 0)) = meetB a b := by
  have key : ∀ a b : Fin 8, (!decide (IntKind.i64.wrap ((BitVec.ofInt IntKind.i64.bits (a.val : Int) &&& BitVec.ofInt IntKind.i64.bits (b.val : Int)).toNat : Int) = 0)) = meetB (a.val : Int) (b.val : Int) := by decide +kernel
  rw [wthn_iff] at ha hb
  have := key ⟨a.toNat, by omega⟩ ⟨b.toNat, by omega⟩
  simp only [Int.toNat_of_nonneg (show 0 ≤ a by omega), Int.toNat_of_nonneg (show 0 ≤ b by omega)] at this
  exact this
theorem and_meet {a b : Int} (ha : wthn a 1 7 = true) (hb : wthn b 1 7 = true) : (!decide (IntKind.i64.wrap ((@HAnd.hAnd (BitVec 64) (BitVec 64) (BitVec 64) (@instHAndOfAndOp (BitVec IntKind.i64.bits) _) (BitVec.ofInt 64 a) (BitVec.ofInt 64 b)).toNat : Int) = 0)) = meetB a b := and_meet0 ha hb
def withC (l : List Entry) (c : Int) : List Entry := l.filter fun e => meetB e.c c
theorem withC_take {l : List Entry} {c : Int} {k : Nat} (h : k < l.length) : withC (l.take (k + 1)) c = withC (l.take k) c ++ if meetB (nth l k).c c then [nth l k] else [] := by
  unfold withC
  rw [List.take_succ_eq_append_getElem h, List.filter_append, nth_eq _ _ h]
  simp only [List.filter_cons, List.filter_nil]
theorem withC_len (l : List Entry) (c : Int) : (withC l c).length ≤ l.length := List.length_filter_le _ _
theorem LogOk.col {l : List Entry} (h : LogOk l) {k : Nat} (hk : k < l.length) : wthn (nth l k).c 1 7 = true := (check_ok_bounds (h.chk k hk)).2.1
theorem with_meets (l : List Entry) (c : Int) (h : LogOk l) (hc : wthn c 1 7 = true) : Meets Tryz.prog 129 [.list (l.map cE), .int .i64 c] [] (.list ((withC l c).map cE)) [] := by
  have hm := h.len
  refine Meets.of_walk Tryz.func129 Tryz.ntmps129 low129 res129 (by simp) fun x hx => ?_
  simp only [go_sem, Nat.reduceLT, Nat.reduceAdd, Nat.reduceEqDiff, Nat.reduceLeDiff, Nat.reduceSub, Nat.reduceMul, Int.reduceEq, eq_self, reduceIte, L129, R129]
  refine W_weak (weak_own 5 0 46 5 false false rfl (by omega)) ?_
  refine loop_inv [1, 5, 8, 9, 10] 1 (fun n st => ∃ k v : Nat, k + n = l.length ∧
    st = ⟨mkE .top [(1, .int .i64 c), (5, .arr 0 v), (8, .list (l.map cE)), (9, .int .i64 l.length), (10, .int .i64 k)], [.arr v false false 46 5 ((withC (l.take k) c).map cE)]⟩) l.length (by simp [hx]) (by simp [St.put]) ?_ ?_
  · refine ⟨0, 0, by omega, ?_⟩
    simp [trim_mk, go_sem, Nat.reduceLT, Nat.reduceAdd, Nat.reduceEqDiff, Nat.reduceLeDiff, Nat.reduceSub, Nat.reduceMul, Int.reduceEq, eq_self, reduceIte, subHeap, renObj, pos, List.range_succ, withC]
  · rintro n st ⟨k, v, hk, rfl⟩
    by_cases hlt : k < l.length
    · have hg : l[k]? = some (nth l k) := nth_get? _ _ hlt
      have wk := i64_up (k := k) (by omega)
      have hw := withC_take (c := c) hlt
      have hle := withC_len (l.take k) c
      rw [List.length_take] at hle
      have ha := and_meet (h.col hlt) hc
      cases hb : meetB (nth l k).c c
      · rw [hb] at ha hw
        simp only [go_sem, Nat.reduceLT, Nat.reduceAdd, Nat.reduceEqDiff, Nat.reduceLeDiff, Nat.reduceSub, Nat.reduceMul, Int.reduceEq, eq_self, reduceIte, hlt, hg, cE, ha, wk]
        refine ⟨by simp, n - 1, by omega, k + 1, v, by omega, ?_⟩
        simp [trim_mk, go_sem, Nat.reduceLT, Nat.reduceAdd, Nat.reduceEqDiff, Nat.reduceLeDiff, Nat.reduceSub, Nat.reduceMul, Int.reduceEq, eq_self, reduceIte, subHeap, renObj, pos, List.range_succ, hw]
      · rw [hb] at ha hw
        simp only [go_sem, Nat.reduceLT, Nat.reduceAdd, Nat.reduceEqDiff, Nat.reduceLeDiff, Nat.reduceSub, Nat.reduceMul, Int.reduceEq, eq_self, reduceIte, hlt, hg, cE, ha, wk]
        rw [app_arr rfl rfl (by simp) (by simp; omega)]
        simp only [go_sem, Nat.reduceLT, Nat.reduceAdd, Nat.reduceEqDiff, Nat.reduceLeDiff, Nat.reduceSub, Nat.reduceMul, Int.reduceEq, eq_self, reduceIte, wk]
        refine ⟨by simp, n - 1, by omega, k + 1, v + 1, by omega, ?_⟩
        simp [trim_mk, go_sem, Nat.reduceLT, Nat.reduceAdd, Nat.reduceEqDiff, Nat.reduceLeDiff, Nat.reduceSub, Nat.reduceMul, Int.reduceEq, eq_self, reduceIte, subHeap, renObj, pos, List.range_succ, hw, cE]
    · have : l.take k = l := List.take_of_length_le (by omega)
      simp only [go_sem, Nat.reduceLT, Nat.reduceAdd, Nat.reduceEqDiff, Nat.reduceLeDiff, Nat.reduceSub, Nat.reduceMul, Int.reduceEq, eq_self, reduceIte, hlt, this]
      refine ret_pure hx ?_
      simp [go_sem, Nat.reduceLT, Nat.reduceAdd, Nat.reduceEqDiff, Nat.reduceLeDiff, Nat.reduceSub, Nat.reduceMul, Int.reduceEq, eq_self, reduceIte, L129, R129, frzAt, pos]
theorem pastAt_eq {l : List Entry} (x : Id) : pastAt (pasts l) l x = pastOf l (findE l x).toNat := rfl
end Go.Proofs.YtfdolehffjmdmaaGreatDoor
/- dag.Past, dag.Heads, dag.Count: contracts. -/
namespace Go.Proofs.YtfdolehffjmdmaaGreatDoor
set_option linter.unusedSimpArgs false
set_option linter.unusedVariables false
open Go.RowKit
/-! the same in the law text's words -/
theorem isOf_meets (c : Int) (i : Nat) (hi : i < 3) (h0 : 0 ≤ c) (h7 : c ≤ 7) : Meets Tryz.prog 100 [.int .i64 c, .int .i64 i] [] (.bool (bitB c i)) [] := by
  obtain ⟨m, rfl⟩ : ∃ m : Fin 8, c = (m.val : Int) := ⟨⟨c.toNat, by omega⟩, by simp; omega⟩
  have key : ∀ (m : Fin 8) (d : Fin 3), decide (((IntKind.i64.wrap ((m.val : Int).tdiv (2 ^ d.val))).tmod 2) = 1) = bitB (m.val : Int) d.val := by decide +kernel
  refine Meets.of_walk Tryz.func100 Tryz.ntmps100 low100 res100 (by simp) fun x hx => ?_
  rcases i with _ | _ | _ | i
  · have k0 := key m 0
    simp only [Fin.isValue, Fin.val_zero, Int.pow_zero] at k0
    simp only [go_sem, Nat.reduceLT, Nat.reduceAdd, Nat.reduceEqDiff, Nat.reduceLeDiff, Nat.reduceSub, Nat.reduceMul, Int.reduceEq, eq_self, reduceIte, L100, R100, Int.ofNat_zero, Int.toNat_zero, Int.reduceLT, Int.reduceLE, Int.reduceNe, Int.cast_ofNat_Int, Int.reduceToNat, ne_eq, k0]
    refine ret_pure hx ?_
    simp [go_sem, Nat.reduceLT, Nat.reduceAdd, Nat.reduceEqDiff, Nat.reduceLeDiff, Nat.reduceSub, Nat.reduceMul, Int.reduceEq, eq_self, reduceIte, L100, R100, k0]
  · have k0 := key m 1
    simp only [Fin.isValue, Fin.val_one, Int.pow_succ, Int.pow_zero, Int.one_mul] at k0
    simp only [go_sem, Nat.reduceLT, Nat.reduceAdd, Nat.reduceEqDiff, Nat.reduceLeDiff, Nat.reduceSub, Nat.reduceMul, Int.reduceEq, eq_self, reduceIte, L100, R100, Int.ofNat_zero, Int.toNat_zero, Int.reduceLT, Int.reduceLE, Int.reduceNe, Int.cast_ofNat_Int, Int.reduceToNat, ne_eq, Int.natCast_one, Int.reduceAdd, Int.natCast_add, k0]
    refine ret_pure hx ?_
    simp [go_sem, Nat.reduceLT, Nat.reduceAdd, Nat.reduceEqDiff, Nat.reduceLeDiff, Nat.reduceSub, Nat.reduceMul, Int.reduceEq, eq_self, reduceIte, L100, R100, k0]
  · have k0 := key m 2
    simp only [Fin.isValue, Fin.val_two, Int.pow_succ, Int.pow_zero, Int.one_mul, Int.reduceMul] at k0
    simp only [go_sem, Nat.reduceLT, Nat.reduceAdd, Nat.reduceEqDiff, Nat.reduceLeDiff, Nat.reduceSub, Nat.reduceMul, Int.reduceEq, eq_self, reduceIte, L100, R100, Int.ofNat_zero, Int.toNat_zero, Int.reduceLT, Int.reduceLE, Int.reduceNe, Int.cast_ofNat_Int, Int.reduceToNat, ne_eq, Int.natCast_one, Int.reduceAdd, Int.natCast_add, k0]
    refine ret_pure hx ?_
    simp [go_sem, Nat.reduceLT, Nat.reduceAdd, Nat.reduceEqDiff, Nat.reduceLeDiff, Nat.reduceSub, Nat.reduceMul, Int.reduceEq, eq_self, reduceIte, L100, R100, k0]
  · omega
end Go.Proofs.YtfdolehffjmdmaaGreatDoor
/- Pasts and heads in the law text's words: contracts. -/
namespace Go.Proofs.YtfdolehffjmdmaaGreatDoor
set_option linter.unusedSimpArgs false
set_option linter.unusedVariables false
open Go.RowKit
theorem meets_meets (a b : Int) (ha : 0 ≤ a ∧ a ≤ 7) (hb : 0 ≤ b ∧ b ≤ 7) : Meets Tryz.prog 51 [.int .i64 a, .int .i64 b] [] (.bool (meetB a b)) [] := by
  refine Meets.of_walk Tryz.func51 Tryz.ntmps51 low51 res51 (by simp) fun x hx => ?_
  simp only [go_sem, Nat.reduceLT, Nat.reduceAdd, Nat.reduceEqDiff, Nat.reduceLeDiff, Nat.reduceSub, Nat.reduceMul, Int.reduceEq, eq_self, reduceIte, L51, R51]
  refine loop_inv [0, 1, 5] 0 (fun n st => ∃ k : Nat, k + n = 3 ∧ (∀ j, j < k → (bitB a j && bitB b j) = false) ∧
    st = ⟨mkE .top [(0, .int .i64 a), (1, .int .i64 b), (5, .int .i64 k)], []⟩) 3 (by simp [hx]) (by simp) ?_ ?_
  · refine ⟨0, by omega, by simp, ?_⟩
    simp [trim_mk, go_sem, Nat.reduceLT, Nat.reduceAdd, Nat.reduceEqDiff, Nat.reduceLeDiff, Nat.reduceSub, Nat.reduceMul, Int.reduceEq, eq_self, reduceIte, subHeap, renObj, pos]
  · rintro n st ⟨k, hk, hi, rfl⟩
    by_cases hlt : k < 3
    · have d3 : decide ((k : Int) < 3) = true := by simp; omega
      have wk := i64_up (k := k) (by omega)
      simp only [go_sem, Nat.reduceLT, Nat.reduceAdd, Nat.reduceEqDiff, Nat.reduceLeDiff, Nat.reduceSub, Nat.reduceMul, Int.reduceEq, eq_self, reduceIte, d3]
      refine ops_call (.pureE (isOf_meets a k hlt ha.1 ha.2) (by simp [go_sem, Nat.reduceLT, Nat.reduceAdd, Nat.reduceEqDiff, Nat.reduceLeDiff, Nat.reduceSub, Nat.reduceMul, Int.reduceEq, eq_self, reduceIte])) ?_
      cases h1 : bitB a k
      · simp only [go_sem, Nat.reduceLT, Nat.reduceAdd, Nat.reduceEqDiff, Nat.reduceLeDiff, Nat.reduceSub, Nat.reduceMul, Int.reduceEq, eq_self, reduceIte, wk]
        refine ⟨by simp, n - 1, by omega, k + 1, by omega, fun j hj => ?_, ?_⟩
        · by_cases e : j = k
          · subst e; simp [h1]
          · exact hi j (by omega)
        · simp [trim_mk, go_sem, Nat.reduceLT, Nat.reduceAdd, Nat.reduceEqDiff, Nat.reduceLeDiff, Nat.reduceSub, Nat.reduceMul, Int.reduceEq, eq_self, reduceIte, subHeap, renObj, pos]
      · simp only [go_sem, Nat.reduceLT, Nat.reduceAdd, Nat.reduceEqDiff, Nat.reduceLeDiff, Nat.reduceSub, Nat.reduceMul, Int.reduceEq, eq_self, reduceIte]
        refine ops_call (.pureE (isOf_meets b k hlt hb.1 hb.2) (by simp [go_sem, Nat.reduceLT, Nat.reduceAdd, Nat.reduceEqDiff, Nat.reduceLeDiff, Nat.reduceSub, Nat.reduceMul, Int.reduceEq, eq_self, reduceIte])) ?_
        cases h2 : bitB b k
        · simp only [go_sem, Nat.reduceLT, Nat.reduceAdd, Nat.reduceEqDiff, Nat.reduceLeDiff, Nat.reduceSub, Nat.reduceMul, Int.reduceEq, eq_self, reduceIte, wk]
          refine ⟨by simp, n - 1, by omega, k + 1, by omega, fun j hj => ?_, ?_⟩
          · by_cases e : j = k
            · subst e; simp [h2]
            · exact hi j (by omega)
          · simp [trim_mk, go_sem, Nat.reduceLT, Nat.reduceAdd, Nat.reduceEqDiff, Nat.reduceLeDiff, Nat.reduceSub, Nat.reduceMul, Int.reduceEq, eq_self, reduceIte, subHeap, renObj, pos]
        · simp only [go_sem, Nat.reduceLT, Nat.reduceAdd, Nat.reduceEqDiff, Nat.reduceLeDiff, Nat.reduceSub, Nat.reduceMul, Int.reduceEq, eq_self, reduceIte]
          refine ret_pure hx ?_
          have : meetB a b = true := by
            rcases k with _ | _ | _ | k
            · simp [meetB, h1, h2]
            · simp [meetB, h1, h2]
            · simp [meetB, h1, h2]
            · omega
          simp [go_sem, Nat.reduceLT, Nat.reduceAdd, Nat.reduceEqDiff, Nat.reduceLeDiff, Nat.reduceSub, Nat.reduceMul, Int.reduceEq, eq_self, reduceIte, L51, R51, this]
    · have d3 : decide ((k : Int) < 3) = false := by simp; omega
      simp only [go_sem, Nat.reduceLT, Nat.reduceAdd, Nat.reduceEqDiff, Nat.reduceLeDiff, Nat.reduceSub, Nat.reduceMul, Int.reduceEq, eq_self, reduceIte, d3]
      refine ret_pure hx ?_
      have : meetB a b = false := by simp only [meetB, hi 0 (by omega), hi 1 (by omega), hi 2 (by omega)]; rfl
      simp [go_sem, Nat.reduceLT, Nat.reduceAdd, Nat.reduceEqDiff, Nat.reduceLeDiff, Nat.reduceSub, Nat.reduceMul, Int.reduceEq, eq_self, reduceIte, L51, R51, this]
def rB (b : Bool) : List PV := [.bool b]
def markL (l : List Entry) (ls : List Id) (M : List Bool) : List Bool := ls.foldl (fun M x => M.set (findE l x).toNat true) M
def markS (l : List Entry) (a i : Nat) (M : List Bool) : List Bool := if i = a ∨ nth M i = true then markL l (nth l i).ls M else M
def marks (l : List Entry) (a : Nat) : Nat → List Bool
  | 0 => List.replicate l.length false
  | s + 1 => markS l a (a - s) (marks l a s)
def marksOf (l : List Entry) (a : Nat) : List Bool := marks l a (a + 1)
theorem markL_length (l : List Entry) : ∀ (ls : List Id) (M : List Bool), (markL l ls M).length = M.length
  | [], _ => rfl
  | x :: ls, M => by
    show (markL l ls (M.set _ true)).length = _
    rw [markL_length l ls]; simp
theorem markL_take {l : List Entry} {ls : List Id} {M : List Bool} {j : Nat} (h : j < ls.length) : markL l (ls.take (j + 1)) M = (markL l (ls.take j) M).set (findE l (nth ls j)).toNat true := by
  unfold markL
  rw [List.take_succ_eq_append_getElem h, List.foldl_append, nth_eq _ _ h]
  rfl
theorem marks_length (l : List Entry) (a : Nat) : ∀ s, (marks l a s).length = l.length
  | 0 => by simp [marks]
  | s + 1 => by
    simp only [marks, markS]
    split
    · rw [markL_length, marks_length l a s]
    · exact marks_length l a s
set_option maxHeartbeats 1000000 in
theorem pastOfR_meets (l : List Entry) (a : Nat) (h : LogOk l) (ha : a < l.length) : Meets Tryz.prog 52 [.list (l.map cE), .int .i64 a] [] (.list ((marksOf l a).map rB)) [] := by
  have hm := h.len
  refine Meets.of_walk Tryz.func52 Tryz.ntmps52 low52 res52 (by simp) fun x hx => ?_
  have hb : (l.length : Int) * ((1 : Nat) : Int) ≤ 140737488355328 := by omega
  have hn0 : (0 : Int) ≤ (l.length : Int) := by omega
  simp only [go_sem, Nat.reduceLT, Nat.reduceAdd, Nat.reduceEqDiff, Nat.reduceLeDiff, Nat.reduceSub, Nat.reduceMul, Int.reduceEq, eq_self, reduceIte, L52, R52, hb, hn0]
  refine loop_inv [0, 1, 5, 6] 1 (fun n st => ∃ m : Nat, m = n ∧ m ≤ a + 1 ∧
    st = ⟨mkE .top [(0, .list (l.map cE)), (1, .int .i64 a), (5, .arr 0 0), (6, .int .i64 ((m : Int) - 1))], [.arr 0 true false 4 1 ((marks l a (a + 1 - m)).map rB)]⟩) (a + 1) (by simp [hx]) (by simp) ?_ ?_
  · refine ⟨a + 1, rfl, by omega, ?_⟩
    simp [trim_mk, go_sem, Nat.reduceLT, Nat.reduceAdd, Nat.reduceEqDiff, Nat.reduceLeDiff, Nat.reduceSub, Nat.reduceMul, Int.reduceEq, eq_self, reduceIte, subHeap, renObj, pos, List.range_succ, marks, rB]
  · rintro n st ⟨m, rfl, hma, rfl⟩
    have hml := marks_length l a (a + 1 - m)
    rcases m with _ | i
    · have d0 : decide ((0 : Int) ≤ ((0 : Nat) : Int) - 1) = false := by simp
      simp only [go_sem, Nat.reduceLT, Nat.reduceAdd, Nat.reduceEqDiff, Nat.reduceLeDiff, Nat.reduceSub, Nat.reduceMul, Int.reduceEq, eq_self, reduceIte, d0]
      refine ret_pure hx ?_
      simp [go_sem, Nat.reduceLT, Nat.reduceAdd, Nat.reduceEqDiff, Nat.reduceLeDiff, Nat.reduceSub, Nat.reduceMul, Int.reduceEq, eq_self, reduceIte, L52, R52, frzAt, pos, marksOf]
    · have e1 : (((i + 1 : Nat) : Int) - 1) = (i : Int) := by omega
      have hil : i < l.length := by omega
      have hg : l[i]? = some (nth l i) := nth_get? _ _ hil
      have hls := h.links hil
      have hM : (marks l a (a + 1 - (i + 1)))[i]? = some (nth (marks l a (a + 1 - (i + 1))) i) := nth_get? _ _ (by omega)
      have wi : IntKind.i64.wrap ((i : Int) - 1) = (i : Int) - 1 := by rw [IntWalk.i64_in _ (by omega)]
      have hstep : marks l a (a + 1 - i) = markS l a i (marks l a (a + 1 - (i + 1))) := by
        rw [show a + 1 - i = (a + 1 - (i + 1)) + 1 by omega]
        simp only [marks]
        rw [show a - (a + 1 - (i + 1)) = i by omega]
      generalize hMd : marks l a (a + 1 - (i + 1)) = M at *
      by_cases hia : i = a
      · have da : decide ((i : Int) = (a : Int)) = true := by simp; omega
        simp only [go_sem, Nat.reduceLT, Nat.reduceAdd, Nat.reduceEqDiff, Nat.reduceLeDiff, Nat.reduceSub, Nat.reduceMul, Int.reduceEq, eq_self, reduceIte, e1, da]
        refine loop_inv [0, 1, 5, 6, 7] 1 (fun n st => ∃ j : Nat, j + n = (nth l i).ls.length ∧
          st = ⟨mkE .top [(0, .list (l.map cE)), (1, .int .i64 a), (5, .arr 0 0), (6, .int .i64 i), (7, .int .i64 j)], [.arr 0 true false 4 1 ((markL l ((nth l i).ls.take j) M).map rB)]⟩) (nth l i).ls.length (by simp [hx]) (by simp) ?_ ?_
        · refine ⟨0, by omega, ?_⟩
          simp [trim_mk, go_sem, Nat.reduceLT, Nat.reduceAdd, Nat.reduceEqDiff, Nat.reduceLeDiff, Nat.reduceSub, Nat.reduceMul, Int.reduceEq, eq_self, reduceIte, subHeap, renObj, pos, List.range_succ, markL, rB]
        · rintro n2 st ⟨j, hj, rfl⟩
          by_cases hlj : j < (nth l i).ls.length
          · have hgj : (nth l i).ls[j]? = some (nth (nth l i).ls j) := nth_get? _ _ hlj
            have wj := i64_up (k := j) (by omega)
            obtain ⟨f1, f2⟩ := h.link_lt hil (x := nth (nth l i).ls j) (by rw [nth_eq _ _ hlj]; exact List.getElem_mem hlj)
            have hL : (markL l ((nth l i).ls.take j) M).length = l.length := by rw [markL_length]; exact hml
            have f3 : findE l (nth (nth l i).ls j) < ((markL l ((nth l i).ls.take j) M).length : Nat) := by omega
            have hM2 : (markL l ((nth l i).ls.take j) M)[(findE l (nth (nth l i).ls j)).toNat]? = some (nth (markL l ((nth l i).ls.take j) M) (findE l (nth (nth l i).ls j)).toNat) := nth_get? _ _ (by omega)
            simp only [go_sem, Nat.reduceLT, Nat.reduceAdd, Nat.reduceEqDiff, Nat.reduceLeDiff, Nat.reduceSub, Nat.reduceMul, Int.reduceEq, eq_self, reduceIte, hil, hg, cE, hlj, hgj, cId]
            refine ops_call (.pureE (entryAt_meets l (nth (nth l i).ls j) (by omega)) (by simp [go_sem, Nat.reduceLT, Nat.reduceAdd, Nat.reduceEqDiff, Nat.reduceLeDiff, Nat.reduceSub, Nat.reduceMul, Int.reduceEq, eq_self, reduceIte, cId])) ?_
            simp only [go_sem, Nat.reduceLT, Nat.reduceAdd, Nat.reduceEqDiff, Nat.reduceLeDiff, Nat.reduceSub, Nat.reduceMul, Int.reduceEq, eq_self, reduceIte, f1, f3, hM2, rB, wj, Nat.le_refl, frz, or_true, false_or]
            refine ⟨by simp, n2 - 1, by omega, j + 1, by omega, ?_⟩
            simp [trim_mk, go_sem, Nat.reduceLT, Nat.reduceAdd, Nat.reduceEqDiff, Nat.reduceLeDiff, Nat.reduceSub, Nat.reduceMul, Int.reduceEq, eq_self, reduceIte, subHeap, renObj, pos, List.range_succ, markL_take hlj, rB, List.map_set]
          · have htl : (nth l i).ls.take j = (nth l i).ls := List.take_of_length_le (by omega)
            simp only [go_sem, Nat.reduceLT, Nat.reduceAdd, Nat.reduceEqDiff, Nat.reduceLeDiff, Nat.reduceSub, Nat.reduceMul, Int.reduceEq, eq_self, reduceIte, hil, hg, cE, hlj, htl, wi]
            refine ⟨by simp, i, by omega, i, rfl, by omega, ?_⟩
            rw [hstep, markS, if_pos (.inl hia)]
            simp [trim_mk, go_sem, Nat.reduceLT, Nat.reduceAdd, Nat.reduceEqDiff, Nat.reduceLeDiff, Nat.reduceSub, Nat.reduceMul, Int.reduceEq, eq_self, reduceIte, subHeap, renObj, pos, List.range_succ, rB]
      · have da : decide ((i : Int) = (a : Int)) = false := by simp; omega
        have hil' : i < M.length := by omega
        simp only [go_sem, Nat.reduceLT, Nat.reduceAdd, Nat.reduceEqDiff, Nat.reduceLeDiff, Nat.reduceSub, Nat.reduceMul, Int.reduceEq, eq_self, reduceIte, e1, da, hil, hM, hml, rB, Nat.le_refl]
        cases hMi : nth M i
        · simp only [go_sem, Nat.reduceLT, Nat.reduceAdd, Nat.reduceEqDiff, Nat.reduceLeDiff, Nat.reduceSub, Nat.reduceMul, Int.reduceEq, eq_self, reduceIte, wi]
          refine ⟨by simp, i, by omega, i, rfl, by omega, ?_⟩
          rw [hstep, markS, if_neg (by simp [hia, hMi])]
          simp [trim_mk, go_sem, Nat.reduceLT, Nat.reduceAdd, Nat.reduceEqDiff, Nat.reduceLeDiff, Nat.reduceSub, Nat.reduceMul, Int.reduceEq, eq_self, reduceIte, subHeap, renObj, pos, List.range_succ, rB]
        · simp only [go_sem, Nat.reduceLT, Nat.reduceAdd, Nat.reduceEqDiff, Nat.reduceLeDiff, Nat.reduceSub, Nat.reduceMul, Int.reduceEq, eq_self, reduceIte]
          refine loop_inv [0, 1, 5, 6, 7] 1 (fun n st => ∃ j : Nat, j + n = (nth l i).ls.length ∧
            st = ⟨mkE .top [(0, .list (l.map cE)), (1, .int .i64 a), (5, .arr 0 0), (6, .int .i64 i), (7, .int .i64 j)], [.arr 0 true false 4 1 ((markL l ((nth l i).ls.take j) M).map rB)]⟩) (nth l i).ls.length (by simp [hx]) (by simp) ?_ ?_
          · refine ⟨0, by omega, ?_⟩
            simp [trim_mk, go_sem, Nat.reduceLT, Nat.reduceAdd, Nat.reduceEqDiff, Nat.reduceLeDiff, Nat.reduceSub, Nat.reduceMul, Int.reduceEq, eq_self, reduceIte, subHeap, renObj, pos, List.range_succ, markL, rB]
          · rintro n2 st ⟨j, hj, rfl⟩
            by_cases hlj : j < (nth l i).ls.length
            · have hgj : (nth l i).ls[j]? = some (nth (nth l i).ls j) := nth_get? _ _ hlj
              have wj := i64_up (k := j) (by omega)
              obtain ⟨f1, f2⟩ := h.link_lt hil (x := nth (nth l i).ls j) (by rw [nth_eq _ _ hlj]; exact List.getElem_mem hlj)
              have hL : (markL l ((nth l i).ls.take j) M).length = l.length := by rw [markL_length]; exact hml
              have f3 : findE l (nth (nth l i).ls j) < ((markL l ((nth l i).ls.take j) M).length : Nat) := by omega
              have hM2 : (markL l ((nth l i).ls.take j) M)[(findE l (nth (nth l i).ls j)).toNat]? = some (nth (markL l ((nth l i).ls.take j) M) (findE l (nth (nth l i).ls j)).toNat) := nth_get? _ _ (by omega)
              simp only [go_sem, Nat.reduceLT, Nat.reduceAdd, Nat.reduceEqDiff, Nat.reduceLeDiff, Nat.reduceSub, Nat.reduceMul, Int.reduceEq, eq_self, reduceIte, hil, hg, cE, hlj, hgj, cId]
              refine ops_call (.pureE (entryAt_meets l (nth (nth l i).ls j) (by omega)) (by simp [go_sem, Nat.reduceLT, Nat.reduceAdd, Nat.reduceEqDiff, Nat.reduceLeDiff, Nat.reduceSub, Nat.reduceMul, Int.reduceEq, eq_self, reduceIte, cId])) ?_
              simp only [go_sem, Nat.reduceLT, Nat.reduceAdd, Nat.reduceEqDiff, Nat.reduceLeDiff, Nat.reduceSub, Nat.reduceMul, Int.reduceEq, eq_self, reduceIte, f1, f3, hM2, rB, wj, Nat.le_refl, frz, or_true, false_or]
              refine ⟨by simp, n2 - 1, by omega, j + 1, by omega, ?_⟩
              simp [trim_mk, go_sem, Nat.reduceLT, Nat.reduceAdd, Nat.reduceEqDiff, Nat.reduceLeDiff, Nat.reduceSub, Nat.reduceMul, Int.reduceEq, eq_self, reduceIte, subHeap, renObj, pos, List.range_succ, markL_take hlj, rB, List.map_set]
            · have htl : (nth l i).ls.take j = (nth l i).ls := List.take_of_length_le (by omega)
              simp only [go_sem, Nat.reduceLT, Nat.reduceAdd, Nat.reduceEqDiff, Nat.reduceLeDiff, Nat.reduceSub, Nat.reduceMul, Int.reduceEq, eq_self, reduceIte, hil, hg, cE, hlj, htl, wi]
              refine ⟨by simp, i, by omega, i, rfl, by omega, ?_⟩
              rw [hstep, markS, if_pos (.inr hMi)]
              simp [trim_mk, go_sem, Nat.reduceLT, Nat.reduceAdd, Nat.reduceEqDiff, Nat.reduceLeDiff, Nat.reduceSub, Nat.reduceMul, Int.reduceEq, eq_self, reduceIte, subHeap, renObj, pos, List.range_succ, rB]
end Go.Proofs.YtfdolehffjmdmaaGreatDoor
/- What the entries of a log do (fold.ops), and which of it stands. -/
namespace Go.Proofs.YtfdolehffjmdmaaGreatDoor
set_option linter.unusedSimpArgs false
set_option linter.unusedVariables false
open Go.RowKit
structure FOp where
  id : Id
  k : ByteArray
  v : ByteArray
  p : Bool
deriving Inhabited
def cOp (o : FOp) : List PV := [.int .i64 o.id.r, .int .i64 o.id.n, .str o.k, .str o.v, .bool o.p]
def opE (e : Entry) : Option FOp := if (opOf e.t).1 = 0 then none else some ⟨e.id, (opOf e.t).2.1, (opOf e.t).2.2, decide ((opOf e.t).1 = 1)⟩
def opsL (l : List Entry) (c : Int) : List FOp := (withC l c).filterMap opE
theorem opOf_kind (s : ByteArray) : (opOf s).1 = 0 ∨ (opOf s).1 = 1 ∨ (opOf s).1 = 2 := by
  unfold opOf
  split
  · split
    · exact .inr (.inl rfl)
    · exact .inl rfl
  · split
    · exact .inr (.inr rfl)
    · exact .inl rfl
  · exact .inl rfl
theorem opsL_take {l : List Entry} {k : Nat} (h : k < l.length) : (l.take (k + 1)).filterMap opE = (l.take k).filterMap opE ++ (opE (nth l k)).toList := by
  rw [List.take_add_one, nth_get? _ _ h, List.filterMap_append]
  cases h2 : opE (nth l k) <;> simp [h2]
theorem filterMap_len {α β : Type} (f : α → Option β) (l : List α) : (l.filterMap f).length ≤ l.length := List.length_filterMap_le ..
def standB (ps : List (List Id)) (l : List Entry) (all : List FOp) (o : FOp) : Bool := o.p && !(all.any fun x => decide (x.k = o.k) && hasI (pastAt ps l x.id) o.id)
set_option maxRecDepth 10000 in
set_option maxHeartbeats 4000000 in
theorem ops_meets (l : List Entry) (c : Int) (h : LogOk l) (hc : wthn c 1 7 = true) (ht : ∀ e ∈ l, e.t.size ≤ 4294967000) : Meets Tryz.prog 85 [.list (l.map cE), .int .i64 c] [] (.list ((opsL l c).map cOp)) [] := by
  have hm := h.len
  have hwl := withC_len l c
  have htw : ∀ e ∈ withC l c, e.t.size ≤ 4294967000 := fun e he => ht e (List.mem_filter.1 he).1
  refine Meets.of_walk Tryz.func85 Tryz.ntmps85 low85 res85 (by simp) fun x hx => ?_
  simp only [go_sem, Nat.reduceLT, Nat.reduceAdd, Nat.reduceEqDiff, Nat.reduceLeDiff, Nat.reduceSub, Nat.reduceMul, Int.reduceEq, eq_self, reduceIte, L85, R85]
  refine ops_call (.pure (with_meets l c h hc)) ?_
  simp only [go_sem, Nat.reduceLT, Nat.reduceAdd, Nat.reduceEqDiff, Nat.reduceLeDiff, Nat.reduceSub, Nat.reduceMul, Int.reduceEq, eq_self, reduceIte, List.length_map]
  refine W_weak (weak_own 5 0 131 5 false false rfl (by omega)) ?_
  obtain ⟨W, hW⟩ : ∃ W, withC l c = W := ⟨_, rfl⟩
  rw [opsL, hW]
  rw [hW] at hwl htw
  refine loop_inv [5, 14, 15, 16] 1 (fun n st => ∃ k v : Nat, k + n = W.length ∧
    st = ⟨mkE .top [(5, .arr 0 v), (14, .list (W.map cE)), (15, .int .i64 W.length), (16, .int .i64 k)], [.arr v false false 131 5 (((W.take k).filterMap opE).map cOp)]⟩) W.length (by simp [hx]) (by simp [St.put]) ?_ ?_
  · refine ⟨0, 0, by omega, ?_⟩
    simp [trim_mk, go_sem, Nat.reduceLT, Nat.reduceAdd, Nat.reduceEqDiff, Nat.reduceLeDiff, Nat.reduceSub, Nat.reduceMul, Int.reduceEq, eq_self, reduceIte, subHeap, renObj, pos, List.range_succ]
  · rintro n st ⟨k, v, hk, rfl⟩
    by_cases hlt : k < W.length
    · have hg : W[k]? = some (nth W k) := nth_get? _ _ hlt
      have wk := i64_up (k := k) (by omega)
      have hsz := htw (nth W k) (List.mem_of_getElem? hg)
      have htk := opsL_take hlt
      have hlen := filterMap_len opE (W.take k)
      rw [List.length_take] at hlen
      simp only [go_sem, Nat.reduceLT, Nat.reduceAdd, Nat.reduceEqDiff, Nat.reduceLeDiff, Nat.reduceSub, Nat.reduceMul, Int.reduceEq, eq_self, reduceIte, hlt, hg, cE]
      refine ops_call (.pureE (op_meets (nth W k).t (by omega)) (by simp [go_sem, Nat.reduceLT, Nat.reduceAdd, Nat.reduceEqDiff, Nat.reduceLeDiff, Nat.reduceSub, Nat.reduceMul, Int.reduceEq, eq_self, reduceIte])) ?_
      rcases opOf_kind (nth W k).t with h0 | h1 | h2
      · have hoe : opE (nth W k) = none := by simp [opE, h0]
        rw [hoe] at htk
        simp only [go_sem, Nat.reduceLT, Nat.reduceAdd, Nat.reduceEqDiff, Nat.reduceLeDiff, Nat.reduceSub, Nat.reduceMul, Int.reduceEq, eq_self, reduceIte, Int.ofNat_zero, Int.natCast_one, Int.cast_ofNat_Int, Int.reduceLT, Int.reduceLE, Int.reduceToNat, Nat.reduceLT, Int.toNat_zero, Int.natCast_zero, Int.le_refl, Int.lt_irrefl, Int.reduceAdd, frz, false_or, or_true, cOp4, h0, wk]
        refine ⟨by simp, n - 1, by omega, k + 1, v, by omega, ?_⟩
        rw [htk]
        simp [trim_mk, go_sem, Nat.reduceLT, Nat.reduceAdd, Nat.reduceEqDiff, Nat.reduceLeDiff, Nat.reduceSub, Nat.reduceMul, Int.reduceEq, eq_self, reduceIte, subHeap, renObj, pos, List.range_succ]
      · have hoe : opE (nth W k) = some ⟨(nth W k).id, (opOf (nth W k).t).2.1, (opOf (nth W k).t).2.2, true⟩ := by simp [opE, h1]
        rw [hoe] at htk
        simp only [go_sem, Nat.reduceLT, Nat.reduceAdd, Nat.reduceEqDiff, Nat.reduceLeDiff, Nat.reduceSub, Nat.reduceMul, Int.reduceEq, eq_self, reduceIte, Int.ofNat_zero, Int.natCast_one, Int.cast_ofNat_Int, Int.reduceLT, Int.reduceLE, Int.reduceToNat, Nat.reduceLT, Int.toNat_zero, Int.natCast_zero, Int.le_refl, Int.lt_irrefl, Int.reduceAdd, frz, false_or, or_true, cOp4, h1, wk]
        rw [app_arr rfl rfl (by simp) (by simp; omega)]
        simp only [go_sem, Nat.reduceLT, Nat.reduceAdd, Nat.reduceEqDiff, Nat.reduceLeDiff, Nat.reduceSub, Nat.reduceMul, Int.reduceEq, eq_self, reduceIte, wk]
        refine ⟨by simp, n - 1, by omega, k + 1, v + 1, by omega, ?_⟩
        rw [htk]
        simp [trim_mk, go_sem, Nat.reduceLT, Nat.reduceAdd, Nat.reduceEqDiff, Nat.reduceLeDiff, Nat.reduceSub, Nat.reduceMul, Int.reduceEq, eq_self, reduceIte, subHeap, renObj, renCell, renLeaf, pos, List.range_succ, cOp]
      · have hoe : opE (nth W k) = some ⟨(nth W k).id, (opOf (nth W k).t).2.1, (opOf (nth W k).t).2.2, false⟩ := by simp [opE, h2]
        rw [hoe] at htk
        simp only [go_sem, Nat.reduceLT, Nat.reduceAdd, Nat.reduceEqDiff, Nat.reduceLeDiff, Nat.reduceSub, Nat.reduceMul, Int.reduceEq, eq_self, reduceIte, Int.ofNat_zero, Int.natCast_one, Int.cast_ofNat_Int, Int.reduceLT, Int.reduceLE, Int.reduceToNat, Nat.reduceLT, Int.toNat_zero, Int.natCast_zero, Int.le_refl, Int.lt_irrefl, Int.reduceAdd, frz, false_or, or_true, cOp4, h2, wk]
        rw [app_arr rfl rfl (by simp) (by simp; omega)]
        simp only [go_sem, Nat.reduceLT, Nat.reduceAdd, Nat.reduceEqDiff, Nat.reduceLeDiff, Nat.reduceSub, Nat.reduceMul, Int.reduceEq, eq_self, reduceIte, wk]
        refine ⟨by simp, n - 1, by omega, k + 1, v + 1, by omega, ?_⟩
        rw [htk]
        simp [trim_mk, go_sem, Nat.reduceLT, Nat.reduceAdd, Nat.reduceEqDiff, Nat.reduceLeDiff, Nat.reduceSub, Nat.reduceMul, Int.reduceEq, eq_self, reduceIte, subHeap, renObj, renCell, renLeaf, pos, List.range_succ, cOp]
    · have : W.take k = W := List.take_of_length_le (by omega)
      simp only [go_sem, Nat.reduceLT, Nat.reduceAdd, Nat.reduceEqDiff, Nat.reduceLeDiff, Nat.reduceSub, Nat.reduceMul, Int.reduceEq, eq_self, reduceIte, hlt, this]
      refine ret_pure hx ?_
      simp [go_sem, Nat.reduceLT, Nat.reduceAdd, Nat.reduceEqDiff, Nat.reduceLeDiff, Nat.reduceSub, Nat.reduceMul, Int.reduceEq, eq_self, reduceIte, L85, R85, frzAt, pos]
theorem raw11_meets (l : List Entry) (ps : List (List Id)) (o y : FOp) (hl : l.length ≤ 9223372036854775806) (h0 : 0 ≤ findE l y.id) (h1 : findE l y.id < ps.length) (h2 : (pastAt ps l y.id).length ≤ 9223372036854775806) :
    Meets Tryz.prog 90 [.agg (cOp y), .rptr (cOp o), .rptr [pvPasts l ps]] [] (.bool (decide (y.k = o.k) && hasI (pastAt ps l y.id) o.id)) [] := by
  refine Meets.of_walk Tryz.func90 Tryz.ntmps90 low90 res90 (by simp) fun x hx => ?_
  simp only [go_sem, Nat.reduceLT, Nat.reduceAdd, Nat.reduceEqDiff, Nat.reduceLeDiff, Nat.reduceSub, Nat.reduceMul, Int.reduceEq, eq_self, reduceIte, L90, R90, cOp]
  by_cases hk : y.k = o.k
  · simp only [go_sem, Nat.reduceLT, Nat.reduceAdd, Nat.reduceEqDiff, Nat.reduceLeDiff, Nat.reduceSub, Nat.reduceMul, Int.reduceEq, eq_self, reduceIte, hk, decide_true, cOp]
    refine ops_call (.pureE (ahead_meets l ps o.id y.id hl h0 h1 h2) (by simp [go_sem, Nat.reduceLT, Nat.reduceAdd, Nat.reduceEqDiff, Nat.reduceLeDiff, Nat.reduceSub, Nat.reduceMul, Int.reduceEq, eq_self, reduceIte, cId, pvPasts])) ?_
    simp only [go_sem, Nat.reduceLT, Nat.reduceAdd, Nat.reduceEqDiff, Nat.reduceLeDiff, Nat.reduceSub, Nat.reduceMul, Int.reduceEq, eq_self, reduceIte]
    refine ret_pure hx ?_
    simp [go_sem, Nat.reduceLT, Nat.reduceAdd, Nat.reduceEqDiff, Nat.reduceLeDiff, Nat.reduceSub, Nat.reduceMul, Int.reduceEq, eq_self, reduceIte, L90, R90, hk]
  · simp only [go_sem, Nat.reduceLT, Nat.reduceAdd, Nat.reduceEqDiff, Nat.reduceLeDiff, Nat.reduceSub, Nat.reduceMul, Int.reduceEq, eq_self, reduceIte, hk, decide_false, cOp]
    refine ret_pure hx ?_
    simp [go_sem, Nat.reduceLT, Nat.reduceAdd, Nat.reduceEqDiff, Nat.reduceLeDiff, Nat.reduceSub, Nat.reduceMul, Int.reduceEq, eq_self, reduceIte, L90, R90]
end Go.Proofs.YtfdolehffjmdmaaGreatDoor
/- Puts that stand: slices asked by a function at what entries do. -/
namespace Go.Proofs.YtfdolehffjmdmaaGreatDoor
set_option linter.unusedSimpArgs false
set_option linter.unusedVariables false
open Go.RowKit
theorem indexOp_meets (l : List FOp) (g : Nat) (caps : List PV) (Hs : List AObj) (p : FOp → Bool) (hg : hasBody Tryz.prog g = true) (hl : l.length ≤ 9223372036854775806) (hc : ClosedH Hs caps)
    (hp : ∀ e ∈ l, Meets Tryz.prog g (.agg (cOp e) :: caps) Hs (.bool (p e)) Hs) :
    Meets Tryz.prog 130 [.list (l.map cOp), .clo g caps] Hs (.int .i64 (idxF p l 0)) Hs := by
  refine Meets.of_walk Tryz.func130 Tryz.ntmps130 low130 res130 (by simp) fun x hx => ?_
  simp only [go_sem, Nat.reduceLT, Nat.reduceAdd, Nat.reduceEqDiff, Nat.reduceLeDiff, Nat.reduceSub, Nat.reduceMul, Int.reduceEq, eq_self, reduceIte, L130, R130]
  refine loop_keep [0, 1, 7, 8] (fun n st => ∃ k : Nat, k + n = l.length ∧ idxF p (l.drop k) k = idxF p l 0 ∧
    st = ⟨mkE .top [(0, .list (l.map cOp)), (1, .clo g caps), (7, .int .i64 l.length), (8, .int .i64 k)], Hs⟩) l.length ?_ ?_
  · refine ⟨0, by omega, by simp, ?_⟩
    simp [keep_mk, go_sem, Nat.reduceLT, Nat.reduceAdd, Nat.reduceEqDiff, Nat.reduceLeDiff, Nat.reduceSub, Nat.reduceMul, Int.reduceEq, eq_self, reduceIte]
  · rintro n st ⟨k, hk, hi, rfl⟩
    by_cases hlt : k < l.length
    · have hgt : l[k]? = some (nth l k) := nth_get? _ _ hlt
      have wk := i64_up (k := k) (by omega)
      rw [idxF_drop p l k hlt] at hi
      simp only [go_sem, Nat.reduceLT, Nat.reduceAdd, Nat.reduceEqDiff, Nat.reduceLeDiff, Nat.reduceSub, Nat.reduceMul, Int.reduceEq, eq_self, reduceIte, hlt, hgt, cOp, cId]
      refine ops_callv rfl hg (.whole (hp (nth l k) (by rw [nth_eq _ _ hlt]; exact List.getElem_mem hlt)) rfl ?_ hc.sub hc.back) ?_
      · simp only [go_sem, Nat.reduceLT, Nat.reduceAdd, Nat.reduceEqDiff, Nat.reduceLeDiff, Nat.reduceSub, Nat.reduceMul, Int.reduceEq, eq_self, reduceIte, cOp, cId]
        rw [hc.caps]
      cases hpk : p (nth l k)
      · rw [if_neg (by simp [hpk])] at hi
        simp only [go_sem, Nat.reduceLT, Nat.reduceAdd, Nat.reduceEqDiff, Nat.reduceLeDiff, Nat.reduceSub, Nat.reduceMul, Int.reduceEq, eq_self, reduceIte, wk]
        exact ⟨n - 1, by omega, k + 1, by omega, hi, by simp [keep_mk, go_sem, Nat.reduceLT, Nat.reduceAdd, Nat.reduceEqDiff, Nat.reduceLeDiff, Nat.reduceSub, Nat.reduceMul, Int.reduceEq, eq_self, reduceIte]⟩
      · rw [if_pos hpk] at hi
        simp only [go_sem, Nat.reduceLT, Nat.reduceAdd, Nat.reduceEqDiff, Nat.reduceLeDiff, Nat.reduceSub, Nat.reduceMul, Int.reduceEq, eq_self, reduceIte]
        refine ret_scal hx rfl hc.kept ?_
        simp [go_sem, Nat.reduceLT, Nat.reduceAdd, Nat.reduceEqDiff, Nat.reduceLeDiff, Nat.reduceSub, Nat.reduceMul, Int.reduceEq, eq_self, reduceIte, L130, R130, hi]
    · have : l.drop k = [] := List.drop_eq_nil_of_le (by omega)
      rw [this] at hi
      simp only [go_sem, Nat.reduceLT, Nat.reduceAdd, Nat.reduceEqDiff, Nat.reduceLeDiff, Nat.reduceSub, Nat.reduceMul, Int.reduceEq, eq_self, reduceIte, hlt]
      refine ret_scal hx rfl hc.kept ?_
      simp [go_sem, Nat.reduceLT, Nat.reduceAdd, Nat.reduceEqDiff, Nat.reduceLeDiff, Nat.reduceSub, Nat.reduceMul, Int.reduceEq, eq_self, reduceIte, L130, R130, ← hi, idxF]
theorem contFOp_meets (l : List FOp) (g : Nat) (caps : List PV) (Hs : List AObj) (p : FOp → Bool) (hg : hasBody Tryz.prog g = true) (hl : l.length ≤ 9223372036854775806) (hc : ClosedH Hs caps)
    (hp : ∀ e ∈ l, Meets Tryz.prog g (.agg (cOp e) :: caps) Hs (.bool (p e)) Hs) :
    Meets Tryz.prog 89 [.list (l.map cOp), .clo g caps] Hs (.bool (l.any p)) Hs := by
  refine Meets.of_walk Tryz.func89 Tryz.ntmps89 low89 res89 (by simp) fun x hx => ?_
  simp only [go_sem, Nat.reduceLT, Nat.reduceAdd, Nat.reduceEqDiff, Nat.reduceLeDiff, Nat.reduceSub, Nat.reduceMul, Int.reduceEq, eq_self, reduceIte, L89, R89]
  refine ops_call (.whole (indexOp_meets l g caps Hs p hg hl hc hp) rfl ?_ hc.sub hc.back) ?_
  · simp only [go_sem, Nat.reduceLT, Nat.reduceAdd, Nat.reduceEqDiff, Nat.reduceLeDiff, Nat.reduceSub, Nat.reduceMul, Int.reduceEq, eq_self, reduceIte]
    rw [hc.leaf]
  simp only [go_sem, Nat.reduceLT, Nat.reduceAdd, Nat.reduceEqDiff, Nat.reduceLeDiff, Nat.reduceSub, Nat.reduceMul, Int.reduceEq, eq_self, reduceIte]
  refine ret_scal hx rfl hc.kept ?_
  simp [go_sem, Nat.reduceLT, Nat.reduceAdd, Nat.reduceEqDiff, Nat.reduceLeDiff, Nat.reduceSub, Nat.reduceMul, Int.reduceEq, eq_self, reduceIte, L89, R89, idxF_any]
theorem closedCaps {caps : List PV} (h1 : caps.map (renLeaf true (pos (List.range 0)) (frzAt false [])) = caps) (h2 : caps.map (ren true (pos (List.range 0)) (frzAt false [])) = caps) : ClosedH [] caps := ⟨h1, h2, rfl, rfl, rfl⟩
theorem fraw1_meets (l : List Entry) (ps : List (List Id)) (all : List FOp) (o : FOp) (hl : l.length ≤ 9223372036854775806) (ha : all.length ≤ 9223372036854775806)
    (h : ∀ y ∈ all, 0 ≤ findE l y.id ∧ findE l y.id < ps.length ∧ (pastAt ps l y.id).length ≤ 9223372036854775806) :
    Meets Tryz.prog 88 [.agg (cOp o), .rptr [.list (all.map cOp)], .rptr [pvPasts l ps]] [] (.bool (!standB ps l all o)) [] := by
  have hc := contFOp_meets all 90 [.rptr (cOp o), .rptr [pvPasts l ps]] [] (fun y => decide (y.k = o.k) && hasI (pastAt ps l y.id) o.id) (by kernel_rfl) ha
    (closedCaps (by simp [renLeaf, cOp, pvPasts]) (by simp [ren, renT, renCell, renLeaf, cOp, pvPasts])) (fun y hy => raw11_meets l ps o y hl (h y hy).1 (h y hy).2.1 (h y hy).2.2)
  refine Meets.of_walk Tryz.func88 Tryz.ntmps88 low88 res88 (by simp) fun x hx => ?_
  simp only [go_sem, Nat.reduceLT, Nat.reduceAdd, Nat.reduceEqDiff, Nat.reduceLeDiff, Nat.reduceSub, Nat.reduceMul, Int.reduceEq, eq_self, reduceIte, L88, R88, cOp]
  cases hp : o.p
  · simp only [go_sem, Nat.reduceLT, Nat.reduceAdd, Nat.reduceEqDiff, Nat.reduceLeDiff, Nat.reduceSub, Nat.reduceMul, Int.reduceEq, eq_self, reduceIte]
    refine ret_pure hx ?_
    simp [go_sem, Nat.reduceLT, Nat.reduceAdd, Nat.reduceEqDiff, Nat.reduceLeDiff, Nat.reduceSub, Nat.reduceMul, Int.reduceEq, eq_self, reduceIte, L88, R88, standB, hp]
  · simp only [go_sem, Nat.reduceLT, Nat.reduceAdd, Nat.reduceEqDiff, Nat.reduceLeDiff, Nat.reduceSub, Nat.reduceMul, Int.reduceEq, eq_self, reduceIte]
    refine ops_call (.lookE hc rfl (by simp [go_sem, Nat.reduceLT, Nat.reduceAdd, Nat.reduceEqDiff, Nat.reduceLeDiff, Nat.reduceSub, Nat.reduceMul, Int.reduceEq, eq_self, reduceIte, lookF, lookN, cOp, pvPasts, hp])) ?_
    simp only [go_sem, Nat.reduceLT, Nat.reduceAdd, Nat.reduceEqDiff, Nat.reduceLeDiff, Nat.reduceSub, Nat.reduceMul, Int.reduceEq, eq_self, reduceIte]
    refine ret_pure hx ?_
    simp [go_sem, Nat.reduceLT, Nat.reduceAdd, Nat.reduceEqDiff, Nat.reduceLeDiff, Nat.reduceSub, Nat.reduceMul, Int.reduceEq, eq_self, reduceIte, L88, R88, standB, hp]
end Go.Proofs.YtfdolehffjmdmaaGreatDoor
/- Contracts of functions whose last pieces are no lowered code: these are shown by hand. -/
namespace Go.Proofs.YtfdolehffjmdmaaGreatDoor
open Go.RowKit
def flatC : Code → List Code
  | .seq a b => flatC a ++ flatC b
  | c => [c]
def lowAll (P : Program) (nt : Nat) : List Code → Option (List LC)
  | [] => some []
  | c :: l => match lowerCode P nt c, lowAll P nt l with
    | some a, some r => some (a :: r)
    | _, _ => none
def WPL (P : Program) : List Code → (Exit → Act → World → Prop) → Act → World → Prop
  | [], Q, a, w => Q .normal a w
  | c :: l, Q, a, w => c.wp P (Exit.then (WPL P l Q) Q) a w
section
variable {P : Program} {x : Cx} {nt : Nat} {st : St}
theorem then_mono {n n' : Act → World → Prop} {Q Q' : Exit → Act → World → Prop} (hn : ∀ a w, n a w → n' a w) (hq : ∀ e a w, Q e a w → Q' e a w) (e : Exit) (a : Act) (w : World) (h : Exit.then n Q e a w) : Exit.then n' Q' e a w := by
  cases e with
  | normal => exact hn _ _ h
  | _ => exact hq _ _ _ h
theorem WPL_mono : ∀ {l : List Code} {Q Q' : Exit → Act → World → Prop} {a : Act} {w : World}, WPL P l Q a w → (∀ e a w, Q e a w → Q' e a w) → WPL P l Q' a w
  | [], _, _, _, _, h, hq => hq _ _ _ h
  | c :: l, Q, Q', a, w, h, hq => wp_mono (c := c) h fun e a' w' h' => then_mono (fun _ _ h2 => WPL_mono (l := l) h2 hq) hq e a' w' h'
theorem WPL_app : ∀ {l1 l2 : List Code} {Q : Exit → Act → World → Prop} {a : Act} {w : World}, WPL P (l1 ++ l2) Q a w → WPL P l1 (Exit.then (WPL P l2 Q) Q) a w
  | [], _, _, _, _, h => h
  | c :: l1, l2, Q, a, w, h => wp_mono (c := c) h fun e a' w' h' => by
      cases e with
      | normal => exact WPL_app (l1 := l1) h'
      | _ => exact h'
theorem WPL_join : ∀ {l1 l2 : List Code} {Q : Exit → Act → World → Prop} {a : Act} {w : World}, WPL P l1 (Exit.then (WPL P l2 Q) Q) a w → WPL P (l1 ++ l2) Q a w
  | [], _, _, _, _, h => h
  | c :: l1, l2, Q, a, w, h => wp_mono (c := c) h fun e a' w' h' => by
      cases e with
      | normal => exact WPL_join (l1 := l1) h'
      | _ => exact h'
theorem wp_one {c : Code} {Q : Exit → Act → World → Prop} {a : Act} {w : World} (h : WPL P [c] Q a w) : c.wp P Q a w := wp_mono (c := c) h fun e a' w' h' => by cases e <;> exact h'
theorem wp_flat : ∀ {c : Code} {Q : Exit → Act → World → Prop} {a : Act} {w : World}, WPL P (flatC c) Q a w → c.wp P Q a w
  | .seq c1 c2, Q, a, w, h => by
    rw [flatC] at h
    refine wp_seq (wp_flat (c := c1) (WPL_mono (WPL_app h) fun e a' w' h' => ?_))
    cases e with
    | normal => exact wp_flat (c := c2) h'
    | _ => exact h'
  | .skip, _, _, _, h => wp_one h
  | .region .., _, _, _, h => wp_one h
  | .cond .., _, _, _, h => wp_one h
  | .block .., _, _, _, h => wp_one h
  | .loop .., _, _, _, h => wp_one h
  | .exit .., _, _, _, h => wp_one h
  | .ret, _, _, _, h => wp_one h
  | .rangeFunc .., _, _, _, h => wp_one h
  | .scope .., _, _, _, h => wp_one h
  | .label .., _, _, _, h => wp_one h
  | .goto .., _, _, _, h => wp_one h
  | .refuse .., _, _, _, h => wp_one h
theorem WPL_low : ∀ {l : List Code} {ll : List LC} {Q : AE → St → Prop} {st : St} {a : Act} {w : World}, lowAll P nt l = some ll → WL P x nt ll Q st → Rel x nt st a w → WPL P l (postOf x nt Q) a w
  | [], ll, Q, st, a, w, h, hw, hr => by cases h; exact ⟨st, hw, hr⟩
  | c :: l, ll, Q, st, a, w, h, hw, hr => by
    rw [lowAll] at h
    split at h <;> try (cases h; done)
    rename_i lc r h1 h2
    cases h
    refine wp_mono (hw c h1 a w hr) fun e a' w' hq => ?_
    cases e with
    | normal => obtain ⟨st', g1, g2⟩ := hq; exact WPL_low (l := l) h2 g1 g2
    | exit id => exact hq
    | ret => exact hq
    | goto l => exact hq.elim
    | panic ch => exact hq.elim
    | outgrown => exact hq.elim
theorem wl_value {ops : Array Oper} {Q : Exit → Act → World → Prop} {o : Oper} {rest : List Oper} {a : Act} {w w' : World} {v : Value} (hg : o.guard = none) (hex : (execOp a.eval o).run P w = .ok (.value v) w') (h : wpList P ops Q rest (a.put o.dst v) w') : wpList P ops Q (o :: rest) a w := by
  unfold wpList
  rw [if_pos (by simp [Region.wanted, hg])]
  refine .inl ?_
  unfold Oper.wp
  rw [hex]
  exact h
theorem Meets.of_code {f : Nat} {fn : Func} {c : Code} {lrs : List LRes} {args : List PV} {Hs Hs' : List AObj} {r : PV} {nt : Nat} (hf : P.funcs[f]? = some fn) (hnt : fn.ntmps = nt) (hb : fn.body = some c) (hres : lowerRes P fn.results.toList = some lrs)
    (hargs : args.length ≤ nt)
    (h : ∀ x : Cx, x.H0 = Hs → ∀ a w, Rel x nt (St.init args Hs) a w → c.wp P (postOf x nt (retQ x nt lrs r Hs')) a w) : Meets P f args Hs r Hs' := by
  intro x vs hx hr hp
  have hvl : vs.size = args.length := by have := hp.1; simpa using this
  refine calls_of_wp hf hb ?_
  have hrel : Rel x nt (St.init args Hs) { tmps := vs ++ Array.replicate (fn.ntmps - vs.size) Go.undef, defers := [] } x.w0 := by
    refine ⟨⟨x.C0, hr, fun t => ?_⟩, rfl, by simp; omega⟩
    simp only [St.init]
    by_cases ht : t < args.length
    · have e1 : args[t]? = some args[t] := List.getElem?_eq_getElem ht
      have e2 : vs.toList[t]? = some vs[t] := by simp [ht, hvl]
      have := hp.2 t _ _ e1 e2
      simp only [List.getD, e1, Option.getD_some]
      rw [show (vs ++ Array.replicate (fn.ntmps - vs.size) Go.undef).getD t Go.undef = vs[t] by
        simp [Array.getD, Array.getElem_append, hvl, ht]; omega]
      exact this
    · simp only [List.getD, List.getElem?_eq_none (by omega : args.length ≤ t), Option.getD_none]
      rw [show (vs ++ Array.replicate (fn.ntmps - vs.size) Go.undef).getD t Go.undef = Go.undef by
        simp only [Array.getD]
        split
        · rw [Array.getInternal_eq_getElem, Array.getElem_append_right (by omega)]; simp
        · rfl]
      exact .undef
  have fin : ∀ st a w, (∃ st' keep, Weak x nt st st' ∧ Ends x lrs keep r Hs' st') → Rel x nt st a w → a.defers = [] ∧ ∃ v, (results fn a.tmps).run P w = .ok v w ∧ ∃ v1 C', Ending.returned v = .returned v1 ∧ HR x C' Hs' w ∧ RepV (Stab x C' Hs' w) w C' r v1 := by
    intro st a w ⟨st', keep, hwk, ps, h1, h2, h3, h4, h5, h6⟩ hrel
    replace hrel := hwk a w hrel
    obtain ⟨⟨C, hr1, he⟩, hdf, hsz⟩ := hrel
    obtain ⟨us, k1, k2⟩ := evalRes_run hr1 he hres h1
    refine ⟨hdf, if h : us.toArray.size = 1 then us.toArray[0] else .tuple us.toArray, ?_, if h : us.toArray.size = 1 then us.toArray[0] else .tuple us.toArray, C.sub (List.range x.H0.length ++ keep), rfl, ?_⟩
    · have hm : (fn.results.mapM (resVal a.tmps)).run P w = .ok us.toArray w := by
        rw [Array.mapM_eq_mapM_toList]
        simp [k1]
      have hq : results fn a.tmps = (do let vs ← fn.results.mapM (resVal a.tmps); pure (if h : vs.size = 1 then vs[0] else .tuple vs)) := rfl
      rw [hq, Sem.run_bind, hm, Result.andThen_ok, Sem.run_pure]
    · have hlen : (List.range x.H0.length ++ keep).Nodup := by
        refine List.nodup_append.2 ⟨List.nodup_range, h2, fun a ha b hb e => ?_⟩
        have := List.mem_range.1 ha
        have := (h3 b hb).1
        omega
      obtain ⟨q1, q2⟩ := hr1.restrict (ks := List.range x.H0.length ++ keep) hlen (fun k hk => by
          rcases List.mem_append.1 hk with h | h
          · have := List.mem_range.1 h; omega
          · exact (h3 k h).2) (fun i hi => by rw [List.getElem?_append_left (by simpa using hi), List.getElem?_range hi])
      subst h5
      subst h6
      exact ⟨q1, renT_rep q2 (tupOf_rep k2)⟩
  refine wp_mono (h x hx _ _ hrel) fun e a w hq => ?_
  cases e with
  | normal => obtain ⟨st, g1, g2⟩ := hq; exact fin st a w g1 g2
  | ret => obtain ⟨st, g1, g2⟩ := hq; exact fin st a w g1 g2
  | exit id => obtain ⟨st, g1, g2⟩ := hq; exact g1.elim
  | goto l => exact hq.elim
  | panic ch => exact hq.elim
  | outgrown => exact hq.elim
theorem Meets.of_tail {f : Nat} {fn : Func} {c : Code} {l1 l2 : List Code} {ll : List LC} {lrs : List LRes} {args : List PV} {Hs Hs' : List AObj} {r : PV} {nt : Nat} (hf : P.funcs[f]? = some fn) (hnt : fn.ntmps = nt) (hb : fn.body = some c) (hfl : flatC c = l1 ++ l2)
    (hlow : lowAll P nt l1 = some ll) (hres : lowerRes P fn.results.toList = some lrs) (hargs : args.length ≤ nt) (K : Cx → St → Prop)
    (h : ∀ x : Cx, x.H0 = Hs → WL P x nt ll (thenQ (K x) (retQ x nt lrs r Hs')) ⟨mkE .undef (idxE 0 args), Hs⟩)
    (hK : ∀ x : Cx, x.H0 = Hs → ∀ st, K x st → ∀ a w, Rel x nt st a w → WPL P l2 (postOf x nt (retQ x nt lrs r Hs')) a w) : Meets P f args Hs r Hs' :=
  Meets.of_code hf hnt hb hres hargs fun x hx a w hr => wp_flat (by
    rw [hfl]
    refine WPL_join (WPL_mono (WPL_low hlow (h x hx) (by rw [← init_mk]; exact hr)) fun e a' w' hq => ?_)
    cases e with
    | normal => obtain ⟨st, g1, g2⟩ := hq; exact hK x hx st g1 a' w' g2
    | exit id => exact hq
    | ret => exact hq
    | goto l => exact hq
    | panic ch => exact hq
    | outgrown => exact hq)
end
end Go.Proofs.YtfdolehffjmdmaaGreatDoor
/- Lowered pieces of functions whose last pieces are shown by hand (printed by a program). -/
namespace Go.Proofs.YtfdolehffjmdmaaGreatDoor
set_option maxRecDepth 100000 in
def LL86 : List LC := [(.reg none [.q 4 (.mv (.val .nilsl))]), (.reg none [.q 8 (.mv (.tmp 0)), .q 9 (.mv (.tmp 1)), .q 10 (.call 130 [.tmp 8, .tmp 9] 0), .q 5 (.mv (.tmp 10))]), (.reg none [.q 11 (.mv (.tmp 5)), .q 12 (.bin .eql (.tmp 11) (.val (.int .i64 (-1))))]), (.cond (.tmp 12) (.seq (.reg none [.q 13 (.mv (.tmp 0)), .q 4 (.mv (.tmp 13))]) .ret) .skip), (.reg none [.q 14 (.mv (.tmp 5)), .q 15 (.bin .add (.tmp 14) (.val (.int .i64 1))), .q 6 (.mv (.tmp 15))]), (.block 0 (.loop (.seq (.seq (.reg none [.q 16 (.mv (.tmp 6)), .q 17 (.mv (.tmp 0)), .q 18 (.len false (.tmp 17)), .q 19 (.bin .lss (.tmp 16) (.tmp 18))]) (.cond (.tmp 19) .skip (.exit 0))) (.seq (.block 1 (.seq (.reg none [.q 22 (.mv (.tmp 0)), .q 23 (.mv (.tmp 6)), .q 24 (.iaddrS 5 (.tmp 22) (.tmp 23)), .q 25 (.load 5 true (.tmp 24)), .q 7 (.alloc [.int .i64 0, .int .i64 0, .str ⟨#[]⟩, .str ⟨#[]⟩, (.bool false)]), .s (.store 5 (.tmp 7) (.tmp 25))]) (.seq (.reg none [.q 26 (.mv (.tmp 1)), .q 27 (.load 5 true (.tmp 7)), .q 28 (.callv (.tmp 26) [.tmp 27]), .q 29 (.not (.tmp 28))]) (.cond (.tmp 29) (.seq (.reg none [.q 30 (.mv (.tmp 0)), .q 31 (.mv (.tmp 5)), .q 32 (.load 5 true (.tmp 7)), .q 33 (.iaddrS 5 (.tmp 30) (.tmp 31)), .s (.store 5 (.tmp 33) (.tmp 32))]) (.reg none [.q 34 (.mv (.tmp 5)), .q 35 (.bin .add (.tmp 34) (.val (.int .i64 1))), .q 5 (.mv (.tmp 35))])) .skip)))) (.reg none [.q 20 (.mv (.tmp 6)), .q 21 (.bin .add (.tmp 20) (.val (.int .i64 1))), .q 6 (.mv (.tmp 21))])))))]
def R86 : List LRes := [.tmp 4]
theorem lowl86 : lowAll Tryz.prog 42 ((flatC (Tryz.f86.body.getD .skip)).take 6) = some LL86 := by kernel_rfl
theorem body86 : Tryz.f86.body = some (Tryz.f86.body.getD .skip) := by kernel_rfl
theorem res86 : lowerRes Tryz.prog Tryz.f86.results.toList = some R86 := by kernel_rfl
end Go.Proofs.YtfdolehffjmdmaaGreatDoor
/- slices.DeleteFunc at what entries do: what is left stands in the same array. -/
namespace Go.Proofs.YtfdolehffjmdmaaGreatDoor
set_option linter.unusedSimpArgs false
set_option linter.unusedVariables false
open Go.RowKit
theorem filter_take {α : Type} [Inhabited α] {l : List α} {k : Nat} (p : α → Bool) (h : k < l.length) : (l.take (k + 1)).filter p = (l.take k).filter p ++ if p (nth l k) = true then [nth l k] else [] := by
  rw [List.take_add_one, nth_get? _ _ h, List.filter_append]
  by_cases h2 : p (nth l k) = true <;> simp [h2]
def delTail : List Code := [.region 11 #[⟨some 36, .move (.tmp 0), 127, "slices.go:253", #[], none⟩, ⟨some 37, .move (.tmp 5), 3, "slices.go:253", #[], none⟩, ⟨some 38, .slice 127 (.tmp 36) (some (.tmp 37)) none none, 127, "slices.go:253", #[⟨0, .data⟩, ⟨1, .data⟩], none⟩, ⟨none, .call ⟨.builtin .clear, #[.tmp 38], #[127]⟩, 0, "slices.go:253", #[⟨2, .data⟩], none⟩] false,
  .region 12 #[⟨some 39, .move (.tmp 0), 127, "slices.go:254", #[], none⟩, ⟨some 40, .move (.tmp 5), 3, "slices.go:254", #[], none⟩, ⟨some 41, .slice 127 (.tmp 39) none (some (.tmp 40)) none, 127, "slices.go:254", #[⟨0, .data⟩, ⟨1, .data⟩], none⟩, ⟨some 4, .assign (.tmp 41), 127, "slices.go:254", #[⟨2, .data⟩, ⟨0, .phase⟩, ⟨1, .phase⟩, ⟨2, .phase⟩], none⟩] false, .ret]
theorem und_ops : Tryz.prog.underlying 127 = some (.slice 131) := by kernel_rfl
set_option maxHeartbeats 2000000 in
theorem del_tail {x : Cx} {st : St} {rows : List (List PV)} {v i : Nat} (h0 : st.env 0 = .arr 0 v) (h5 : st.env 5 = .int .i64 i) (hh : st.heap = [.arr v true false 131 5 rows]) (hi : i < rows.length)
    {Q : AE → St → Prop} (hQ : ∀ st' : St, st'.env 4 = .arr 0 (v + 1) → st'.heap = [.arr (v + 1) true false 131 5 (rows.take i)] → Q .ret st') : ∀ a w, Rel x 42 st a w → WPL Tryz.prog delTail (postOf x 42 Q) a w := by
  intro a w ⟨⟨C, hr, he⟩, hdf, hsz⟩
  have e0 := he 0
  have e5 := he 5
  rw [h0] at e0
  rw [h5] at e5
  have e5 := e5.int_inv
  rw [hh] at hr
  obtain ⟨q1, q2, q3⟩ := hr.row (id := 0) rfl (by rw [hh] at e0; exact e0)
  rcases q3 with ⟨-, rfl⟩ | ⟨g, cap, cur, r1, r2, r3, r4, r5, r6⟩
  · simp at hi
  have hcell : ∀ t, t < rows.length * 5 → (x.w0 = x.w0) ∧ (w.cell? ⟨g, t, none⟩).isSome = true ∧ w.frozen? ⟨g, t, none⟩ = false := by
    intro t ht
    have : t < cur.size := by rw [r5]; omega
    exact ⟨rfl, by simp [World.cell?, r2, this], by simp [World.frozen?, r2]⟩
  obtain ⟨z, hz1, hz2, hz3⟩ : ∃ z, (∀ w, (zeroValue 131).run Tryz.prog w = .ok z w) ∧ z.cells.size = 5 ∧ ∀ u ∈ z.cells, u.oneCell' = true := ⟨.agg #[.int .i64 0, .int .i64 0, .string ⟨#[]⟩, .string ⟨#[]⟩, .bool false], fun w => by kernel_rfl, rfl, by
    intro u hu
    simp [Value.cells] at hu
    rcases hu with rfl | rfl | rfl | rfl <;> rfl⟩
  obtain ⟨zs, hzl, hcl⟩ := run_clear_cells (P := Tryz.prog) w 127 131 0 z und_ops hz1 hz3 g (i * 5) (rows.length - i) (cap - i) (by omega)
    (fun j hj => (hcell (i * 5 + j) (by rw [hz2] at hj; omega)).2.1) (fun j hj => (hcell (i * 5 + j) (by rw [hz2] at hj; omega)).2.2)
  rw [hz2] at hzl
  obtain ⟨cs', c1, c2, c3⟩ := setCells_heap g zs (i * 5) w cur r2 (by rw [hzl, r5]; omega)
  have hown : (C.sv 0).ownBlock = some g := by rw [← q1, r1]; rfl
  obtain ⟨C', k1, k2, k3⟩ := hr.rerow (id := 0) (v' := v + 1) (g' := g) (cap' := cap) (rows' := rows.take i) (cur' := cs') rfl (setCells_step g zs (i * 5) w hown) (.inl hown) (.inr (by omega)) c1
    (by rw [List.length_take]; omega) r4 (by rw [c2, r5]) (fun row hrow => q2 row (List.mem_of_mem_take hrow)) (fun k row j p u a1 a2 a3 => by
      rw [List.getElem?_take] at a1
      split at a1
      · rename_i hk
        have hj : j < 5 := by rw [← q2 row (List.mem_of_getElem? a1)]; exact (List.getElem?_eq_some_iff.1 a2).1
        rw [c3, if_neg (by omega)] at a3
        obtain ⟨y, y1, y2, y3⟩ := r6 k row j p a1 a2
        rw [y1] at a3; cases a3
        exact ⟨y2, y3⟩
      · cases a1)
  rw [List.length_take, Nat.min_eq_left (by omega)] at k3
  have g0 : ∀ (b : Act), b.tmps.size = 42 → ∀ (d : Nat) (u : Value) (t : Nat), d < 42 → (b.put (some d) u).tmps.getD t Go.undef = if t = d then u else b.tmps.getD t Go.undef := by
    intro b hb d u t hd
    simp only [Act.put]
    by_cases e : t = d
    · subst e; simp [Array.getD, hb, hd]
    · rw [if_neg e]
      by_cases ht : t < b.tmps.size
      · simp [Array.getD, ht, Array.getElem_setIfInBounds_ne, Ne.symm e]
      · simp [Array.getD, ht]
  have gs : ∀ (b : Act), b.tmps.size = 42 → ∀ d u, (b.put d u).tmps.size = 42 := by
    intro b hb d u
    cases d <;> simp [Act.put, hb]
  have hu0 : a.tmps.getD 0 Go.undef = .slice (some ⟨g, 0, none⟩) rows.length cap := r1
  obtain ⟨a1, ha1⟩ : ∃ a1, a.put (some 36) (.slice (some ⟨g, 0, none⟩) rows.length cap) = a1 := ⟨_, rfl⟩
  have s1 : a1.tmps.size = 42 := by rw [← ha1]; exact gs _ hsz _ _
  have t1 : ∀ t, a1.tmps.getD t Go.undef = if t = 36 then .slice (some ⟨g, 0, none⟩) rows.length cap else a.tmps.getD t Go.undef := fun t => by rw [← ha1]; exact g0 _ hsz _ _ _ (by omega)
  obtain ⟨a2, ha2⟩ : ∃ a2, a1.put (some 37) (.int .i64 i) = a2 := ⟨_, rfl⟩
  have s2 : a2.tmps.size = 42 := by rw [← ha2]; exact gs _ s1 _ _
  have t2 : ∀ t, a2.tmps.getD t Go.undef = if t = 37 then .int .i64 i else a1.tmps.getD t Go.undef := fun t => by rw [← ha2]; exact g0 _ s1 _ _ _ (by omega)
  obtain ⟨a3, ha3⟩ : ∃ a3, a2.put (some 38) (.slice (some ⟨g, i * 5, none⟩) (rows.length - i) (cap - i)) = a3 := ⟨_, rfl⟩
  have s3 : a3.tmps.size = 42 := by rw [← ha3]; exact gs _ s2 _ _
  have t3 : ∀ t, a3.tmps.getD t Go.undef = if t = 38 then .slice (some ⟨g, i * 5, none⟩) (rows.length - i) (cap - i) else a2.tmps.getD t Go.undef := fun t => by rw [← ha3]; exact g0 _ s2 _ _ _ (by omega)
  refine wp_region_list ?_
  refine wl_value (w' := w) (v := .slice (some ⟨g, 0, none⟩) rows.length cap) rfl (by simp only [execOp, Act.eval, hu0, Sem.run_pure]) ?_
  rw [ha1]
  refine wl_value (w' := w) (v := .int .i64 i) rfl (by simp only [execOp, Act.eval, t1, e5, Sem.run_pure, Nat.reduceEqDiff, if_false]) ?_
  rw [ha2]
  refine wl_value (w' := w) (v := .slice (some ⟨g, i * 5, none⟩) (rows.length - i) (cap - i)) rfl ?_ ?_
  · have e1 : a2.eval (.tmp 36) = .slice (some ⟨g, 0, none⟩) rows.length cap := by simp only [Act.eval, t2, t1, Nat.reduceEqDiff, if_false, if_true]
    have e2 : a2.eval (.tmp 37) = .int .i64 i := by simp only [Act.eval, t2, if_true]
    have hb : (Instr.sliceBounds true rows.length cap (some (.int .i64 (i : Int))) none none).run Tryz.prog w = .ok (i, rows.length, cap) w := by
      simp [Instr.sliceBounds, Instr.sliceBound, asIntOf]
      omega
    simp only [execOp, Option.map_some, Option.map_none, e1, e2, Instr.sliceAt, Instr.slice, Sem.run_bind, run_underlying und_ops, Result.andThen_ok, hb, sizeOf_run (show sizeP Tryz.prog 131 = some 5 by kernel_rfl), Sem.run_pure]
    rw [if_neg (by omega)]
    simp [Addr.add]
    try omega
  rw [ha3]
  refine wl_value (w' := w.setCells g (i * 5) zs) (v := .tuple #[]) rfl ?_ ?_
  · have e1 : a3.eval (.tmp 38) = .slice (some ⟨g, i * 5, none⟩) (rows.length - i) (cap - i) := by simp only [Act.eval, t3, if_true]
    simp only [execOp, resolve, Sem.run_bind, Sem.run_pure, Result.andThen_ok, invoke, builtin, List.map_toArray, List.map_cons, List.map_nil, e1, hcl]
  obtain ⟨w1, hw1⟩ : ∃ w1, w.setCells g (i * 5) zs = w1 := ⟨_, rfl⟩
  rw [hw1] at k1 k2 k3 ⊢
  have ha4 : a3.put none (.tuple #[]) = a3 := rfl
  rw [ha4]
  have u0 : a3.tmps.getD 0 Go.undef = .slice (some ⟨g, 0, none⟩) rows.length cap := by rw [t3, if_neg (by omega), t2, if_neg (by omega), t1, if_neg (by omega)]; exact hu0
  have u5 : a3.tmps.getD 5 Go.undef = .int .i64 i := by rw [t3, if_neg (by omega), t2, if_neg (by omega), t1, if_neg (by omega)]; exact e5
  obtain ⟨b1, hb1⟩ : ∃ b1, a3.put (some 39) (.slice (some ⟨g, 0, none⟩) rows.length cap) = b1 := ⟨_, rfl⟩
  have s4 : b1.tmps.size = 42 := by rw [← hb1]; exact gs _ s3 _ _
  have t4 : ∀ t, b1.tmps.getD t Go.undef = if t = 39 then .slice (some ⟨g, 0, none⟩) rows.length cap else a3.tmps.getD t Go.undef := fun t => by rw [← hb1]; exact g0 _ s3 _ _ _ (by omega)
  obtain ⟨b2, hb2⟩ : ∃ b2, b1.put (some 40) (.int .i64 i) = b2 := ⟨_, rfl⟩
  have s5 : b2.tmps.size = 42 := by rw [← hb2]; exact gs _ s4 _ _
  have t5 : ∀ t, b2.tmps.getD t Go.undef = if t = 40 then .int .i64 i else b1.tmps.getD t Go.undef := fun t => by rw [← hb2]; exact g0 _ s4 _ _ _ (by omega)
  obtain ⟨b3, hb3⟩ : ∃ b3, b2.put (some 41) (.slice (some ⟨g, 0, none⟩) i cap) = b3 := ⟨_, rfl⟩
  have s6 : b3.tmps.size = 42 := by rw [← hb3]; exact gs _ s5 _ _
  have t6 : ∀ t, b3.tmps.getD t Go.undef = if t = 41 then .slice (some ⟨g, 0, none⟩) i cap else b2.tmps.getD t Go.undef := fun t => by rw [← hb3]; exact g0 _ s5 _ _ _ (by omega)
  show Code.wp Tryz.prog _ _ a3 w1
  refine wp_region_list ?_
  refine wl_value (w' := w1) (v := .slice (some ⟨g, 0, none⟩) rows.length cap) rfl (by simp only [execOp, Act.eval, u0, Sem.run_pure]) ?_
  rw [hb1]
  refine wl_value (w' := w1) (v := .int .i64 i) rfl (by simp only [execOp, Act.eval, t4, u5, Sem.run_pure, Nat.reduceEqDiff, if_false]) ?_
  rw [hb2]
  refine wl_value (w' := w1) (v := .slice (some ⟨g, 0, none⟩) i cap) rfl ?_ ?_
  · have e1 : b2.eval (.tmp 39) = .slice (some ⟨g, 0, none⟩) rows.length cap := by simp only [Act.eval, t5, t4, Nat.reduceEqDiff, if_false, if_true]
    have e2 : b2.eval (.tmp 40) = .int .i64 i := by simp only [Act.eval, t5, if_true]
    have hb : (Instr.sliceBounds true rows.length cap none (some (.int .i64 (i : Int))) none).run Tryz.prog w1 = .ok (0, i, cap) w1 := by
      simp [Instr.sliceBounds, Instr.sliceBound, asIntOf]
      omega
    simp only [execOp, Option.map_some, Option.map_none, e1, e2, Instr.sliceAt, Instr.slice, Sem.run_bind, run_underlying und_ops, Result.andThen_ok, hb, sizeOf_run (show sizeP Tryz.prog 131 = some 5 by kernel_rfl), Sem.run_pure]
    rw [if_neg (by omega)]
    simp [Addr.add]
  rw [hb3]
  refine wl_value (w' := w1) (v := .slice (some ⟨g, 0, none⟩) i cap) rfl (by simp only [execOp, Act.eval, t6, Sem.run_pure, if_true]) ?_
  show Code.wp Tryz.prog .ret _ _ w1
  refine wp_ret ?_
  refine ⟨⟨fun t => if t = 4 then .arr 0 (v + 1) else .top, [.arr (v + 1) true false 131 5 (rows.take i)]⟩, hQ _ rfl rfl, ⟨C', k1, fun t => ?_⟩, ?_, gs _ s6 _ _⟩
  · rw [g0 _ s6 _ _ _ (by omega)]
    by_cases e : t = 4
    · rw [if_pos e]; simp only [e, if_true]; exact k3
    · rw [if_neg e]; simp only [e, if_false]; exact .any
  · have pd : ∀ (b : Act) (d : Option Nat) (u : Value), (b.put d u).defers = b.defers := fun b d u => by cases d <;> rfl
    rw [pd, ← hb3, pd, ← hb2, pd, ← hb1, pd, ← ha3, pd, ← ha2, pd, ← ha1, pd]
    exact hdf
theorem idxF_at {α : Type} [Inhabited α] (p : α → Bool) : ∀ (l : List α) (k : Nat), l.any p = true → ∃ j, j < l.length ∧ idxF p l k = ((k + j : Nat) : Int) ∧ p (nth l j) = true ∧ ∀ q, q ∈ l.take j → p q = false
  | [], k, h => by simp at h
  | y :: l, k, h => by
    cases hy : p y
    · have h' : l.any p = true := by simpa [hy] using h
      obtain ⟨j, h1, h2, h3, h4⟩ := idxF_at p l (k + 1) h'
      refine ⟨j + 1, by simp; omega, by rw [idxF, if_neg (by simp [hy]), h2]; congr 1; omega, h3, fun q hq => ?_⟩
      rw [List.take_succ_cons] at hq
      rcases List.mem_cons.1 hq with rfl | hq
      · exact hy
      · exact h4 q hq
    · exact ⟨0, by simp, by rw [idxF, if_pos hy]; simp, hy, fun q hq => by simp at hq⟩
set_option maxRecDepth 10000 in
set_option maxHeartbeats 4000000 in
theorem delF_meets (l : List FOp) (g : Nat) (caps : List PV) (p : FOp → Bool) (v : Nat) (hg : hasBody Tryz.prog g = true) (hl : l.length ≤ 1000000) (hc : ClosedH [] caps)
    (hcl : ∀ nl f fz, caps.map (renLeaf nl f fz) = caps ∧ caps.map (ren nl f fz) = caps ∧ caps.map (renCell nl f fz) = caps) (hp : ∀ o ∈ l, Meets Tryz.prog g (.agg (cOp o) :: caps) [] (.bool (p o)) []) :
    ∃ v', Meets Tryz.prog 86 [.arr 0 v, .clo g caps] [.arr v true false 131 5 (l.map cOp)] (.arr 0 v') [.arr v' true false 131 5 ((l.filter fun o => !p o).map cOp)] := by
  have hix := indexOp_meets l g caps [] p hg (by omega) hc hp
  cases ha : l.any p
  · have hm1 : idxF p l 0 = -1 := by
      rcases idxF_ge p l 0 with ⟨h1, -⟩ | ⟨-, h2⟩
      · exact h1
      · rw [h2] at ha; cases ha
    have hf : (l.filter fun o => !p o) = l := List.filter_eq_self.2 fun o ho => by
      have := List.any_eq_false.1 ha o ho
      simpa using this
    rw [hf]
    rw [hm1] at hix
    refine ⟨v, ?_⟩
    refine Meets.of_tail Tryz.func86 Tryz.ntmps86 body86 (List.take_append_drop _ _).symm lowl86 res86 (by simp) (fun _ _ => False) (fun x hx => ?_) (fun _ _ _ h => h.elim)
    refine WL_walk ?_
    simp only [go_sem, Nat.reduceLT, Nat.reduceAdd, Nat.reduceEqDiff, Nat.reduceLeDiff, Nat.reduceSub, Nat.reduceMul, Int.reduceEq, eq_self, reduceIte, LL86]
    refine ops_call (.scalarE hix rfl (by simp [go_sem, Nat.reduceLT, Nat.reduceAdd, Nat.reduceEqDiff, Nat.reduceLeDiff, Nat.reduceSub, Nat.reduceMul, Int.reduceEq, eq_self, reduceIte, frzAt, pos, hcl])) ?_
    simp only [go_sem, Nat.reduceLT, Nat.reduceAdd, Nat.reduceEqDiff, Nat.reduceLeDiff, Nat.reduceSub, Nat.reduceMul, Int.reduceEq, eq_self, reduceIte]
    refine ret_keep [] (by simp) (by simp) (by simp [hx]) ?_ ?_
    · simp [go_sem, Nat.reduceLT, Nat.reduceAdd, Nat.reduceEqDiff, Nat.reduceLeDiff, Nat.reduceSub, Nat.reduceMul, Int.reduceEq, eq_self, reduceIte, R86, hx, pos]
    · simp [subHeap, renObj, hx, pos, go_sem, Nat.reduceLT, Nat.reduceAdd, Nat.reduceEqDiff, Nat.reduceLeDiff, Nat.reduceSub, Nat.reduceMul, Int.reduceEq, eq_self, reduceIte, List.range_succ]
  · obtain ⟨k0, d1, d2, d3, d4⟩ := idxF_at p l 0 ha
    rw [Nat.zero_add] at d2
    rw [d2] at hix
    refine ⟨v + 1, ?_⟩
    refine Meets.of_tail Tryz.func86 Tryz.ntmps86 body86 (List.take_append_drop _ _).symm lowl86 res86 (by simp) (fun _ st => ∃ (r : List FOp) (i : Nat), i < r.length ∧ st.env 0 = .arr 0 v ∧ st.env 5 = .int .i64 i ∧ st.heap = [.arr v true false 131 5 (r.map cOp)] ∧ r.take i = l.filter fun o => !p o) (fun x hx => ?_) (fun x hx st ⟨r, i, q1, q2, q3, q4, q5⟩ => ?_)
    · refine WL_walk ?_
      have hk0 : ((k0 : Int) = -1) = False := eq_false (by omega)
      have wk0 := i64_up (k := k0) (by omega)
      simp only [go_sem, Nat.reduceLT, Nat.reduceAdd, Nat.reduceEqDiff, Nat.reduceLeDiff, Nat.reduceSub, Nat.reduceMul, Int.reduceEq, eq_self, reduceIte, LL86]
      refine ops_call (.scalarE hix rfl (by simp [go_sem, Nat.reduceLT, Nat.reduceAdd, Nat.reduceEqDiff, Nat.reduceLeDiff, Nat.reduceSub, Nat.reduceMul, Int.reduceEq, eq_self, reduceIte, frzAt, pos, hcl])) ?_
      simp only [go_sem, Nat.reduceLT, Nat.reduceAdd, Nat.reduceEqDiff, Nat.reduceLeDiff, Nat.reduceSub, Nat.reduceMul, Int.reduceEq, eq_self, reduceIte, hk0, wk0]
      refine loop_inv [0, 1, 5, 6] 1 (fun n st => ∃ (r : List FOp) (i j : Nat), j + n = l.length ∧ i < j ∧ r.length = l.length ∧ r.take i = (l.take j).filter (fun o => !p o) ∧ r.drop j = l.drop j ∧
        st = ⟨mkE .top [(0, .arr 0 v), (1, .clo g caps), (5, .int .i64 i), (6, .int .i64 j)], [.arr v true false 131 5 (r.map cOp)]⟩) (l.length - (k0 + 1)) (by simp [hx]) (by simp) ?_ ?_
      · refine ⟨l, k0, k0 + 1, by omega, by omega, rfl, ?_, rfl, ?_⟩
        · rw [filter_take _ d1, if_neg (by simp [d3]), List.append_nil]
          exact (List.filter_eq_self.2 fun q hq => by simp [d4 q hq]).symm
        · simp [trim_mk, go_sem, Nat.reduceLT, Nat.reduceAdd, Nat.reduceEqDiff, Nat.reduceLeDiff, Nat.reduceSub, Nat.reduceMul, Int.reduceEq, eq_self, reduceIte, subHeap, renObj, renCell, renLeaf, pos, List.range_succ, hcl]
      · rintro n st ⟨r, i, j, hj, hij, hrl, hrt, hrd, rfl⟩
        by_cases hlt : j < l.length
        · have hgj : r[j]? = some (nth l j) := by
            have : (r.drop j)[0]? = (l.drop j)[0]? := by rw [hrd]
            rw [List.getElem?_drop, List.getElem?_drop, Nat.add_zero] at this
            rw [this]; exact nth_get? _ _ hlt
          have hgi : r[i]? = some (nth r i) := nth_get? _ _ (by omega)
          have hjr : j < r.length := by omega
          have hir : i < r.length := by omega
          have wj := i64_up (k := j) (by omega)
          have wi := i64_up (k := i) (by omega)
          have hpe := hp (nth l j) (List.mem_of_getElem? (nth_get? _ _ hlt))
          have hft := filter_take (fun o => !p o) hlt
          have hdd : r.drop (j + 1) = l.drop (j + 1) := by rw [← List.drop_drop, hrd, List.drop_drop]
          simp only [go_sem, Nat.reduceLT, Nat.reduceAdd, Nat.reduceEqDiff, Nat.reduceLeDiff, Nat.reduceSub, Nat.reduceMul, Int.reduceEq, eq_self, reduceIte, List.length_map, hjr, hgj, cOp, List.getElem?_map, Option.map_some]
          refine ops_callv rfl hg (.scalarE hpe rfl (by simp [go_sem, Nat.reduceLT, Nat.reduceAdd, Nat.reduceEqDiff, Nat.reduceLeDiff, Nat.reduceSub, Nat.reduceMul, Int.reduceEq, eq_self, reduceIte, frzAt, pos, hcl, cOp])) ?_
          cases hpk : p (nth l j)
          · simp only [go_sem, Nat.reduceLT, Nat.reduceAdd, Nat.reduceEqDiff, Nat.reduceLeDiff, Nat.reduceSub, Nat.reduceMul, Int.reduceEq, eq_self, reduceIte, Int.ofNat_zero, Int.natCast_one, Int.cast_ofNat_Int, Int.reduceLT, Int.reduceLE, Int.reduceToNat, Nat.reduceLT, Int.toNat_zero, Int.natCast_zero, Int.le_refl, Int.lt_irrefl, Int.reduceAdd, frz, false_or, or_true, frz, PV.isPure, List.length_map, hjr, hir, hgi, cOp, List.getElem?_map, Option.map_some, wj, wi]
            refine ⟨by simp, n - 1, by omega, r.set i (nth l j), i + 1, j + 1, by omega, by omega, by simp [hrl], ?_, ?_, ?_⟩
            · rw [hft, if_pos (by simp [hpk]), ← hrt, List.take_add_one, List.take_set_of_le (Nat.le_refl _), List.getElem?_set_self hir]
              rfl
            · rw [List.drop_set_of_lt (by omega), hdd]
            · simp [trim_mk, go_sem, Nat.reduceLT, Nat.reduceAdd, Nat.reduceEqDiff, Nat.reduceLeDiff, Nat.reduceSub, Nat.reduceMul, Int.reduceEq, eq_self, reduceIte, subHeap, renObj, renCell, renLeaf, pos, List.range_succ, hcl, List.map_set, cOp]
          · simp only [go_sem, Nat.reduceLT, Nat.reduceAdd, Nat.reduceEqDiff, Nat.reduceLeDiff, Nat.reduceSub, Nat.reduceMul, Int.reduceEq, eq_self, reduceIte, wj]
            refine ⟨by simp, n - 1, by omega, r, i, j + 1, by omega, by omega, hrl, ?_, hdd, ?_⟩
            · rw [hft, if_neg (by simp [hpk]), List.append_nil, hrt]
            · simp [trim_mk, go_sem, Nat.reduceLT, Nat.reduceAdd, Nat.reduceEqDiff, Nat.reduceLeDiff, Nat.reduceSub, Nat.reduceMul, Int.reduceEq, eq_self, reduceIte, subHeap, renObj, renCell, renLeaf, pos, List.range_succ, hcl]
        · have hjr : ¬ j < r.length := by omega
          simp only [go_sem, Nat.reduceLT, Nat.reduceAdd, Nat.reduceEqDiff, Nat.reduceLeDiff, Nat.reduceSub, Nat.reduceMul, Int.reduceEq, eq_self, reduceIte, List.length_map, hjr]
          refine ⟨r, i, by omega, rfl, rfl, rfl, ?_⟩
          rw [hrt, List.take_of_length_le (by omega)]
    · rw [← q5]
      refine del_tail (rows := r.map cOp) (i := i) q2 q3 q4 (by simpa using q1) (fun st' g1 g2 => ?_)
      refine ret_keep [] (by simp) (by simp) (by simp [hx, g2]) ?_ ?_
      · simp [go_sem, Nat.reduceLT, Nat.reduceAdd, Nat.reduceEqDiff, Nat.reduceLeDiff, Nat.reduceSub, Nat.reduceMul, Int.reduceEq, eq_self, reduceIte, R86, hx, pos, g1]
      · simp [subHeap, renObj, hx, pos, go_sem, Nat.reduceLT, Nat.reduceAdd, Nat.reduceEqDiff, Nat.reduceLeDiff, Nat.reduceSub, Nat.reduceMul, Int.reduceEq, eq_self, reduceIte, List.range_succ, g2, List.map_take]
end Go.Proofs.YtfdolehffjmdmaaGreatDoor
/- slices.SortFunc at what entries do, by key and value. -/
namespace Go.Proofs.YtfdolehffjmdmaaGreatDoor
open Go.RowKit Go.Shelf
/-! texts in order -/
theorem cb_refl : ∀ l : List UInt8, Lib.compareBytes l l = 0
  | [] => rfl
  | a :: l => by
    have h : ¬ a < a := by rw [UInt8.lt_iff_toNat_lt]; omega
    rw [Lib.compareBytes, if_neg h, if_neg h]
    exact cb_refl l
theorem cb_zero : ∀ {a b : List UInt8}, Lib.compareBytes a b = 0 → a = b
  | [], [], _ => rfl
  | [], _ :: _, h => by simp [Lib.compareBytes] at h
  | _ :: _, [], h => by simp [Lib.compareBytes] at h
  | x :: a, y :: b, h => by
    rw [Lib.compareBytes] at h
    split at h
    · simp at h
    · split at h
      · simp at h
      · rename_i h1 h2
        rw [UInt8.lt_iff_toNat_lt] at h1 h2
        rw [cb_zero h, UInt8.toNat.inj (show x.toNat = y.toNat by omega)]
theorem cb_swap : ∀ (a b : List UInt8), Lib.compareBytes b a = - Lib.compareBytes a b
  | [], [] => rfl
  | [], _ :: _ => rfl
  | _ :: _, [] => rfl
  | x :: a, y :: b => by
    rw [Lib.compareBytes, Lib.compareBytes]
    by_cases h1 : x < y
    · have h2 : ¬ y < x := by rw [UInt8.lt_iff_toNat_lt] at h1 ⊢; omega
      rw [if_neg h2, if_pos h1, if_pos h1]; rfl
    · by_cases h2 : y < x
      · rw [if_pos h2, if_neg h1, if_pos h2]
      · rw [if_neg h2, if_neg h1, if_neg h1, if_neg h2]
        exact cb_swap a b
theorem cb_trans : ∀ {a b c : List UInt8}, Lib.compareBytes a b < 0 → Lib.compareBytes b c < 0 → Lib.compareBytes a c < 0
  | [], [], _, h, _ => by simp [Lib.compareBytes] at h
  | [], _ :: _, [], _, h => by simp [Lib.compareBytes] at h
  | [], _ :: _, _ :: _, _, _ => by simp [Lib.compareBytes]
  | _ :: _, [], _, h, _ => by simp [Lib.compareBytes] at h
  | _ :: _, _ :: _, [], _, h => by simp [Lib.compareBytes] at h
  | x :: a, y :: b, z :: c, h, g => by
    rw [Lib.compareBytes] at h g ⊢
    by_cases h1 : x < y
    · by_cases g1 : y < z
      · have : x < z := by rw [UInt8.lt_iff_toNat_lt] at h1 g1 ⊢; omega
        rw [if_pos this]; decide
      · rw [if_neg g1] at g
        by_cases g2 : z < y
        · rw [if_pos g2] at g; simp at g
        · have : x < z := by rw [UInt8.lt_iff_toNat_lt] at h1 g1 g2 ⊢; omega
          rw [if_pos this]; decide
    · rw [if_neg h1] at h
      by_cases h2 : y < x
      · rw [if_pos h2] at h; simp at h
      · rw [if_neg h2] at h
        have e : x = y := by
          rw [UInt8.lt_iff_toNat_lt] at h1 h2
          exact UInt8.toNat.inj (by omega)
        subst e
        by_cases g1 : x < z
        · rw [if_pos g1]; decide
        · rw [if_neg g1] at g ⊢
          by_cases g2 : z < x
          · rw [if_pos g2] at g; simp at g
          · rw [if_neg g2] at g ⊢
            exact cb_trans h g
def cmpB (a b : ByteArray) : Int := Lib.compareBytes a.data.toList b.data.toList
theorem cmpB_refl (a : ByteArray) : cmpB a a = 0 := cb_refl _
theorem cmpB_zero {a b : ByteArray} (h : cmpB a b = 0) : a = b := by
  apply ByteArray.ext
  exact Array.toList_inj.1 (cb_zero h)
theorem cmpB_swap (a b : ByteArray) : cmpB b a = - cmpB a b := cb_swap _ _
theorem cmpB_trans {a b c : ByteArray} (h : cmpB a b < 0) (g : cmpB b c < 0) : cmpB a c < 0 := cb_trans h g
def cmpP (x y : ByteArray × ByteArray) : Int := if cmpB x.1 y.1 = 0 then cmpB x.2 y.2 else cmpB x.1 y.1
theorem cmpP_zero {x y : ByteArray × ByteArray} (h : cmpP x y = 0) : x = y := by
  unfold cmpP at h
  split at h
  · rename_i h1; exact Prod.ext (cmpB_zero h1) (cmpB_zero h)
  · contradiction
theorem cmpP_swap (x y : ByteArray × ByteArray) : cmpP y x = - cmpP x y := by
  unfold cmpP
  have h1 := cmpB_swap x.1 y.1
  have h2 := cmpB_swap x.2 y.2
  split <;> split <;> omega
theorem cmpP_trans {x y z : ByteArray × ByteArray} (h : cmpP x y < 0) (g : cmpP y z < 0) : cmpP x z < 0 := by
  unfold cmpP at h g ⊢
  by_cases h1 : cmpB x.1 y.1 = 0
  · rw [if_pos h1] at h
    have e1 := cmpB_zero h1
    by_cases g1 : cmpB y.1 z.1 = 0
    · rw [if_pos g1] at g
      rw [e1, if_pos g1]
      exact cmpB_trans h g
    · rw [if_neg g1] at g
      rw [e1, if_neg g1]; exact g
  · rw [if_neg h1] at h
    by_cases g1 : cmpB y.1 z.1 = 0
    · have e1 := cmpB_zero g1
      rw [← e1, if_neg h1]; exact h
    · rw [if_neg g1] at g
      have := cmpB_trans h g
      rw [if_neg (by omega)]; exact this
def FOp.kv (o : FOp) : ByteArray × ByteArray := (o.k, o.v)
def cmpOp (x y : FOp) : Int := cmpP x.kv y.kv
theorem swoOp : Go.Sort.SWO (ltOf cmpOp) where
  irrefl := fun x => by
    have : cmpP x.kv x.kv = 0 := by have := cmpP_swap x.kv x.kv; omega
    simp [ltOf, cmpOp, this]
  trans := fun x y z h1 h2 => by
    unfold ltOf cmpOp at *
    exact decide_eq_true (cmpP_trans (of_decide_eq_true h1) (of_decide_eq_true h2))
  ntrans := fun x y z h1 h2 => by
    unfold ltOf cmpOp at *
    have h1 := of_decide_eq_false h1
    have h2 := of_decide_eq_false h2
    apply decide_eq_false
    have a := cmpP_swap x.kv y.kv
    have b := cmpP_swap y.kv z.kv
    have c := cmpP_swap x.kv z.kv
    intro h
    by_cases e1 : cmpP x.kv y.kv = 0
    · rw [cmpP_zero e1] at h; omega
    · by_cases e2 : cmpP y.kv z.kv = 0
      · rw [← cmpP_zero e2] at h; omega
      · have := cmpP_trans (x := z.kv) (y := y.kv) (z := x.kv) (by omega) (by omega)
        omega
def eOp (o : FOp) : List Value := [.int .i64 o.id.r, .int .i64 o.id.n, .string o.k, .string o.v, .bool o.p]
theorem flat_op : Flat cOp eOp 5 where
  k0 := by omega
  len := fun _ => rfl
  lenp := fun _ => rfl
  one := fun o v hv => by
    simp [eOp] at hv
    rcases hv with rfl | rfl | rfl | rfl | rfl <;> rfl
  fit := fun S w a j p h => by
    rcases j with _ | _ | _ | _ | _ | j
    · cases h; exact .int _ _
    · cases h; exact .int _ _
    · cases h; exact .str _
    · cases h; exact .str _
    · cases h; exact .bool _
    · simp [cOp] at h
  back := fun S w a j p u h hr => by
    rcases j with _ | _ | _ | _ | _ | j
    · cases h; cases hr; rfl
    · cases h; cases hr; rfl
    · cases h; cases hr; rfl
    · cases h; cases hr; rfl
    · cases h; cases hr; rfl
    · simp [cOp] at h
noncomputable def sortF (l : List FOp) : List FOp := (Go.Sort.pdq (ltOf cmpOp) l.toArray 0 l.toArray.size (Lib.bitLen l.toArray.size) true true).toList
theorem sortF_spec (l : List FOp) : (sortF l).Perm l ∧ (sortF l).Pairwise fun x y => ¬ cmpOp y x < 0 := by
  obtain ⟨h1, h2⟩ := Go.Sort.pdq_sorts (ltOf cmpOp) swoOp l.toArray 0 l.toArray.size (Lib.bitLen l.toArray.size) true true (Nat.zero_le _) (Nat.le_refl _) (Or.inl rfl)
  obtain ⟨a1, -, a3⟩ := h1
  have e1 : ∀ d : Array FOp, d.size = l.toArray.size → d.extract 0 l.toArray.size = d := fun d hd => by rw [← hd]; exact Array.extract_size
  rw [e1 _ a1, e1 _ rfl] at a3
  refine ⟨by simpa [sortF] using a3, ?_⟩
  rw [List.pairwise_iff_getElem]
  intro i j hi hj hij
  have hi' : i < (Go.Sort.pdq (ltOf cmpOp) l.toArray 0 l.toArray.size (Lib.bitLen l.toArray.size) true true).size := by simpa [sortF] using hi
  have hj' : j < (Go.Sort.pdq (ltOf cmpOp) l.toArray 0 l.toArray.size (Lib.bitLen l.toArray.size) true true).size := by simpa [sortF] using hj
  have := h2 i j (Nat.zero_le _) hij (by rw [← a1]; exact hj')
  rw [getElem!_pos _ i hi', getElem!_pos _ j hj'] at this
  simpa [ltOf, sortF] using this
theorem compare_calls (a b : ByteArray) (w : World) : Calls Tryz.prog 94 #[.string a, .string b] w fun e w' => e = .returned (.int .i64 (cmpB a b)) ∧ w' = w := Any.strings_Compare cmpL a b w
theorem cmpOp_calls (a b : FOp) (w : World) : Calls Tryz.prog 93 #[.agg (eOp a).toArray, .agg (eOp b).toArray] w fun e w' => e = .returned (.int .i64 (cmpOp a b)) ∧ ∃ q os', w' = Go.Sort.grow (w.drewN q) os' := by
  unfold eOp
  go_enter Tryz.func93, Tryz.ntmps93
  go_wp2_with (go_at_call 94; refine (compare_calls _ _ _).mono ?_; rintro e w' ⟨rfl, rfl⟩)
  · go_ret
    have h : (cmpB a.k b.k != 0) = true := by assumption
    exact ⟨ret_int (by exact (if_neg (show ¬ cmpB a.k b.k = 0 by simpa using h)).symm), 0, _, by rw [Go.Sort.alloc_eq_grow, Go.Sort.alloc_eq_grow, Go.Sort.grow_grow]; rfl⟩
  · go_ret
    have h : (cmpB a.k b.k != 0) = false := by assumption
    exact ⟨ret_int (by exact (if_pos (show cmpB a.k b.k = 0 by simpa using h)).symm), 0, _, by rw [Go.Sort.alloc_eq_grow, Go.Sort.alloc_eq_grow, Go.Sort.grow_grow]; rfl⟩
theorem cmpLaysOp (blk off size : Nat) (w : World) : CmpLays Tryz.prog 93 #[] eOp 5 cmpOp blk off size w := fun _ _ _ _ a b => cmpOp_calls a b _
theorem sortOps_meets (l : List FOp) (v T : Nat) (hl : l.length < 4611686018427387904) :
    Meets Tryz.prog 92 [.arr 0 v, .clo 93 []] [.arr v true false T 5 (l.map cOp)] (.tup []) [.arr v true false T 5 ((sortF l).map cOp)] := by
  intro x vs hx h0 hp
  obtain ⟨a, b, rfl, h1, h2⟩ := two_args hp.1
  have ha := hp.2 0 _ _ rfl h1
  have hb := hp.2 1 _ _ rfl h2
  obtain ⟨ws, rfl, hw, -⟩ := hb.clo_inv
  obtain rfl : ws = [] := List.length_eq_zero_iff.1 hw
  obtain ⟨e1, e2, e3⟩ := h0.row (id := 0) rfl ha
  have hsl : (sortF l).length = l.length := (sortF_spec l).1.length_eq
  rcases e3 with ⟨rfl, hnil⟩ | ⟨g, cap, cur, rfl, hc, hcap, hm, hz, hrow⟩
  · have : l = [] := by simpa using hnil
    subst this
    have hs0 : sortF [] = [] := List.length_eq_zero_iff.1 hsl
    refine (AnyF.slices_SortFunc_none sortOpL none 0 (.func (.func 93) #[] #[]) x.w0).mono ?_
    rintro e w' ⟨rfl, rfl⟩
    exact ⟨_, x.C0, rfl, by simpa [hs0] using h0, .tup [] [] rfl (fun j p u h => by simp at h)⟩
  · have eg : ∀ args w, (callFunc 93 args).run Tryz.prog w = .ok (.enter 93 args) w := enters_of Tryz.func93 (by kernel_rfl) rfl
    have hH := flat_op.holds l hc hrow
    have hlt : g < x.w0.heap.size := (Array.getElem?_eq_some_iff.1 hc).1
    have key := AnyQ.slices_SortFunc_eq sortOpL 5 (fun _ => by kernel_rfl) (fun _ => by kernel_rfl) eOp flat_op.len flat_op.one cmpOp swoOp 93 #[] g 0 cap l.toArray x.w0 eg (cmpLaysOp g 0 _ x.w0) hH hlt (by simpa using hl)
    rw [List.length_map] at *
    refine key.mono ?_
    rintro e w' ⟨rfl, n, os, rfl⟩
    have hd : Go.Sort.pdq (ltOf cmpOp) l.toArray 0 l.toArray.size (Lib.bitLen l.toArray.size) true true = (sortF l).toArray := by simp [sortF]
    rw [hd]
    obtain ⟨cur', c1, c2, c3, c4⟩ := row_world eOp 5 x.w0 g n (sortF l).toArray os hc
    have hown : (x.C0.sv 0).ownBlock = some g := by rw [← e1]; rfl
    obtain ⟨C', k1, k2, k3⟩ := h0.rerow (id := 0) (v' := v) (g' := g) (cap' := cap) (rows' := (sortF l).map cOp) (cur' := cur') rfl (by
      refine ⟨c4.size, c4.os, c4.tape, c4.output, fun b hb hne => c4.blk b hb fun e => hne (by rw [hown, e])⟩) (.inl hown) (.inl ⟨rfl, by rw [← e1, List.length_map, hsl]⟩) c1 (by rw [List.length_map, hsl]; exact hcap) hm (by rw [c2, hz])
      (fun row hr => by obtain ⟨y, -, rfl⟩ := List.mem_map.1 hr; rfl) (flat_op.rep c3 (l := sortF l) (sortF l).length (fun i hi => by
        rw [List.getElem?_eq_getElem hi]
        simp [hi]) rfl (by simp))
    exact ⟨_, C', rfl, k1, .tup [] [] rfl (fun j p u h => by simp at h)⟩
end Go.Proofs.YtfdolehffjmdmaaGreatDoor
/- A loop whose objects change places: what stays is chosen anew in each round. -/
namespace Go.Proofs.YtfdolehffjmdmaaGreatDoor
open Go.RowKit
section
variable {P : Program} {x : Cx} {nt : Nat} {st : St}
def St.sel (st : St) (live ks : List Nat) : St :=
  ⟨fun t => if t ∈ live then renT false (pos ks) (frzAt true st.heap) (st.env t) else .top, subHeap (pos ks) (frzAt true st.heap) st.heap ks⟩
theorem weak_sel (live ks : List Nat) (hnd : ks.Nodup) (hlt : ∀ k ∈ ks, k < st.heap.length) (hpre : ∀ i, i < x.H0.length → ks[i]? = some i) : Weak x nt st (st.sel live ks) := by
  intro a w ⟨⟨C, hr, he⟩, hdf, hsz⟩
  obtain ⟨k1, k2⟩ := hr.restrict hnd hlt hpre
  refine ⟨⟨_, k1, fun t => ?_⟩, hdf, hsz⟩
  simp only [St.sel]
  split
  · exact renT_rep k2 (he t)
  · exact .any
theorem sel_mk (d : PV) (l : List (Nat × PV)) (H : List AObj) (live ks : List Nat) : (St.mk (mkE d l) H).sel live ks = ⟨mkE .top (live.map fun t => (t, renT false (pos ks) (frzAt true H) (mkE d l t))), subHeap (pos ks) (frzAt true H) H ks⟩ := by
  simp only [St.sel, St.mk.injEq, and_true]
  funext t
  induction live with
  | nil => simp [mkE]
  | cons k live ih =>
    simp only [List.map_cons, mkE]
    by_cases e : k = t
    · subst e; simp
    · rw [if_neg e, ← ih]
      simp [Ne.symm e]
def againS (x : Cx) (nt : Nat) (I : Nat → St → Prop) (n : Nat) (st : St) : Prop := ∃ n' st', n' < n ∧ Weak x nt st st' ∧ I n' st'
theorem loop_sel {b : LC} {Q : AE → St → Prop} (I : Nat → St → Prop) (n : Nat) (h0 : ∃ st', Weak x nt st st' ∧ I n st')
    (hstep : ∀ n st, I n st → walk P x nt b (@thenB ⟨againS x nt I n⟩ Q) st) : W P x nt (.loop b) Q st := by
  refine W_loop (fun n st => ∃ st', Weak x nt st st' ∧ I n st') n h0 ?_
  rintro n st ⟨st', hw, hI⟩
  refine W_weaken hw ((W_walk (hstep n st' hI)).mono fun e st2 hq => ?_)
  cases e with
  | normal => obtain ⟨n', st3, g2, g3, g4⟩ := hq; exact ⟨n', g2, st3, g3, g4⟩
  | exit id => exact hq
  | ret => exact hq
end
end Go.Proofs.YtfdolehffjmdmaaGreatDoor
/- The map of a log (fold.Raw). -/
namespace Go.Proofs.YtfdolehffjmdmaaGreatDoor
set_option linter.unusedSimpArgs false
set_option linter.unusedVariables false
open Go.RowKit
theorem weak_puF {x : Cx} {nt : Nat} {st : St} (id : Nat) {v T sz : Nat} {sto : Bool} {rows rows' : List (List PV)} (h : st.heap[id]? = some (.arr v sto true T sz rows)) (hf : rows.map (·.map (frz st.heap)) = rows') (hp : rows'.all (fun r => r.all PV.isPure) = true) :
    Weak x nt st ⟨st.env, st.heap.set id (.arr v false false T sz rows')⟩ := by
  subst hf
  intro a w ⟨⟨C, hr, he⟩, hdf, hs⟩
  obtain ⟨k1, k2⟩ := hr.change (C' := C) (ob' := .arr v false false T sz (rows.map (·.map (frz st.heap)))) h (step_refl w) rfl (fun _ => rfl) (fun _ _ => ⟨rfl, rfl⟩) (.inl ⟨rfl, rfl⟩)
    (fun b o _ hf hb => by have := hf hb; simp at this) (fun b o _ _ => rfl) (fun b h => .inl h)
    (fun hm hmp => by
      obtain ⟨o1, o2, o3, xs, o4, o5⟩ := hr.obj id _ h
      refine ⟨o1, o2, fun row hrow => ?_, xs, by simpa using o4, fun k row j p u a b c => ?_⟩
      · obtain ⟨r, hr1, rfl⟩ := List.mem_map.1 hrow
        simpa using o3 r hr1
      · obtain ⟨r, hr1, rfl⟩ := map_get a
        obtain ⟨q, hq1, rfl⟩ := map_get b
        obtain ⟨e1, e2⟩ := o5 k r j q u hr1 hq1 c
        refine ⟨e1, ?_⟩
        simp only [Bool.false_eq_true, if_false, if_true] at e2 ⊢
        refine hmp _ _ ((frz_rep hr e2).pureOf ?_)
        have h1 := List.all_eq_true.1 hp _ (List.mem_map.2 ⟨r, List.mem_of_getElem? hr1, rfl⟩)
        exact List.all_eq_true.1 h1 _ (List.mem_map.2 ⟨q, List.mem_of_getElem? hq1, rfl⟩))
  exact ⟨⟨C, k1, fun u => k2 _ _ (he u)⟩, hdf, hs⟩
abbrev KV := ByteArray × List ByteArray
def cPair (p : KV) : List PV := [.str p.1, .list (p.2.map cStr)]
def grp1 (out : List KV) (o : ByteArray × ByteArray) : List KV := match out.getLast? with
  | some p => if p.1 = o.1 then (if p.2.any (fun s => decide (o.2 = s)) = true then out else out.dropLast ++ [(p.1, p.2 ++ [o.2])]) else out ++ [(o.1, [o.2])]
  | none => [(o.1, [o.2])]
theorem grp1_in {o : List KV} {key v : ByteArray} {vs : List ByteArray} (h : (vs.any fun x => decide (v = x)) = true) : grp1 (o ++ [(key, vs)]) (key, v) = o ++ [(key, vs)] := by
  rw [grp1, List.getLast?_concat]
  simp only [if_true]
  rw [if_pos h]
theorem grp1_app {o : List KV} {key v : ByteArray} {vs : List ByteArray} (h : (vs.any fun x => decide (v = x)) = false) : grp1 (o ++ [(key, vs)]) (key, v) = o ++ [(key, vs ++ [v])] := by
  rw [grp1, List.getLast?_concat]
  simp only [if_true]
  rw [if_neg (by simp [h]), List.dropLast_concat]
theorem grp1_new {o : List KV} {key k v : ByteArray} {vs : List ByteArray} (h : ¬ key = k) : grp1 (o ++ [(key, vs)]) (k, v) = (o ++ [(key, vs)]) ++ [(k, [v])] := by
  rw [grp1, List.getLast?_concat]
  simp only [if_neg h]
def grpL (l : List (ByteArray × ByteArray)) : List KV := l.foldl grp1 []
def standsL (l : List Entry) (c : Int) : List FOp := (opsL l c).filter (standB (pasts l) l (opsL l c))
noncomputable def rawL (l : List Entry) (c : Int) : List KV := grpL ((sortF (standsL l c)).map FOp.kv)
theorem grpL_take {l : List FOp} {k : Nat} (h : k < l.length) : grpL ((l.take (k + 1)).map FOp.kv) = grp1 (grpL ((l.take k).map FOp.kv)) (nth l k).kv := by
  rw [grpL, List.take_add_one, nth_get? _ _ h, Option.toList_some, List.map_append, List.foldl_append]
  rfl
theorem indexStr_meets (l : List ByteArray) (y : ByteArray) (hl : l.length ≤ 9223372036854775806) : Meets Tryz.prog 135 [.list (l.map cStr), .str y] [] (.int .i64 (idxF (fun x => decide (y = x)) l 0)) [] := by
  refine Meets.of_walk Tryz.func135 Tryz.ntmps135 low135 res135 (by simp) fun x hx => ?_
  simp only [go_sem, Nat.reduceLT, Nat.reduceAdd, Nat.reduceEqDiff, Nat.reduceLeDiff, Nat.reduceSub, Nat.reduceMul, Int.reduceEq, eq_self, reduceIte, L135, R135]
  refine loop_inv [0, 1, 7, 8] 0 (fun n st => ∃ k : Nat, k + n = l.length ∧ idxF (fun x => decide (y = x)) (l.drop k) k = idxF (fun x => decide (y = x)) l 0 ∧
    st = ⟨mkE .top [(0, .list (l.map cStr)), (1, .str y), (7, .int .i64 l.length), (8, .int .i64 k)], []⟩) l.length (by simp [hx]) (by simp) ?_ ?_
  · refine ⟨0, by omega, by simp, ?_⟩
    simp [trim_mk, go_sem, Nat.reduceLT, Nat.reduceAdd, Nat.reduceEqDiff, Nat.reduceLeDiff, Nat.reduceSub, Nat.reduceMul, Int.reduceEq, eq_self, reduceIte, subHeap, renObj, pos, List.range_succ]
  · rintro n st ⟨k, hk, hi, rfl⟩
    by_cases hlt : k < l.length
    · have hg : l[k]? = some (nth l k) := nth_get? _ _ hlt
      have wk := i64_up (k := k) (by omega)
      rw [idxF_drop _ l k hlt] at hi
      by_cases he : y = nth l k
      · simp only [go_sem, Nat.reduceLT, Nat.reduceAdd, Nat.reduceEqDiff, Nat.reduceLeDiff, Nat.reduceSub, Nat.reduceMul, Int.reduceEq, eq_self, reduceIte, hlt, hg, cStr, he, decide_true]
        refine ret_pure hx ?_
        simp [he] at hi
        simp [go_sem, Nat.reduceLT, Nat.reduceAdd, Nat.reduceEqDiff, Nat.reduceLeDiff, Nat.reduceSub, Nat.reduceMul, Int.reduceEq, eq_self, reduceIte, L135, R135, hi, he]
      · simp only [go_sem, Nat.reduceLT, Nat.reduceAdd, Nat.reduceEqDiff, Nat.reduceLeDiff, Nat.reduceSub, Nat.reduceMul, Int.reduceEq, eq_self, reduceIte, hlt, hg, cStr, he, wk, decide_false]
        refine ⟨by simp, n - 1, by omega, k + 1, by omega, by simpa [he] using hi, ?_⟩
        simp [trim_mk, go_sem, Nat.reduceLT, Nat.reduceAdd, Nat.reduceEqDiff, Nat.reduceLeDiff, Nat.reduceSub, Nat.reduceMul, Int.reduceEq, eq_self, reduceIte, subHeap, renObj, pos, List.range_succ]
    · have : l.drop k = [] := List.drop_eq_nil_of_le (by omega)
      rw [this] at hi
      simp only [go_sem, Nat.reduceLT, Nat.reduceAdd, Nat.reduceEqDiff, Nat.reduceLeDiff, Nat.reduceSub, Nat.reduceMul, Int.reduceEq, eq_self, reduceIte, hlt]
      refine ret_pure hx ?_
      simp [go_sem, Nat.reduceLT, Nat.reduceAdd, Nat.reduceEqDiff, Nat.reduceLeDiff, Nat.reduceSub, Nat.reduceMul, Int.reduceEq, eq_self, reduceIte, L135, R135, ← hi, idxF]
theorem containsStr_meets (l : List ByteArray) (y : ByteArray) (hl : l.length ≤ 9223372036854775806) : Meets Tryz.prog 95 [.list (l.map cStr), .str y] [] (.bool (l.any fun x => decide (y = x))) [] := by
  refine Meets.of_walk Tryz.func95 Tryz.ntmps95 low95 res95 (by simp) fun x hx => ?_
  simp only [go_sem, Nat.reduceLT, Nat.reduceAdd, Nat.reduceEqDiff, Nat.reduceLeDiff, Nat.reduceSub, Nat.reduceMul, Int.reduceEq, eq_self, reduceIte, L95, R95]
  refine ops_call (.pureE (indexStr_meets l y hl) (by simp [go_sem, Nat.reduceLT, Nat.reduceAdd, Nat.reduceEqDiff, Nat.reduceLeDiff, Nat.reduceSub, Nat.reduceMul, Int.reduceEq, eq_self, reduceIte])) ?_
  simp only [go_sem, Nat.reduceLT, Nat.reduceAdd, Nat.reduceEqDiff, Nat.reduceLeDiff, Nat.reduceSub, Nat.reduceMul, Int.reduceEq, eq_self, reduceIte]
  refine ret_pure hx ?_
  simp [go_sem, Nat.reduceLT, Nat.reduceAdd, Nat.reduceEqDiff, Nat.reduceLeDiff, Nat.reduceSub, Nat.reduceMul, Int.reduceEq, eq_self, reduceIte, L95, R95, idxF_any]
theorem cloneOps_meets (rows : List (List PV)) (hz : ∀ row ∈ rows, row.length = 5) (hb : rows.length * 56 ≤ 140737488355328) : Meets Tryz.prog 87 [.list rows] [] (.arr 0 1) [.arr 1 true false 131 5 rows] := by
  refine Meets.of_walk Tryz.func87 Tryz.ntmps87 low87 res87 (by simp) fun x hx => ?_
  simp only [go_sem, Nat.reduceLT, Nat.reduceAdd, Nat.reduceEqDiff, Nat.reduceLeDiff, Nat.reduceSub, Nat.reduceMul, Int.reduceEq, eq_self, reduceIte, L87, R87]
  refine ops_isnil rfl fun b hb' => ?_
  cases b
  · simp only [go_sem, Nat.reduceLT, Nat.reduceAdd, Nat.reduceEqDiff, Nat.reduceLeDiff, Nat.reduceSub, Nat.reduceMul, Int.reduceEq, eq_self, reduceIte]
    rw [app_arr rfl rfl hz (by simpa using hb)]
    simp only [go_sem, Nat.reduceLT, Nat.reduceAdd, Nat.reduceEqDiff, Nat.reduceLeDiff, Nat.reduceSub, Nat.reduceMul, Int.reduceEq, eq_self, reduceIte]
    refine ret_keep [0] (by simp) (by simp [hx]) (by simp [hx]) ?_ ?_
    · simp [go_sem, Nat.reduceLT, Nat.reduceAdd, Nat.reduceEqDiff, Nat.reduceLeDiff, Nat.reduceSub, Nat.reduceMul, Int.reduceEq, eq_self, reduceIte, L87, R87, hx, pos]
    · simp [subHeap, renObj, hx]
  · simp only [go_sem, Nat.reduceLT, Nat.reduceAdd, Nat.reduceEqDiff, Nat.reduceLeDiff, Nat.reduceSub, Nat.reduceMul, Int.reduceEq, eq_self, reduceIte]
    refine ret_weak (weak_own 2 1 131 5 true false rfl (by omega)) ?_
    have : rows = [] := hb' rfl
    subst this
    rw [put_mk]
    refine ret_keep [0] (by simp) (by simp [hx]) (by simp [hx]) ?_ ?_
    · simp [go_sem, Nat.reduceLT, Nat.reduceAdd, Nat.reduceEqDiff, Nat.reduceLeDiff, Nat.reduceSub, Nat.reduceMul, Int.reduceEq, eq_self, reduceIte, L87, R87, hx, pos]
    · simp [subHeap, renObj, hx]
end Go.Proofs.YtfdolehffjmdmaaGreatDoor
/- The map of a log (fold.Raw), the walk. -/
namespace Go.Proofs.YtfdolehffjmdmaaGreatDoor
set_option linter.unusedSimpArgs false
set_option linter.unusedVariables false
open Go.RowKit
theorem weak_eqF {x : Cx} {nt : Nat} {st st1 st2 : St} (h : st = st1) (hw : Weak x nt st1 st2) : Weak x nt st st2 := h ▸ hw
theorem opsL_mem {l : List Entry} {c : Int} {y : FOp} (h : y ∈ opsL l c) : ∃ e ∈ l, y.id = e.id ∧ meetB e.c c = true ∧ opE e = some y := by
  obtain ⟨e, he, hs⟩ := List.mem_filterMap.1 h
  refine ⟨e, (List.mem_filter.1 he).1, ?_, (List.mem_filter.1 he).2, hs⟩
  unfold opE at hs
  split at hs
  · cases hs
  · cases hs; rfl
theorem opsL_len (l : List Entry) (c : Int) : (opsL l c).length ≤ l.length := by
  have a := filterMap_len opE (withC l c)
  have b := withC_len l c
  unfold opsL; omega
theorem stands_len (l : List Entry) (c : Int) : (standsL l c).length ≤ l.length := by
  have a := opsL_len l c
  have : (standsL l c).length ≤ (opsL l c).length := List.length_filter_le ..
  omega
theorem findE_mem {l : List Entry} {e : Entry} (h : e ∈ l) : 0 ≤ findE l e.id := Int.not_lt.1 fun hlt => findE_neg.1 hlt e h rfl
theorem stand_of {l : List Entry} {c : Int} (h : LogOk l) {y : FOp} (hy : y ∈ opsL l c) : 0 ≤ findE l y.id ∧ findE l y.id < (pasts l).length ∧ (pastAt (pasts l) l y.id).length ≤ 9223372036854775806 := by
  have hm := h.len
  obtain ⟨e, he, hi, -⟩ := opsL_mem hy
  have h0 : 0 ≤ findE l y.id := by rw [hi]; exact findE_mem he
  obtain ⟨k, f1, f2, f3⟩ := findE_spec h0
  have hpl : (pastAt (pasts l) l y.id).length ≤ 40 := by rw [pastAt_eq, f1, Int.toNat_natCast]; exact pastOf_len h f2
  exact ⟨h0, by simp [pasts]; omega, by omega⟩
set_option maxRecDepth 20000 in
set_option maxHeartbeats 8000000 in
theorem fraw_meets (l : List Entry) (c : Int) (h : LogOk l) (hc : wthn c 1 7 = true) (ht : ∀ e ∈ l, e.t.size ≤ 4294967000) : Meets Tryz.prog 39 [.list (l.map cE), .int .i64 c] [] (.list ((rawL l c).map cPair)) [] := by
  have hm := h.len
  have hol := opsL_len l c
  have hsl := stands_len l c
  obtain ⟨v1, hdel⟩ := delF_meets (opsL l c) 88 [.rptr [.list ((opsL l c).map cOp)], .rptr [pvPasts l (pasts l)]] (fun o => !standB (pasts l) l (opsL l c) o) 1 (by kernel_rfl) (by omega)
    (closedCaps (by simp [renLeaf, pvPasts]) (by simp [ren, renT, renCell, renLeaf, pvPasts])) (fun nl f fz => ⟨by simp [renLeaf, pvPasts], by simp [ren, renT, renCell, renLeaf, pvPasts], by simp [renCell, renLeaf, pvPasts]⟩)
    (fun o ho => fraw1_meets l (pasts l) (opsL l c) o (by omega) (by omega) (fun y hy => stand_of h hy))
  have hff : ((opsL l c).filter fun o => !!standB (pasts l) l (opsL l c) o) = standsL l c := by
    rw [standsL]; congr 1; funext o; simp
  rw [hff] at hdel
  have hsort := sortOps_meets (standsL l c) v1 131 (by omega)
  have hfl : (sortF (standsL l c)).length = (standsL l c).length := (sortF_spec _).1.length_eq
  have hcl := cloneOps_meets ((opsL l c).map cOp) (fun row hr => by obtain ⟨o, -, rfl⟩ := List.mem_map.1 hr; rfl) (by rw [List.length_map]; omega)
  refine Meets.of_parts Tryz.func39 Tryz.ntmps39 low39 res39 (by simp) fun x hx => ?_
  simp only [LC.flat, L39, R39, List.cons_append, List.nil_append]
  refine WL_join 3 [5, 6] 2 (fun st => st = ⟨mkE .top [(6, .rptr [.list ((opsL l c).map cOp)]), (5, .rptr [pvPasts l (pasts l)]), (5, .ptr 0 0), (6, .ptr 1 0)], [.gone, .gone]⟩) (by simp [hx]) (by simp) ?_ ?_
  · simp only [go_sem, Nat.reduceLT, Nat.reduceAdd, Nat.reduceEqDiff, Nat.reduceLeDiff, Nat.reduceSub, Nat.reduceMul, Int.reduceEq, eq_self, reduceIte, L39, R39, List.take_succ_cons, List.take_zero]
    refine ops_call (.pureE (before_meets l h) (by simp [go_sem, Nat.reduceLT, Nat.reduceAdd, Nat.reduceEqDiff, Nat.reduceLeDiff, Nat.reduceSub, Nat.reduceMul, Int.reduceEq, eq_self, reduceIte])) ?_
    simp only [go_sem, Nat.reduceLT, Nat.reduceAdd, Nat.reduceEqDiff, Nat.reduceLeDiff, Nat.reduceSub, Nat.reduceMul, Int.reduceEq, eq_self, reduceIte, pvPasts]
    refine ops_call (.pureE (ops_meets l c h hc ht) (by simp [go_sem, Nat.reduceLT, Nat.reduceAdd, Nat.reduceEqDiff, Nat.reduceLeDiff, Nat.reduceSub, Nat.reduceMul, Int.reduceEq, eq_self, reduceIte])) ?_
    simp only [go_sem, Nat.reduceLT, Nat.reduceAdd, Nat.reduceEqDiff, Nat.reduceLeDiff, Nat.reduceSub, Nat.reduceMul, Int.reduceEq, eq_self, reduceIte, pvPasts]
    rw [join_normal]
    refine ⟨by simp, _, ?_, rfl⟩
    have e := weak_rptr (x := x) (nt := 79) (st := ⟨mkE .top [(5, .ptr 0 0), (6, .ptr 1 0)], [.box [pvPasts l (pasts l)], .box [.list ((opsL l c).map cOp)]]⟩) (cells' := [pvPasts l (pasts l)]) (H' := [.gone, .box [.list ((opsL l c).map cOp)]]) 5 0 rfl rfl (by simp [frz, pvPasts]) (by simp [PV.isPure, pvPasts]) rfl
    have e2 := weak_rptr (x := x) (nt := 79) (st := ⟨mkE .top [(5, .rptr [pvPasts l (pasts l)]), (5, .ptr 0 0), (6, .ptr 1 0)], [.gone, .box [.list ((opsL l c).map cOp)]]⟩) (cells' := [.list ((opsL l c).map cOp)]) (H' := [.gone, .gone]) 6 1 rfl rfl (by simp [frz]) (by simp [PV.isPure]) rfl
    rw [put_mk] at e e2
    refine Weak.trans (weak_eqF ?_ e) e2
    simp [trim_mk, go_sem, Nat.reduceLT, Nat.reduceAdd, Nat.reduceEqDiff, Nat.reduceLeDiff, Nat.reduceSub, Nat.reduceMul, Int.reduceEq, eq_self, reduceIte, subHeap, renObj, renCell, renLeaf, pos, List.range_succ, pvPasts]
  · rintro st rfl
    refine WL_walk ?_
    simp only [go_sem, Nat.reduceLT, Nat.reduceAdd, Nat.reduceEqDiff, Nat.reduceLeDiff, Nat.reduceSub, Nat.reduceMul, Int.reduceEq, eq_self, reduceIte, L39, R39, List.drop_succ_cons, List.drop_zero]
    refine ops_call (.heapE [] (r' := .arr 2 1) (H' := [.gone, .gone, .arr 1 true false 131 5 ((opsL l c).map cOp)]) hcl (by simp) (by simp) (by simp [go_sem, Nat.reduceLT, Nat.reduceAdd, Nat.reduceEqDiff, Nat.reduceLeDiff, Nat.reduceSub, Nat.reduceMul, Int.reduceEq, eq_self, reduceIte]) rfl rfl rfl) ?_
    simp only [go_sem, Nat.reduceLT, Nat.reduceAdd, Nat.reduceEqDiff, Nat.reduceLeDiff, Nat.reduceSub, Nat.reduceMul, Int.reduceEq, eq_self, reduceIte]
    refine ops_call (.heapE [2] (r' := .arr 2 v1) (H' := [.gone, .gone, .arr v1 true false 131 5 ((standsL l c).map cOp)]) hdel (by simp) (by simp) (by simp [go_sem, Nat.reduceLT, Nat.reduceAdd, Nat.reduceEqDiff, Nat.reduceLeDiff, Nat.reduceSub, Nat.reduceMul, Int.reduceEq, eq_self, reduceIte, pos, pvPasts]) (by simp [subHeap, renObj, go_sem, Nat.reduceLT, Nat.reduceAdd, Nat.reduceEqDiff, Nat.reduceLeDiff, Nat.reduceSub, Nat.reduceMul, Int.reduceEq, eq_self, reduceIte, pos]) (by simp [renT, ren, renCell, renLeaf, backF, backId]) (by simp [merge, mergeObj, callId, renObj, pos, go_sem, Nat.reduceLT, Nat.reduceAdd, Nat.reduceEqDiff, Nat.reduceLeDiff, Nat.reduceSub, Nat.reduceMul, Int.reduceEq, eq_self, reduceIte, List.range_succ, backF, backId])) ?_
    simp only [go_sem, Nat.reduceLT, Nat.reduceAdd, Nat.reduceEqDiff, Nat.reduceLeDiff, Nat.reduceSub, Nat.reduceMul, Int.reduceEq, eq_self, reduceIte]
    refine ops_call (.heapE [2] (r' := .tup []) (H' := [.gone, .gone, .arr v1 true false 131 5 ((sortF (standsL l c)).map cOp)]) hsort (by simp) (by simp) (by simp [go_sem, Nat.reduceLT, Nat.reduceAdd, Nat.reduceEqDiff, Nat.reduceLeDiff, Nat.reduceSub, Nat.reduceMul, Int.reduceEq, eq_self, reduceIte, pos]) (by simp [subHeap, renObj, go_sem, Nat.reduceLT, Nat.reduceAdd, Nat.reduceEqDiff, Nat.reduceLeDiff, Nat.reduceSub, Nat.reduceMul, Int.reduceEq, eq_self, reduceIte, pos]) rfl (by simp [merge, mergeObj, callId, renObj, pos, go_sem, Nat.reduceLT, Nat.reduceAdd, Nat.reduceEqDiff, Nat.reduceLeDiff, Nat.reduceSub, Nat.reduceMul, Int.reduceEq, eq_self, reduceIte, List.range_succ, backF, backId])) ?_
    simp only [go_sem, Nat.reduceLT, Nat.reduceAdd, Nat.reduceEqDiff, Nat.reduceLeDiff, Nat.reduceSub, Nat.reduceMul, Int.reduceEq, eq_self, reduceIte, List.length_map]
    obtain ⟨S, hS⟩ : ∃ S, sortF (standsL l c) = S := ⟨_, rfl⟩
    have hraw : rawL l c = grpL (S.map FOp.kv) := by rw [rawL, hS]
    rw [hS] at hfl
    rw [hS, hraw]
    refine loop_sel (fun n st => ∃ k vo : Nat, k + n = S.length ∧
      ((grpL ((S.take k).map FOp.kv) = [] ∧ k = 0 ∧ st = ⟨mkE .top [(7, .arr 0 v1), (8, .arr 1 vo), (23, .arr 0 v1), (24, .int .i64 S.length), (25, .int .i64 k)], [.arr v1 true false 131 5 (S.map cOp), .arr vo true true 81 2 []]⟩) ∨
       ∃ (o : List KV) (key : ByteArray) (vs : List ByteArray) (v2 : Nat), grpL ((S.take k).map FOp.kv) = o ++ [(key, vs)] ∧ (o.length + 1 ≤ k ∧ vs.length ≤ k) ∧
        st = ⟨mkE .top [(7, .arr 0 v1), (8, .arr 1 vo), (23, .arr 0 v1), (24, .int .i64 S.length), (25, .int .i64 k)], [.arr v1 true false 131 5 (S.map cOp), .arr vo true true 81 2 (o.map cPair ++ [[.str key, .arr 2 v2]]), .arr v2 true false 9 1 (vs.map cStr)]⟩)) S.length ?_ ?_
    · refine ⟨_, Weak.trans (weak_own 8 0 81 2 true true rfl (by omega)) (weak_sel [7, 8, 23, 24, 25] [2, 3] (by simp) (by simp [St.put]) (by simp [hx])), 0, 0, by omega, .inl ⟨rfl, rfl, ?_⟩⟩
      rw [put_mk]
      simp [sel_mk, go_sem, Nat.reduceLT, Nat.reduceAdd, Nat.reduceEqDiff, Nat.reduceLeDiff, Nat.reduceSub, Nat.reduceMul, Int.reduceEq, eq_self, reduceIte, subHeap, renObj, pos, List.range_succ]
    · rintro n st ⟨k, vo, hk, hI⟩
      by_cases hlt : k < S.length
      · have hg : S[k]? = some (nth S k) := nth_get? _ _ hlt
        have wk := i64_up (k := k) (by omega)
        have hst := grpL_take hlt
        rcases hI with ⟨hg0, rfl, rfl⟩ | ⟨o, key, vs, v2, hgo, hlen, rfl⟩
        · rw [hg0] at hst
          have h0 : ((0 : Int) < (S.length : Int)) = True := eq_true (by omega)
          have hneg : IntKind.i64.wrap ((0 : Int) - 1) = -1 := by decide
          have hneg2 : ((-1 : Int) < 0) = True := eq_true (by decide)
          have w1 : IntKind.i64.wrap ((0 : Int) + 1) = 1 := by decide
          simp only [go_sem, Nat.reduceLT, Nat.reduceAdd, Nat.reduceEqDiff, Nat.reduceLeDiff, Nat.reduceSub, Nat.reduceMul, Int.reduceEq, eq_self, reduceIte, Int.ofNat_zero, Int.natCast_one, Int.cast_ofNat_Int, Int.reduceLT, Int.reduceLE, Int.reduceToNat, Nat.reduceLT, Int.toNat_zero, Int.natCast_zero, Int.le_refl, Int.lt_irrefl, Int.reduceAdd, frz, false_or, or_true, List.length_map, hlt, hg, h0, hneg, hneg2, List.getElem?_map, Option.map_some, cOp, List.length_nil, PV.isPure, List.all_cons, List.all_nil]
          rw [app_arrI rfl rfl (by simp) (by simp)]
          have w2 : IntKind.i64.wrap (1 : Int) = 1 := by decide
          simp only [go_sem, Nat.reduceLT, Nat.reduceAdd, Nat.reduceEqDiff, Nat.reduceLeDiff, Nat.reduceSub, Nat.reduceMul, Int.reduceEq, eq_self, reduceIte, Int.ofNat_zero, Int.natCast_one, Int.cast_ofNat_Int, Int.reduceLT, Int.reduceLE, Int.reduceToNat, Nat.reduceLT, Int.toNat_zero, Int.natCast_zero, Int.le_refl, Int.lt_irrefl, Int.reduceAdd, frz, false_or, or_true, w1, w2]
          refine ⟨n - 1, _, by omega, weak_sel [7, 8, 23, 24, 25] [0, 1, 3] (by simp) (by simp) (by simp [hx]), 1, vo + 1, by omega, .inr ⟨[], (nth S 0).k, [(nth S 0).v], 0, ?_, by simp, ?_⟩⟩
          · rw [hst]; rfl
          · simp [sel_mk, go_sem, Nat.reduceLT, Nat.reduceAdd, Nat.reduceEqDiff, Nat.reduceLeDiff, Nat.reduceSub, Nat.reduceMul, Int.reduceEq, eq_self, reduceIte, subHeap, renObj, renCell, renLeaf, pos, List.range_succ, cStr]
        · rw [hgo] at hst
          have hL : (List.map cPair o ++ [[PV.str key, PV.arr 2 v2]]).length = o.length + 1 := by simp
          have hw1 : IntKind.i64.wrap (((o.length + 1 : Nat) : Int) - 1) = (o.length : Int) := by rw [IntWalk.i64_in _ (by omega)]; omega
          have hng : ((o.length : Int) < 0) = False := eq_false (by omega)
          have hge : (List.map cPair o ++ [[PV.str key, PV.arr 2 v2]])[o.length]? = some [PV.str key, PV.arr 2 v2] := by
            rw [List.getElem?_append_right (by simp)]; simp
          have hlo : o.length < o.length + 1 := by omega
          simp only [go_sem, Nat.reduceLT, Nat.reduceAdd, Nat.reduceEqDiff, Nat.reduceLeDiff, Nat.reduceSub, Nat.reduceMul, Int.reduceEq, eq_self, reduceIte, Int.ofNat_zero, Int.natCast_one, Int.cast_ofNat_Int, Int.reduceLT, Int.reduceLE, Int.reduceToNat, Nat.reduceLT, Int.toNat_zero, Int.natCast_zero, Int.le_refl, Int.lt_irrefl, Int.reduceAdd, frz, false_or, or_true, List.length_map, hlt, hg, List.getElem?_map, Option.map_some, cOp, hL, hw1, hng, hge, hlo]
          by_cases hk2 : key = (nth S k).k
          · simp only [go_sem, Nat.reduceLT, Nat.reduceAdd, Nat.reduceEqDiff, Nat.reduceLeDiff, Nat.reduceSub, Nat.reduceMul, Int.reduceEq, eq_self, reduceIte, Int.ofNat_zero, Int.natCast_one, Int.cast_ofNat_Int, Int.reduceLT, Int.reduceLE, Int.reduceToNat, Nat.reduceLT, Int.toNat_zero, Int.natCast_zero, Int.le_refl, Int.lt_irrefl, Int.reduceAdd, frz, false_or, or_true, hk2, decide_true, hL, hw1, hng, hge, hlo]
            subst hk2
            simp only [go_sem, Nat.reduceLT, Nat.reduceAdd, Nat.reduceEqDiff, Nat.reduceLeDiff, Nat.reduceSub, Nat.reduceMul, Int.reduceEq, eq_self, reduceIte, Int.ofNat_zero, Int.natCast_one, Int.cast_ofNat_Int, Int.reduceLT, Int.reduceLE, Int.reduceToNat, Nat.reduceLT, Int.toNat_zero, Int.natCast_zero, Int.le_refl, Int.lt_irrefl, Int.reduceAdd, frz, false_or, or_true, hL, hw1, hng, hge, hlo]
            refine ops_call (.scalarE (containsStr_meets vs (nth S k).v (by omega)) rfl (by simp [go_sem, Nat.reduceLT, Nat.reduceAdd, Nat.reduceEqDiff, Nat.reduceLeDiff, Nat.reduceSub, Nat.reduceMul, Int.reduceEq, eq_self, reduceIte, frzAt, pos])) ?_
            cases hct : vs.any fun x => decide ((nth S k).v = x)
            · simp only [go_sem, Nat.reduceLT, Nat.reduceAdd, Nat.reduceEqDiff, Nat.reduceLeDiff, Nat.reduceSub, Nat.reduceMul, Int.reduceEq, eq_self, reduceIte, Int.ofNat_zero, Int.natCast_one, Int.cast_ofNat_Int, Int.reduceLT, Int.reduceLE, Int.reduceToNat, Nat.reduceLT, Int.toNat_zero, Int.natCast_zero, Int.le_refl, Int.lt_irrefl, Int.reduceAdd, frz, false_or, or_true, hL, hw1, hng, hge, hlo, PV.isPure, List.all_cons, List.all_nil]
              rw [app_arr rfl rfl (by simp) (by simp; omega)]
              simp only [go_sem, Nat.reduceLT, Nat.reduceAdd, Nat.reduceEqDiff, Nat.reduceLeDiff, Nat.reduceSub, Nat.reduceMul, Int.reduceEq, eq_self, reduceIte, Int.ofNat_zero, Int.natCast_one, Int.cast_ofNat_Int, Int.reduceLT, Int.reduceLE, Int.reduceToNat, Nat.reduceLT, Int.toNat_zero, Int.natCast_zero, Int.le_refl, Int.lt_irrefl, Int.reduceAdd, frz, false_or, or_true, hL, hw1, hng, hge, hlo, wk, true_or, or_true, Option.map_some]
              repeat refine ⟨rfl, ?_⟩
              try simp only [go_sem, Nat.reduceLT, Nat.reduceAdd, Nat.reduceEqDiff, Nat.reduceLeDiff, Nat.reduceSub, Nat.reduceMul, Int.reduceEq, eq_self, reduceIte, Int.ofNat_zero, Int.natCast_one, Int.cast_ofNat_Int, Int.reduceLT, Int.reduceLE, Int.reduceToNat, Nat.reduceLT, Int.toNat_zero, Int.natCast_zero, Int.le_refl, Int.lt_irrefl, Int.reduceAdd, frz, false_or, or_true, wk]
              refine ⟨n - 1, _, by omega, weak_sel [7, 8, 23, 24, 25] [0, 1, 2] (by simp) (by simp) (by simp [hx]), k + 1, vo, by omega, .inr ⟨o, (nth S k).k, vs ++ [(nth S k).v], v2 + 1, ?_, by simp; omega, ?_⟩⟩
              · rw [hst]; exact grp1_app hct
              · simp [sel_mk, go_sem, Nat.reduceLT, Nat.reduceAdd, Nat.reduceEqDiff, Nat.reduceLeDiff, Nat.reduceSub, Nat.reduceMul, Int.reduceEq, eq_self, reduceIte, subHeap, renObj, renCell, renLeaf, pos, List.range_succ, cStr, cPair, frzAt]
            · simp only [go_sem, Nat.reduceLT, Nat.reduceAdd, Nat.reduceEqDiff, Nat.reduceLeDiff, Nat.reduceSub, Nat.reduceMul, Int.reduceEq, eq_self, reduceIte, Int.ofNat_zero, Int.natCast_one, Int.cast_ofNat_Int, Int.reduceLT, Int.reduceLE, Int.reduceToNat, Nat.reduceLT, Int.toNat_zero, Int.natCast_zero, Int.le_refl, Int.lt_irrefl, Int.reduceAdd, frz, false_or, or_true, wk]
              refine ⟨n - 1, _, by omega, weak_sel [7, 8, 23, 24, 25] [0, 1, 2] (by simp) (by simp) (by simp [hx]), k + 1, vo, by omega, .inr ⟨o, (nth S k).k, vs, v2, ?_, by omega, ?_⟩⟩
              · rw [hst]; exact grp1_in hct
              · simp [sel_mk, go_sem, Nat.reduceLT, Nat.reduceAdd, Nat.reduceEqDiff, Nat.reduceLeDiff, Nat.reduceSub, Nat.reduceMul, Int.reduceEq, eq_self, reduceIte, subHeap, renObj, renCell, renLeaf, pos, List.range_succ, cStr, cPair, frzAt]
          · simp only [go_sem, Nat.reduceLT, Nat.reduceAdd, Nat.reduceEqDiff, Nat.reduceLeDiff, Nat.reduceSub, Nat.reduceMul, Int.reduceEq, eq_self, reduceIte, Int.ofNat_zero, Int.natCast_one, Int.cast_ofNat_Int, Int.reduceLT, Int.reduceLE, Int.reduceToNat, Nat.reduceLT, Int.toNat_zero, Int.natCast_zero, Int.le_refl, Int.lt_irrefl, Int.reduceAdd, frz, false_or, or_true, hk2, decide_false, hL, hw1, hng, hge, hlo, PV.isPure, List.all_cons, List.all_nil]
            rw [app_arrI rfl rfl (by simp) (by simp; omega)]
            simp only [go_sem, Nat.reduceLT, Nat.reduceAdd, Nat.reduceEqDiff, Nat.reduceLeDiff, Nat.reduceSub, Nat.reduceMul, Int.reduceEq, eq_self, reduceIte, Int.ofNat_zero, Int.natCast_one, Int.cast_ofNat_Int, Int.reduceLT, Int.reduceLE, Int.reduceToNat, Nat.reduceLT, Int.toNat_zero, Int.natCast_zero, Int.le_refl, Int.lt_irrefl, Int.reduceAdd, frz, false_or, or_true, wk]
            refine ⟨n - 1, _, by omega, weak_sel [7, 8, 23, 24, 25] [0, 1, 4] (by simp) (by simp) (by simp [hx]), k + 1, vo + 1, by omega, .inr ⟨o ++ [(key, vs)], (nth S k).k, [(nth S k).v], 0, ?_, by simp; omega, ?_⟩⟩
            · rw [hst]; exact grp1_new hk2
            · simp [sel_mk, go_sem, Nat.reduceLT, Nat.reduceAdd, Nat.reduceEqDiff, Nat.reduceLeDiff, Nat.reduceSub, Nat.reduceMul, Int.reduceEq, eq_self, reduceIte, subHeap, renObj, renCell, renLeaf, pos, List.range_succ, cStr, cPair, frzAt]
      · have hkS : k = S.length := by omega
        have hkn : ¬ ((k : Int) < (S.length : Int)) := by omega
        rw [List.take_of_length_le (by omega)] at hI
        rcases hI with ⟨hg0, rfl, rfl⟩ | ⟨o, key, vs, v2, hgo, hlen, rfl⟩
        · rw [hg0]
          simp only [go_sem, Nat.reduceLT, Nat.reduceAdd, Nat.reduceEqDiff, Nat.reduceLeDiff, Nat.reduceSub, Nat.reduceMul, Int.reduceEq, eq_self, reduceIte, Int.ofNat_zero, Int.natCast_one, Int.cast_ofNat_Int, Int.reduceLT, Int.reduceLE, Int.reduceToNat, Nat.reduceLT, Int.toNat_zero, Int.natCast_zero, Int.le_refl, Int.lt_irrefl, Int.reduceAdd, frz, false_or, or_true, hkn, hlt]
          have h0 : ((0 : Int) < (S.length : Int)) = False := eq_false (by omega)
          simp only [go_sem, Nat.reduceLT, Nat.reduceAdd, Nat.reduceEqDiff, Nat.reduceLeDiff, Nat.reduceSub, Nat.reduceMul, Int.reduceEq, eq_self, reduceIte, Int.ofNat_zero, Int.natCast_one, Int.cast_ofNat_Int, Int.reduceLT, Int.reduceLE, Int.reduceToNat, Nat.reduceLT, Int.toNat_zero, Int.natCast_zero, Int.le_refl, Int.lt_irrefl, Int.reduceAdd, frz, false_or, or_true, h0]
          refine ret_weak (weak_puF 1 (rows' := []) rfl rfl rfl) ?_
          refine ret_pure hx ?_
          simp [go_sem, Nat.reduceLT, Nat.reduceAdd, Nat.reduceEqDiff, Nat.reduceLeDiff, Nat.reduceSub, Nat.reduceMul, Int.reduceEq, eq_self, reduceIte, L39, R39, frzAt, pos]
        · rw [hgo]
          simp only [go_sem, Nat.reduceLT, Nat.reduceAdd, Nat.reduceEqDiff, Nat.reduceLeDiff, Nat.reduceSub, Nat.reduceMul, Int.reduceEq, eq_self, reduceIte, Int.ofNat_zero, Int.natCast_one, Int.cast_ofNat_Int, Int.reduceLT, Int.reduceLE, Int.reduceToNat, Nat.reduceLT, Int.toNat_zero, Int.natCast_zero, Int.le_refl, Int.lt_irrefl, Int.reduceAdd, frz, false_or, or_true, hkn, hlt]
          refine ret_weak (Weak.trans (weak_sel [4] [0, 1] (by simp) (by simp) (by simp [hx])) (weak_puF 1 (v := vo) (T := 81) (sz := 2) (sto := true) (rows := (o ++ [(key, vs)]).map cPair) (rows' := (o ++ [(key, vs)]).map cPair) ?_ ?_ ?_)) ?_
          · simp [sel_mk, go_sem, Nat.reduceLT, Nat.reduceAdd, Nat.reduceEqDiff, Nat.reduceLeDiff, Nat.reduceSub, Nat.reduceMul, Int.reduceEq, eq_self, reduceIte, subHeap, renObj, renCell, renLeaf, pos, List.range_succ, cPair, frzAt]
          · simp [cPair, frz]
          · simp [cPair, PV.isPure]
          refine ret_pure hx ?_
          simp [sel_mk, go_sem, Nat.reduceLT, Nat.reduceAdd, Nat.reduceEqDiff, Nat.reduceLeDiff, Nat.reduceSub, Nat.reduceMul, Int.reduceEq, eq_self, reduceIte, L39, R39, frzAt, pos, subHeap]
end Go.Proofs.YtfdolehffjmdmaaGreatDoor
/- The map of a log, and the values of a key (fold.Map, Get). -/
namespace Go.Proofs.YtfdolehffjmdmaaGreatDoor
set_option linter.unusedSimpArgs false
set_option linter.unusedVariables false
open Go.RowKit
def mapErr (l : List Entry) (c : Int) : Int := if checkLog l = 0 then (if wthn c 1 7 = true then 0 else 3) else checkLog l
noncomputable def mapL (l : List Entry) (c : Int) : List KV := if mapErr l c = 0 then rawL l c else []
def getErr (l : List Entry) (c : Int) (k : ByteArray) : Int := if mapErr l c = 0 then (if wordS k = true then 0 else 1) else mapErr l c
def valsIn (m : List KV) (k : ByteArray) : List ByteArray := match m.find? fun p => decide (p.1 = k) with
  | some p => p.2
  | none => []
noncomputable def getL (l : List Entry) (c : Int) (k : ByteArray) : List ByteArray := if getErr l c k = 0 then valsIn (rawL l c) k else []
theorem log_t {l : List Entry} (h : LogOk l) : ∀ e ∈ l, e.t.size ≤ 12 := fun e he => by
  obtain ⟨k, hk, rfl⟩ := List.getElem_of_mem he
  have := h.chk k hk
  rw [nth_eq _ _ hk] at this
  exact (check_ok_bounds this).2.2.1
theorem map_meets (l : List Entry) (c : Int) (hl : l.length ≤ 9223372036854775806) : Meets Tryz.prog 9 [.list (l.map cE), .int .i64 c] [] (.tup [.list ((mapL l c).map cPair), .int .i64 (mapErr l c)]) [] := by
  refine Meets.of_walk Tryz.func9 Tryz.ntmps9 low9 res9 (by simp) fun x hx => ?_
  simp only [go_sem, Nat.reduceLT, Nat.reduceAdd, Nat.reduceEqDiff, Nat.reduceLeDiff, Nat.reduceSub, Nat.reduceMul, Int.reduceEq, eq_self, reduceIte, L9, R9]
  refine ops_call (.pureE (dagCheck_meets l hl) (by simp [go_sem, Nat.reduceLT, Nat.reduceAdd, Nat.reduceEqDiff, Nat.reduceLeDiff, Nat.reduceSub, Nat.reduceMul, Int.reduceEq, eq_self, reduceIte])) ?_
  by_cases h1 : checkLog l = 0
  · simp only [go_sem, Nat.reduceLT, Nat.reduceAdd, Nat.reduceEqDiff, Nat.reduceLeDiff, Nat.reduceSub, Nat.reduceMul, Int.reduceEq, eq_self, reduceIte, h1]
    refine ops_call (.pureE (colors_meets c) (by simp [go_sem, Nat.reduceLT, Nat.reduceAdd, Nat.reduceEqDiff, Nat.reduceLeDiff, Nat.reduceSub, Nat.reduceMul, Int.reduceEq, eq_self, reduceIte])) ?_
    cases h2 : wthn c 1 7
    · have he : mapErr l c = 3 := by simp [mapErr, h1, h2]
      simp only [go_sem, Nat.reduceLT, Nat.reduceAdd, Nat.reduceEqDiff, Nat.reduceLeDiff, Nat.reduceSub, Nat.reduceMul, Int.reduceEq, eq_self, reduceIte, Int.ofNat_zero, Int.natCast_one, Int.cast_ofNat_Int, Int.reduceLT, Int.reduceLE, Int.reduceToNat, Nat.reduceLT, Int.toNat_zero, Int.natCast_zero, Int.le_refl, Int.lt_irrefl, Int.reduceAdd, frz, false_or, or_true]
      refine ret_pure hx ?_
      simp [go_sem, Nat.reduceLT, Nat.reduceAdd, Nat.reduceEqDiff, Nat.reduceLeDiff, Nat.reduceSub, Nat.reduceMul, Int.reduceEq, eq_self, reduceIte, L9, R9, he, mapL]
    · have he : mapErr l c = 0 := by simp [mapErr, h1, h2]
      have hok := log_ok.1 h1
      simp only [go_sem, Nat.reduceLT, Nat.reduceAdd, Nat.reduceEqDiff, Nat.reduceLeDiff, Nat.reduceSub, Nat.reduceMul, Int.reduceEq, eq_self, reduceIte, Int.ofNat_zero, Int.natCast_one, Int.cast_ofNat_Int, Int.reduceLT, Int.reduceLE, Int.reduceToNat, Nat.reduceLT, Int.toNat_zero, Int.natCast_zero, Int.le_refl, Int.lt_irrefl, Int.reduceAdd, frz, false_or, or_true]
      refine ops_call (.pureE (fraw_meets l c hok h2 (fun e hem => by have := log_t hok e hem; omega)) (by simp [go_sem, Nat.reduceLT, Nat.reduceAdd, Nat.reduceEqDiff, Nat.reduceLeDiff, Nat.reduceSub, Nat.reduceMul, Int.reduceEq, eq_self, reduceIte])) ?_
      simp only [go_sem, Nat.reduceLT, Nat.reduceAdd, Nat.reduceEqDiff, Nat.reduceLeDiff, Nat.reduceSub, Nat.reduceMul, Int.reduceEq, eq_self, reduceIte]
      refine ret_pure hx ?_
      simp [go_sem, Nat.reduceLT, Nat.reduceAdd, Nat.reduceEqDiff, Nat.reduceLeDiff, Nat.reduceSub, Nat.reduceMul, Int.reduceEq, eq_self, reduceIte, L9, R9, he, mapL]
  · have he : mapErr l c = checkLog l := by simp [mapErr, h1]
    simp only [go_sem, Nat.reduceLT, Nat.reduceAdd, Nat.reduceEqDiff, Nat.reduceLeDiff, Nat.reduceSub, Nat.reduceMul, Int.reduceEq, eq_self, reduceIte, h1]
    refine ret_pure hx ?_
    simp [go_sem, Nat.reduceLT, Nat.reduceAdd, Nat.reduceEqDiff, Nat.reduceLeDiff, Nat.reduceSub, Nat.reduceMul, Int.reduceEq, eq_self, reduceIte, L9, R9, he, h1, mapL]
theorem getC_meets (p : KV) (k : ByteArray) : Meets Tryz.prog 42 [.agg (cPair p), .rptr [.str k]] [] (.bool (decide (p.1 = k))) [] := by
  refine Meets.of_walk Tryz.func42 Tryz.ntmps42 low42 res42 (by simp) fun x hx => ?_
  simp only [go_sem, Nat.reduceLT, Nat.reduceAdd, Nat.reduceEqDiff, Nat.reduceLeDiff, Nat.reduceSub, Nat.reduceMul, Int.reduceEq, eq_self, reduceIte, L42, R42, cPair]
  refine ret_pure hx ?_
  simp [go_sem, Nat.reduceLT, Nat.reduceAdd, Nat.reduceEqDiff, Nat.reduceLeDiff, Nat.reduceSub, Nat.reduceMul, Int.reduceEq, eq_self, reduceIte, L42, R42]
instance : Inhabited KV := ⟨(⟨#[]⟩, [])⟩
theorem indexPr_meets (l : List KV) (g : Nat) (caps : List PV) (Hs : List AObj) (p : KV → Bool) (hg : hasBody Tryz.prog g = true) (hl : l.length ≤ 9223372036854775806) (hc : ClosedH Hs caps)
    (hp : ∀ e ∈ l, Meets Tryz.prog g (.agg (cPair e) :: caps) Hs (.bool (p e)) Hs) :
    Meets Tryz.prog 41 [.list (l.map cPair), .clo g caps] Hs (.int .i64 (idxF p l 0)) Hs := by
  refine Meets.of_walk Tryz.func41 Tryz.ntmps41 low41 res41 (by simp) fun x hx => ?_
  simp only [go_sem, Nat.reduceLT, Nat.reduceAdd, Nat.reduceEqDiff, Nat.reduceLeDiff, Nat.reduceSub, Nat.reduceMul, Int.reduceEq, eq_self, reduceIte, L41, R41]
  refine loop_keep [0, 1, 7, 8] (fun n st => ∃ k : Nat, k + n = l.length ∧ idxF p (l.drop k) k = idxF p l 0 ∧
    st = ⟨mkE .top [(0, .list (l.map cPair)), (1, .clo g caps), (7, .int .i64 l.length), (8, .int .i64 k)], Hs⟩) l.length ?_ ?_
  · refine ⟨0, by omega, by simp, ?_⟩
    simp [keep_mk, go_sem, Nat.reduceLT, Nat.reduceAdd, Nat.reduceEqDiff, Nat.reduceLeDiff, Nat.reduceSub, Nat.reduceMul, Int.reduceEq, eq_self, reduceIte]
  · rintro n st ⟨k, hk, hi, rfl⟩
    by_cases hlt : k < l.length
    · have hgt : l[k]? = some (nth l k) := nth_get? _ _ hlt
      have wk := i64_up (k := k) (by omega)
      rw [idxF_drop p l k hlt] at hi
      simp only [go_sem, Nat.reduceLT, Nat.reduceAdd, Nat.reduceEqDiff, Nat.reduceLeDiff, Nat.reduceSub, Nat.reduceMul, Int.reduceEq, eq_self, reduceIte, hlt, hgt, cPair, cId]
      refine ops_callv rfl hg (.whole (hp (nth l k) (by rw [nth_eq _ _ hlt]; exact List.getElem_mem hlt)) rfl ?_ hc.sub hc.back) ?_
      · simp only [go_sem, Nat.reduceLT, Nat.reduceAdd, Nat.reduceEqDiff, Nat.reduceLeDiff, Nat.reduceSub, Nat.reduceMul, Int.reduceEq, eq_self, reduceIte, cPair, cId]
        rw [hc.caps]
      cases hpk : p (nth l k)
      · rw [if_neg (by simp [hpk])] at hi
        simp only [go_sem, Nat.reduceLT, Nat.reduceAdd, Nat.reduceEqDiff, Nat.reduceLeDiff, Nat.reduceSub, Nat.reduceMul, Int.reduceEq, eq_self, reduceIte, wk]
        exact ⟨n - 1, by omega, k + 1, by omega, hi, by simp [keep_mk, go_sem, Nat.reduceLT, Nat.reduceAdd, Nat.reduceEqDiff, Nat.reduceLeDiff, Nat.reduceSub, Nat.reduceMul, Int.reduceEq, eq_self, reduceIte]⟩
      · rw [if_pos hpk] at hi
        simp only [go_sem, Nat.reduceLT, Nat.reduceAdd, Nat.reduceEqDiff, Nat.reduceLeDiff, Nat.reduceSub, Nat.reduceMul, Int.reduceEq, eq_self, reduceIte]
        refine ret_scal hx rfl hc.kept ?_
        simp [go_sem, Nat.reduceLT, Nat.reduceAdd, Nat.reduceEqDiff, Nat.reduceLeDiff, Nat.reduceSub, Nat.reduceMul, Int.reduceEq, eq_self, reduceIte, L41, R41, hi]
    · have : l.drop k = [] := List.drop_eq_nil_of_le (by omega)
      rw [this] at hi
      simp only [go_sem, Nat.reduceLT, Nat.reduceAdd, Nat.reduceEqDiff, Nat.reduceLeDiff, Nat.reduceSub, Nat.reduceMul, Int.reduceEq, eq_self, reduceIte, hlt]
      refine ret_scal hx rfl hc.kept ?_
      simp [go_sem, Nat.reduceLT, Nat.reduceAdd, Nat.reduceEqDiff, Nat.reduceLeDiff, Nat.reduceSub, Nat.reduceMul, Int.reduceEq, eq_self, reduceIte, L41, R41, ← hi, idxF]
theorem idxF_find {α : Type} [Inhabited α] (p : α → Bool) (l : List α) : (idxF p l 0 < 0 ∧ l.find? p = none) ∨ ∃ j, j < l.length ∧ idxF p l 0 = (j : Int) ∧ l.find? p = some (nth l j) := by
  have key : ∀ (l : List α) (k : Nat), (idxF p l k < 0 ∧ l.find? p = none) ∨ ∃ j, j < l.length ∧ idxF p l k = ((k + j : Nat) : Int) ∧ l.find? p = some (nth l j) := by
    intro l
    induction l with
    | nil => intro k; exact .inl ⟨by simp [idxF], rfl⟩
    | cons y l ih =>
      intro k
      cases hy : p y
      · rcases ih (k + 1) with ⟨h1, h2⟩ | ⟨j, h1, h2, h3⟩
        · exact .inl ⟨by rw [idxF, if_neg (by simp [hy])]; exact h1, by rw [List.find?_cons, hy]; exact h2⟩
        · exact .inr ⟨j + 1, by simp; omega, by rw [idxF, if_neg (by simp [hy]), h2]; congr 1; omega, by rw [List.find?_cons, hy]; exact h3⟩
      · exact .inr ⟨0, by simp, by rw [idxF, if_pos hy]; simp, by rw [List.find?_cons, hy]; rfl⟩
  rcases key l 0 with h | ⟨j, h1, h2, h3⟩
  · exact .inl h
  · exact .inr ⟨j, h1, by rw [h2, Nat.zero_add], h3⟩
theorem grp1_len (out : List KV) (o : ByteArray × ByteArray) : (grp1 out o).length ≤ out.length + 1 := by
  unfold grp1
  split
  · split
    · split
      · omega
      · rename_i p hp _ _
        have : out ≠ [] := by intro e; rw [e] at hp; simp at hp
        have := List.length_pos_iff.2 this
        simp
        try omega
    · simp
  · simp
theorem grpL_len (l : List (ByteArray × ByteArray)) : (grpL l).length ≤ l.length := by
  have key : ∀ (l : List (ByteArray × ByteArray)) (out : List KV), (l.foldl grp1 out).length ≤ out.length + l.length := by
    intro l
    induction l with
    | nil => intro out; simp
    | cons o l ih => intro out; have a := ih (grp1 out o); have b := grp1_len out o; simp only [List.foldl_cons, List.length_cons]; omega
  have := key l []
  simpa [grpL] using this
theorem rawL_len (l : List Entry) (c : Int) : (rawL l c).length ≤ l.length := by
  have a := grpL_len ((sortF (standsL l c)).map FOp.kv)
  have b := (sortF_spec (standsL l c)).1.length_eq
  have d := stands_len l c
  rw [List.length_map] at a
  unfold rawL; omega
theorem get_meets (l : List Entry) (c : Int) (k : ByteArray) (hl : l.length ≤ 9223372036854775806) (hk : k.size ≤ 1000000000000000) : Meets Tryz.prog 10 [.list (l.map cE), .int .i64 c, .str k] [] (.tup [.list ((getL l c k).map cStr), .int .i64 (getErr l c k)]) [] := by
  refine Meets.of_walk Tryz.func10 Tryz.ntmps10 low10 res10 (by simp) fun x hx => ?_
  simp only [go_sem, Nat.reduceLT, Nat.reduceAdd, Nat.reduceEqDiff, Nat.reduceLeDiff, Nat.reduceSub, Nat.reduceMul, Int.reduceEq, eq_self, reduceIte, L10, R10]
  refine ops_call (.pureE (map_meets l c hl) (by simp [go_sem, Nat.reduceLT, Nat.reduceAdd, Nat.reduceEqDiff, Nat.reduceLeDiff, Nat.reduceSub, Nat.reduceMul, Int.reduceEq, eq_self, reduceIte])) ?_
  by_cases h1 : mapErr l c = 0
  · simp only [go_sem, Nat.reduceLT, Nat.reduceAdd, Nat.reduceEqDiff, Nat.reduceLeDiff, Nat.reduceSub, Nat.reduceMul, Int.reduceEq, eq_self, reduceIte, h1]
    refine ops_call (.pureE (word_meets k hk) (by simp [go_sem, Nat.reduceLT, Nat.reduceAdd, Nat.reduceEqDiff, Nat.reduceLeDiff, Nat.reduceSub, Nat.reduceMul, Int.reduceEq, eq_self, reduceIte])) ?_
    have hmL : mapL l c = rawL l c := by rw [mapL, if_pos h1]
    cases h2 : wordS k
    · have he : getErr l c k = 1 := by simp [getErr, h1, h2]
      simp only [go_sem, Nat.reduceLT, Nat.reduceAdd, Nat.reduceEqDiff, Nat.reduceLeDiff, Nat.reduceSub, Nat.reduceMul, Int.reduceEq, eq_self, reduceIte, Int.ofNat_zero, Int.natCast_one, Int.cast_ofNat_Int, Int.reduceLT, Int.reduceLE, Int.reduceToNat, Nat.reduceLT, Int.toNat_zero, Int.natCast_zero, Int.le_refl, Int.lt_irrefl, Int.reduceAdd, frz, false_or, or_true]
      refine ret_pure hx ?_
      simp [go_sem, Nat.reduceLT, Nat.reduceAdd, Nat.reduceEqDiff, Nat.reduceLeDiff, Nat.reduceSub, Nat.reduceMul, Int.reduceEq, eq_self, reduceIte, L10, R10, he, getL]
    · have he : getErr l c k = 0 := by simp [getErr, h1, h2]
      have hle := rawL_len l c
      have hix := indexPr_meets (rawL l c) 42 [.rptr [.str k]] [] (fun p => decide (p.1 = k)) (by kernel_rfl) (by omega) (closedCaps (by simp [renLeaf]) (by simp [ren, renT, renCell, renLeaf])) (fun p _ => getC_meets p k)
      simp only [go_sem, Nat.reduceLT, Nat.reduceAdd, Nat.reduceEqDiff, Nat.reduceLeDiff, Nat.reduceSub, Nat.reduceMul, Int.reduceEq, eq_self, reduceIte, Int.ofNat_zero, Int.natCast_one, Int.cast_ofNat_Int, Int.reduceLT, Int.reduceLE, Int.reduceToNat, Nat.reduceLT, Int.toNat_zero, Int.natCast_zero, Int.le_refl, Int.lt_irrefl, Int.reduceAdd, frz, false_or, or_true, hmL]
      refine ops_call (.lookE hix rfl (by simp [go_sem, Nat.reduceLT, Nat.reduceAdd, Nat.reduceEqDiff, Nat.reduceLeDiff, Nat.reduceSub, Nat.reduceMul, Int.reduceEq, eq_self, reduceIte, lookF, lookN])) ?_
      rcases idxF_find (fun p : KV => decide (p.1 = k)) (rawL l c) with ⟨g1, g2⟩ | ⟨j, g1, g2, g3⟩
      · have g1' : (idxF (fun p : KV => decide (p.1 = k)) (rawL l c) 0 < 0) = True := eq_true g1
        simp only [go_sem, Nat.reduceLT, Nat.reduceAdd, Nat.reduceEqDiff, Nat.reduceLeDiff, Nat.reduceSub, Nat.reduceMul, Int.reduceEq, eq_self, reduceIte, Int.ofNat_zero, Int.natCast_one, Int.cast_ofNat_Int, Int.reduceLT, Int.reduceLE, Int.reduceToNat, Nat.reduceLT, Int.toNat_zero, Int.natCast_zero, Int.le_refl, Int.lt_irrefl, Int.reduceAdd, frz, false_or, or_true, g1']
        refine ret_pure hx ?_
        simp [go_sem, Nat.reduceLT, Nat.reduceAdd, Nat.reduceEqDiff, Nat.reduceLeDiff, Nat.reduceSub, Nat.reduceMul, Int.reduceEq, eq_self, reduceIte, L10, R10, he, getL, valsIn, g2]
      · have g4 : ((j : Int) < 0) = False := eq_false (by omega)
        have g5 : (rawL l c)[j]? = some (nth (rawL l c) j) := nth_get? _ _ g1
        simp only [go_sem, Nat.reduceLT, Nat.reduceAdd, Nat.reduceEqDiff, Nat.reduceLeDiff, Nat.reduceSub, Nat.reduceMul, Int.reduceEq, eq_self, reduceIte, Int.ofNat_zero, Int.natCast_one, Int.cast_ofNat_Int, Int.reduceLT, Int.reduceLE, Int.reduceToNat, Nat.reduceLT, Int.toNat_zero, Int.natCast_zero, Int.le_refl, Int.lt_irrefl, Int.reduceAdd, frz, false_or, or_true, g2, g4, g1, g5, cPair, List.getElem?_map, Option.map_some, List.length_map]
        refine ret_pure hx ?_
        simp [go_sem, Nat.reduceLT, Nat.reduceAdd, Nat.reduceEqDiff, Nat.reduceLeDiff, Nat.reduceSub, Nat.reduceMul, Int.reduceEq, eq_self, reduceIte, L10, R10, he, getL, valsIn, g3]
  · have he : getErr l c k = mapErr l c := by simp [getErr, h1]
    simp only [go_sem, Nat.reduceLT, Nat.reduceAdd, Nat.reduceEqDiff, Nat.reduceLeDiff, Nat.reduceSub, Nat.reduceMul, Int.reduceEq, eq_self, reduceIte, h1]
    refine ret_pure hx ?_
    simp [go_sem, Nat.reduceLT, Nat.reduceAdd, Nat.reduceEqDiff, Nat.reduceLeDiff, Nat.reduceSub, Nat.reduceMul, Int.reduceEq, eq_self, reduceIte, L10, R10, he, h1, getL]
end Go.Proofs.YtfdolehffjmdmaaGreatDoor
/- What a text does, told by its pieces: plain laws. -/
namespace Go.Proofs.YtfdolehffjmdmaaGreatDoor
open Go.RowKit
def spL : List UInt8 → List (List UInt8)
  | [] => [[]]
  | c :: l => if c = 32 then [] :: spL l else match spL l with
    | [] => [[c]]
    | p :: ps => (c :: p) :: ps
theorem spL_ne (l : List UInt8) : spL l ≠ [] := by
  cases l with
  | nil => simp [spL]
  | cons c l =>
    unfold spL
    split
    · simp
    · split <;> simp
theorem splitK_sp : ∀ (l : List UInt8), Lib.splitK [32] 0 (l.count 32) l = spL l := by
  intro l
  induction l with
  | nil => rfl
  | cons c l ih =>
    by_cases hc : c = 32
    · subst hc
      rw [List.count_cons_self, spL, if_pos rfl, ← ih]
      have h0 : Lib.index (32 :: l) [32] = 0 := by rw [Lib.index_one]; simp [Lib.indexByte]
      rw [Lib.splitK, h0]
      simp
    · rw [List.count_cons_of_ne (by simpa using hc), spL, if_neg hc, ← ih]
      cases hk : l.count 32 with
      | zero => simp [Lib.splitK]
      | succ k =>
        have hi : Lib.index (c :: l) [32] = if Lib.index l [32] = -1 then -1 else Lib.index l [32] + 1 := by
          rw [Lib.index_one, Lib.index_one]
          conv => lhs; unfold Lib.indexByte
          simp [hc]
        rw [Lib.splitK, Lib.splitK, hi]
        have hge : -1 ≤ Lib.index l [32] := by rw [Lib.index_one]; exact Lib.indexByte_ge _ _
        by_cases hm : Lib.index l [32] = -1
        · simp [hm]
        · obtain ⟨i, hi⟩ : ∃ i : Nat, Lib.index l [32] = i := ⟨(Lib.index l [32]).toNat, by omega⟩
          have h1 : ((i : Int) = -1) = False := eq_false (by omega)
          have h2 : ((i : Int) + 1 = -1) = False := eq_false (by omega)
          have h3 : ((i : Int) + 1).toNat = i + 1 := by omega
          simp [hi, h1, h2, h3]
theorem pieces_data (s : ByteArray) : (piecesS s).map (·.data.toList) = spL s.data.toList := by
  rw [piecesS, Lib.splitB_data, ← splitK_sp]
  have e : Lib.countB s spB = s.data.toList.count 32 := by
    show Lib.count s.data.toList [32] = _
    rw [Lib.count_one]
  rw [e]
  rfl
theorem spL_no {a : List UInt8} (h : (32 : UInt8) ∉ a) : spL a = [a] := by
  induction a with
  | nil => rfl
  | cons c a ih =>
    have hc : c ≠ 32 := fun e => h (by rw [e]; exact List.mem_cons_self)
    rw [spL, if_neg hc, ih (fun q => h (List.mem_cons_of_mem _ q))]
theorem spL_app {a r : List UInt8} (h : (32 : UInt8) ∉ a) : spL (a ++ 32 :: r) = a :: spL r := by
  induction a with
  | nil => simp [spL]
  | cons c a ih =>
    have hc : c ≠ 32 := fun e => h (by rw [e]; exact List.mem_cons_self)
    rw [List.cons_append, spL, if_neg hc, ih (fun q => h (List.mem_cons_of_mem _ q))]
theorem spL_inv : ∀ {l p : List UInt8} {ps : List (List UInt8)}, spL l = p :: ps → (32 : UInt8) ∉ p ∧ (ps = [] ∧ l = p ∨ ∃ r, l = p ++ 32 :: r ∧ spL r = ps) := by
  intro l
  induction l with
  | nil =>
    intro p ps h
    simp only [spL, List.cons.injEq] at h
    obtain ⟨rfl, rfl⟩ := h
    exact ⟨by simp, .inl ⟨rfl, rfl⟩⟩
  | cons c l ih =>
    intro p ps h
    rw [spL] at h
    split at h
    · rename_i hc
      simp only [List.cons.injEq] at h
      obtain ⟨rfl, h⟩ := h
      exact ⟨by simp, .inr ⟨l, by rw [hc]; rfl, h⟩⟩
    · rename_i hc
      cases hs : spL l with
      | nil => exact (spL_ne l hs).elim
      | cons q qs =>
        rw [hs] at h
        simp only [List.cons.injEq] at h
        obtain ⟨rfl, rfl⟩ := h
        obtain ⟨h1, h2⟩ := ih hs
        refine ⟨fun hm => ?_, ?_⟩
        · rcases List.mem_cons.1 hm with e | e
          · exact hc e.symm
          · exact h1 e
        · rcases h2 with ⟨e1, e2⟩ | ⟨r, e1, e2⟩
          · exact .inl ⟨e1, by rw [e2]⟩
          · exact .inr ⟨r, by rw [e1]; rfl, e2⟩
theorem word_no {s : ByteArray} (h : wordS s = true) : (32 : UInt8) ∉ s.data.toList := by
  intro hm
  simp only [wordS, wordL, Bool.and_eq_true, List.all_eq_true] at h
  have := h.1.1 _ hm
  revert this; decide
theorem word_len {s : ByteArray} (h : wordS s = true) : 1 ≤ s.size ∧ s.size ≤ 3 := by
  simp only [wordS, wordL, Bool.and_eq_true, decide_eq_true_eq, sz_list] at h
  exact ⟨h.1.2, h.2⟩
theorem ba_ext {a b : ByteArray} (h : a.data.toList = b.data.toList) : a = b := by
  apply ByteArray.ext
  exact Array.toList_inj.1 h
theorem ext_list (s : ByteArray) (i j : Nat) : (s.extract i j).data.toList = (s.data.toList.take j).drop i := by
  simp [ByteArray.data_extract, Array.toList_extract, List.extract_eq_take_drop, List.drop_take]
theorem map_data_inj : ∀ {a b : List ByteArray}, a.map (·.data.toList) = b.map (·.data.toList) → a = b := by
  intro a
  induction a with
  | nil => intro b h; cases b with
    | nil => rfl
    | cons => simp at h
  | cons x a ih => intro b h; cases b with
    | nil => simp at h
    | cons y b =>
      simp only [List.map_cons, List.cons.injEq] at h
      rw [ba_ext h.1, ih h.2]
theorem pieces_of {s : ByteArray} {l : List ByteArray} (h : spL s.data.toList = l.map (·.data.toList)) : piecesS s = l := map_data_inj (by rw [pieces_data, h])
def putSpB : ByteArray := ⟨#[112, 117, 116, 32]⟩
def dropSpB : ByteArray := ⟨#[100, 114, 111, 112, 32]⟩
def DropC (s : ByteArray) : Prop := 5 < s.size ∧ s.extract 0 5 = dropSpB ∧ wordS (s.extract 5 s.size) = true
def PutC (s : ByteArray) (i : Nat) : Prop := 4 < s.size ∧ s.extract 0 4 = putSpB ∧ 5 ≤ i ∧ s[i]? = some 32 ∧ wordS (s.extract 4 i) = true ∧ wordS (s.extract (i + 1) s.size) = true
theorem drop_list {s : ByteArray} (h2 : s.extract 0 5 = dropSpB) : s.data.toList = dropB.data.toList ++ 32 :: (s.extract 5 s.size).data.toList := by
  have e1 : (s.data.toList.take 5).drop 0 = dropSpB.data.toList := by rw [← ext_list, h2]
  rw [ext_list, List.take_of_length_le (by rw [sz_list]; exact Nat.le_refl _)]
  rw [List.drop_zero] at e1
  conv => lhs; rw [← List.take_append_drop 5 s.data.toList, e1]
  rfl
theorem op_drop {s : ByteArray} (h : DropC s) : opOf s = (2, s.extract 5 s.size, ⟨#[]⟩) := by
  obtain ⟨h1, h2, h3⟩ := h
  have hp : piecesS s = [dropB, s.extract 5 s.size] := pieces_of (by
    rw [drop_list h2, spL_app (by decide), spL_no (word_no h3)]; rfl)
  rw [opOf, hp]
  simp [h3]
theorem put_list {s : ByteArray} {i : Nat} (h : PutC s i) : s.data.toList = putB.data.toList ++ 32 :: ((s.extract 4 i).data.toList ++ 32 :: (s.extract (i + 1) s.size).data.toList) := by
  obtain ⟨h1, h2, h3, h4, -, -⟩ := h
  have hi : i < s.size := by
    rcases Nat.lt_or_ge i s.size with h | h
    · exact h
    · rw [getElem?_neg s i (by omega)] at h4; cases h4
  have e1 : (s.data.toList.take 4).drop 0 = putSpB.data.toList := by rw [← ext_list, h2]
  rw [ext_list, ext_list, List.take_of_length_le (l := s.data.toList) (i := s.size) (by rw [sz_list]; exact Nat.le_refl _)]
  rw [List.drop_zero] at e1
  have hgi : s.data.toList[i]? = some 32 := by rw [byte_list hi, ← byte_get hi]; exact h4
  have hd : s.data.toList.drop i = 32 :: s.data.toList.drop (i + 1) := by
    have hl : i < s.data.toList.length := by rw [sz_list]; exact hi
    rw [List.drop_eq_getElem_cons hl]
    rw [List.getElem?_eq_getElem hl] at hgi
    rw [Option.some.inj hgi]
  have hm : s.data.toList.drop 4 = (s.data.toList.take i).drop 4 ++ s.data.toList.drop i := by
    conv => lhs; rw [← List.take_append_drop i s.data.toList]
    rw [List.drop_append_of_le_length (by rw [List.length_take, sz_list]; omega)]
  rw [← hd, ← hm]
  conv => lhs; rw [← List.take_append_drop 4 s.data.toList, e1]
  rfl
theorem op_put {s : ByteArray} {i : Nat} (h : PutC s i) : opOf s = (1, s.extract 4 i, s.extract (i + 1) s.size) := by
  have hl := put_list h
  obtain ⟨-, -, -, -, h5, h6⟩ := h
  have hp : piecesS s = [putB, s.extract 4 i, s.extract (i + 1) s.size] := pieces_of (by
    rw [hl, spL_app (by decide), spL_app (word_no h5), spL_no (word_no h6)]; rfl)
  rw [opOf, hp]
  simp [h5, h6]
theorem op_none {s : ByteArray} (h1 : ¬ DropC s) (h2 : ∀ i, ¬ PutC s i) : opOf s = (0, ⟨#[]⟩, ⟨#[]⟩) := by
  have hd := pieces_data s
  rw [opOf]
  split
  · rename_i a b c hp
    rw [hp] at hd
    split
    · rename_i hc
      obtain ⟨rfl, hb, hcw⟩ := hc
      exfalso
      simp only [List.map_cons, List.map_nil] at hd
      obtain ⟨-, q | ⟨r, e1, e2⟩⟩ := spL_inv hd.symm
      · simp at q
      obtain ⟨-, q | ⟨r2, e3, e4⟩⟩ := spL_inv e2
      · simp at q
      obtain ⟨-, q | ⟨r3, e5, e6⟩⟩ := spL_inv e4
      · obtain ⟨-, rfl⟩ := q
        have hs : s.data.toList = [112, 117, 116, 32] ++ (b.data.toList ++ 32 :: c.data.toList) := by rw [e1, e3]; rfl
        have hz : s.size = 4 + (b.size + (1 + c.size)) := by rw [← sz_list, hs]; simp [sz_list]; omega
        have lb := word_len hb
        have lc := word_len hcw
        refine h2 (4 + b.size) ⟨by omega, ba_ext ?_, by omega, ?_, ?_, ?_⟩
        · rw [ext_list, hs]; rfl
        · have hi : 4 + b.size < s.size := by omega
          rw [byte_get hi, ← byte_list hi, hs, List.getElem?_append_right (by simp), List.getElem?_append_right (by simp [sz_list])]
          simp [sz_list]
        · rw [show s.extract 4 (4 + b.size) = b from ba_ext (by
            rw [ext_list, hs, ← List.append_assoc, List.take_left' (by simp [sz_list]; omega)]
            rfl)]
          exact hb
        · rw [show s.extract (4 + b.size + 1) s.size = c from ba_ext (by
            rw [ext_list, List.take_of_length_le (by rw [sz_list]; exact Nat.le_refl _), hs, show (32 :: c.data.toList) = [32] ++ c.data.toList from rfl, ← List.append_assoc, ← List.append_assoc, List.drop_left' (by simp [sz_list]; omega)])]
          exact hcw
      · exact (spL_ne _ e6).elim
    · rfl
  · rename_i a b hp
    rw [hp] at hd
    split
    · rename_i hc
      obtain ⟨rfl, hb⟩ := hc
      exfalso
      simp only [List.map_cons, List.map_nil] at hd
      obtain ⟨-, q | ⟨r, e1, e2⟩⟩ := spL_inv hd.symm
      · simp at q
      obtain ⟨-, q | ⟨r2, e3, e4⟩⟩ := spL_inv e2
      · obtain ⟨-, rfl⟩ := q
        have hs : s.data.toList = [100, 114, 111, 112, 32] ++ b.data.toList := by rw [e1]; rfl
        have hz : s.size = 5 + b.size := by rw [← sz_list, hs]; simp [sz_list]; omega
        have lb := word_len hb
        refine h1 ⟨by omega, ba_ext ?_, ?_⟩
        · rw [ext_list, hs]; rfl
        · rw [show s.extract 5 s.size = b from ba_ext (by
            rw [ext_list, List.take_of_length_le (by rw [sz_list]; exact Nat.le_refl _), hs]; rfl)]
          exact hb
      · exact (spL_ne _ e4).elim
    · rfl
  · rfl
end Go.Proofs.YtfdolehffjmdmaaGreatDoor
/- What a text does, in the law text's words (OpOf). -/
namespace Go.Proofs.YtfdolehffjmdmaaGreatDoor
set_option linter.unusedSimpArgs false
set_option linter.unusedVariables false
open Go.RowKit
def cOp3 (o : Int × ByteArray × ByteArray) : List PV := [.int .i64 o.1, .str o.2.1, .str o.2.2]
theorem byte_eq {c : UInt8} : ((c.toNat : Int) = 32) ↔ c = 32 := by
  constructor
  · intro h
    apply UInt8.toNat.inj
    have : c.toNat = 32 := by omega
    rw [this]; rfl
  · rintro rfl; rfl
theorem ext_size_le (s : ByteArray) (i j : Nat) : (s.extract i j).size ≤ s.size := by rw [ByteArray.size_extract]; omega
set_option maxRecDepth 10000 in
set_option maxHeartbeats 4000000 in
theorem opOf_meets (s : ByteArray) (hs : s.size ≤ 1000000000000000) : Meets Tryz.prog 16 [.str s] [] (.tup (cOp3 (opOf s))) [] := by
  refine Meets.of_walk Tryz.func16 Tryz.ntmps16 low16 res16 (by simp) fun x hx => ?_
  simp only [go_sem, Nat.reduceLT, Nat.reduceAdd, Nat.reduceEqDiff, Nat.reduceLeDiff, Nat.reduceSub, Nat.reduceMul, Int.reduceEq, eq_self, reduceIte, L16, R16]
  by_cases h5 : (5 : Int) < (s.size : Int)
  · have e5 : ((5 : Int) ≤ (s.size : Int)) = True := eq_true (by omega)
    by_cases hd : s.extract 0 5 = dropSpB
    · have hd' : (s.extract 0 5 = (⟨#[100, 114, 111, 112, 32]⟩ : ByteArray)) = True := eq_true hd
      simp only [go_sem, Nat.reduceLT, Nat.reduceAdd, Nat.reduceEqDiff, Nat.reduceLeDiff, Nat.reduceSub, Nat.reduceMul, Int.reduceEq, eq_self, reduceIte, Int.ofNat_zero, Int.natCast_one, Int.cast_ofNat_Int, Int.reduceLT, Int.reduceLE, Int.reduceToNat, Nat.reduceLT, Int.toNat_zero, Int.natCast_zero, Int.le_refl, Int.lt_irrefl, Int.reduceAdd, frz, false_or, or_true, h5, e5, hd']
      refine ops_call (.pure (isWord_meets _ (by have := ext_size_le s 5 s.size; omega))) ?_
      cases hw : wordS (s.extract 5 s.size)
      · have hnd : ¬ DropC s := fun h => by rw [h.2.2] at hw; cases hw
        simp only [go_sem, Nat.reduceLT, Nat.reduceAdd, Nat.reduceEqDiff, Nat.reduceLeDiff, Nat.reduceSub, Nat.reduceMul, Int.reduceEq, eq_self, reduceIte, Int.ofNat_zero, Int.natCast_one, Int.cast_ofNat_Int, Int.reduceLT, Int.reduceLE, Int.reduceToNat, Nat.reduceLT, Int.toNat_zero, Int.natCast_zero, Int.le_refl, Int.lt_irrefl, Int.reduceAdd, frz, false_or, or_true]
        by_cases h4 : (4 : Int) < (s.size : Int)
        · have e0 : ((4 : Int) ≤ (s.size : Int)) = True := eq_true (by omega)
          by_cases hp : s.extract 0 4 = putSpB
          · have hp' : (s.extract 0 4 = (⟨#[112, 117, 116, 32]⟩ : ByteArray)) = True := eq_true hp
            simp only [go_sem, Nat.reduceLT, Nat.reduceAdd, Nat.reduceEqDiff, Nat.reduceLeDiff, Nat.reduceSub, Nat.reduceMul, Int.reduceEq, eq_self, reduceIte, Int.ofNat_zero, Int.natCast_one, Int.cast_ofNat_Int, Int.reduceLT, Int.reduceLE, Int.reduceToNat, Nat.reduceLT, Int.toNat_zero, Int.natCast_zero, Int.le_refl, Int.lt_irrefl, Int.reduceAdd, frz, false_or, or_true, h4, e0, hp', Nat.reduceLeDiff]
            refine loop_inv [0, 5] 0 (fun m st => ∃ k : Nat, k + m = s.size ∧ 5 ≤ k ∧ (∀ j, j < k → ¬ PutC s j) ∧
              st = ⟨mkE .top [(0, .str s), (5, .int .i64 k)], []⟩) (s.size - 5) (by simp [hx]) (by simp) ?_ ?_
            · refine ⟨5, by omega, by omega, fun j hj h => by have := h.2.2.1; omega, ?_⟩
              simp [trim_mk, go_sem, Nat.reduceLT, Nat.reduceAdd, Nat.reduceEqDiff, Nat.reduceLeDiff, Nat.reduceSub, Nat.reduceMul, Int.reduceEq, eq_self, reduceIte, subHeap, renObj, pos, List.range_succ]
            · rintro m st ⟨k, hk, hk5, hno, rfl⟩
              by_cases hlt : k < s.size
              · have hg := byte_get hlt
                have wk := i64_up (k := k) (by omega)
                have c1 : ((4 : Int) ≤ (k : Int)) = True := eq_true (by omega)
                have c2 : ((k : Int) ≤ (s.size : Int)) = True := eq_true (by omega)
                have c3 : ((k + 1 : Nat) : Int) ≤ (s.size : Int) := by omega
                have c4 : (0 : Int) ≤ ((k + 1 : Nat) : Int) := by omega
                have hstep : ¬ PutC s k → ∀ j, j < k + 1 → ¬ PutC s j := fun h j hj => by
                  by_cases e : j = k
                  · rw [e]; exact h
                  · exact hno j (by omega)
                by_cases hb : s[k] = 32
                · have hb' : (((s[k]).toNat : Int) = 32) = True := eq_true (byte_eq.2 hb)
                  simp only [go_sem, Nat.reduceLT, Nat.reduceAdd, Nat.reduceEqDiff, Nat.reduceLeDiff, Nat.reduceSub, Nat.reduceMul, Int.reduceEq, eq_self, reduceIte, Int.ofNat_zero, Int.natCast_one, Int.cast_ofNat_Int, Int.reduceLT, Int.reduceLE, Int.reduceToNat, Nat.reduceLT, Int.toNat_zero, Int.natCast_zero, Int.le_refl, Int.lt_irrefl, Int.reduceAdd, frz, false_or, or_true, hlt, hg, hb', c1, c2]
                  refine ops_call (.pure (isWord_meets _ (by have := ext_size_le s 4 k; omega))) ?_
                  cases hw1 : wordS (s.extract 4 k)
                  · simp only [go_sem, Nat.reduceLT, Nat.reduceAdd, Nat.reduceEqDiff, Nat.reduceLeDiff, Nat.reduceSub, Nat.reduceMul, Int.reduceEq, eq_self, reduceIte, Int.ofNat_zero, Int.natCast_one, Int.cast_ofNat_Int, Int.reduceLT, Int.reduceLE, Int.reduceToNat, Nat.reduceLT, Int.toNat_zero, Int.natCast_zero, Int.le_refl, Int.lt_irrefl, Int.reduceAdd, frz, false_or, or_true, wk]
                    refine ⟨by simp, m - 1, by omega, k + 1, by omega, by omega, hstep (fun h => by rw [h.2.2.2.2.1] at hw1; cases hw1), ?_⟩
                    simp [trim_mk, go_sem, Nat.reduceLT, Nat.reduceAdd, Nat.reduceEqDiff, Nat.reduceLeDiff, Nat.reduceSub, Nat.reduceMul, Int.reduceEq, eq_self, reduceIte, subHeap, renObj, pos, List.range_succ]
                  · simp only [go_sem, Nat.reduceLT, Nat.reduceAdd, Nat.reduceEqDiff, Nat.reduceLeDiff, Nat.reduceSub, Nat.reduceMul, Int.reduceEq, eq_self, reduceIte, Int.ofNat_zero, Int.natCast_one, Int.cast_ofNat_Int, Int.reduceLT, Int.reduceLE, Int.reduceToNat, Nat.reduceLT, Int.toNat_zero, Int.natCast_zero, Int.le_refl, Int.lt_irrefl, Int.reduceAdd, frz, false_or, or_true, wk, c3, c4, Int.toNat_natCast]
                    refine ops_call (.pure (isWord_meets _ (by have := ext_size_le s (k + 1) s.size; omega))) ?_
                    cases hw2 : wordS (s.extract (k + 1) s.size)
                    · simp only [go_sem, Nat.reduceLT, Nat.reduceAdd, Nat.reduceEqDiff, Nat.reduceLeDiff, Nat.reduceSub, Nat.reduceMul, Int.reduceEq, eq_self, reduceIte, Int.ofNat_zero, Int.natCast_one, Int.cast_ofNat_Int, Int.reduceLT, Int.reduceLE, Int.reduceToNat, Nat.reduceLT, Int.toNat_zero, Int.natCast_zero, Int.le_refl, Int.lt_irrefl, Int.reduceAdd, frz, false_or, or_true, wk]
                      refine ⟨by simp, m - 1, by omega, k + 1, by omega, by omega, hstep (fun h => by rw [h.2.2.2.2.2] at hw2; cases hw2), ?_⟩
                      simp [trim_mk, go_sem, Nat.reduceLT, Nat.reduceAdd, Nat.reduceEqDiff, Nat.reduceLeDiff, Nat.reduceSub, Nat.reduceMul, Int.reduceEq, eq_self, reduceIte, subHeap, renObj, pos, List.range_succ]
                    · have hP : PutC s k := ⟨by omega, hp, hk5, by rw [hg, hb], hw1, hw2⟩
                      simp only [go_sem, Nat.reduceLT, Nat.reduceAdd, Nat.reduceEqDiff, Nat.reduceLeDiff, Nat.reduceSub, Nat.reduceMul, Int.reduceEq, eq_self, reduceIte, Int.ofNat_zero, Int.natCast_one, Int.cast_ofNat_Int, Int.reduceLT, Int.reduceLE, Int.reduceToNat, Nat.reduceLT, Int.toNat_zero, Int.natCast_zero, Int.le_refl, Int.lt_irrefl, Int.reduceAdd, frz, false_or, or_true, wk, c1, c2, c3, c4, Int.toNat_natCast]
                      repeat refine ⟨rfl, ?_⟩
                      refine ret_pure hx ?_
                      rw [op_put hP]
                      simp [go_sem, Nat.reduceLT, Nat.reduceAdd, Nat.reduceEqDiff, Nat.reduceLeDiff, Nat.reduceSub, Nat.reduceMul, Int.reduceEq, eq_self, reduceIte, L16, R16, cOp3]
                · have hb' : (((s[k]).toNat : Int) = 32) = False := eq_false (fun h => hb (byte_eq.1 h))
                  simp only [go_sem, Nat.reduceLT, Nat.reduceAdd, Nat.reduceEqDiff, Nat.reduceLeDiff, Nat.reduceSub, Nat.reduceMul, Int.reduceEq, eq_self, reduceIte, Int.ofNat_zero, Int.natCast_one, Int.cast_ofNat_Int, Int.reduceLT, Int.reduceLE, Int.reduceToNat, Nat.reduceLT, Int.toNat_zero, Int.natCast_zero, Int.le_refl, Int.lt_irrefl, Int.reduceAdd, frz, false_or, or_true, hlt, hg, hb', wk]
                  refine ⟨by simp, m - 1, by omega, k + 1, by omega, by omega, hstep (fun h => by have := h.2.2.2.1; rw [hg] at this; exact hb (Option.some.inj this)), ?_⟩
                  simp [trim_mk, go_sem, Nat.reduceLT, Nat.reduceAdd, Nat.reduceEqDiff, Nat.reduceLeDiff, Nat.reduceSub, Nat.reduceMul, Int.reduceEq, eq_self, reduceIte, subHeap, renObj, pos, List.range_succ]
              · have hall : ∀ j, ¬ PutC s j := fun j h => by
                  by_cases e : j < k
                  · exact hno j e h
                  · have := h.2.2.2.1
                    rw [getElem?_neg s j (by omega)] at this
                    cases this
                simp only [go_sem, Nat.reduceLT, Nat.reduceAdd, Nat.reduceEqDiff, Nat.reduceLeDiff, Nat.reduceSub, Nat.reduceMul, Int.reduceEq, eq_self, reduceIte, Int.ofNat_zero, Int.natCast_one, Int.cast_ofNat_Int, Int.reduceLT, Int.reduceLE, Int.reduceToNat, Nat.reduceLT, Int.toNat_zero, Int.natCast_zero, Int.le_refl, Int.lt_irrefl, Int.reduceAdd, frz, false_or, or_true, hlt]
                try simp only [go_sem, Nat.reduceLT, Nat.reduceAdd, Nat.reduceEqDiff, Nat.reduceLeDiff, Nat.reduceSub, Nat.reduceMul, Int.reduceEq, eq_self, reduceIte, Int.ofNat_zero, Int.natCast_one, Int.cast_ofNat_Int, Int.reduceLT, Int.reduceLE, Int.reduceToNat, Nat.reduceLT, Int.toNat_zero, Int.natCast_zero, Int.le_refl, Int.lt_irrefl, Int.reduceAdd, frz, false_or, or_true]
                refine ret_pure hx ?_
                rw [op_none hnd hall]
                simp [go_sem, Nat.reduceLT, Nat.reduceAdd, Nat.reduceEqDiff, Nat.reduceLeDiff, Nat.reduceSub, Nat.reduceMul, Int.reduceEq, eq_self, reduceIte, L16, R16, cOp3]
          · have hp' : (s.extract 0 4 = (⟨#[112, 117, 116, 32]⟩ : ByteArray)) = False := eq_false hp
            simp only [go_sem, Nat.reduceLT, Nat.reduceAdd, Nat.reduceEqDiff, Nat.reduceLeDiff, Nat.reduceSub, Nat.reduceMul, Int.reduceEq, eq_self, reduceIte, Int.ofNat_zero, Int.natCast_one, Int.cast_ofNat_Int, Int.reduceLT, Int.reduceLE, Int.reduceToNat, Nat.reduceLT, Int.toNat_zero, Int.natCast_zero, Int.le_refl, Int.lt_irrefl, Int.reduceAdd, frz, false_or, or_true, h4, e0, hp']
            try simp only [go_sem, Nat.reduceLT, Nat.reduceAdd, Nat.reduceEqDiff, Nat.reduceLeDiff, Nat.reduceSub, Nat.reduceMul, Int.reduceEq, eq_self, reduceIte, Int.ofNat_zero, Int.natCast_one, Int.cast_ofNat_Int, Int.reduceLT, Int.reduceLE, Int.reduceToNat, Nat.reduceLT, Int.toNat_zero, Int.natCast_zero, Int.le_refl, Int.lt_irrefl, Int.reduceAdd, frz, false_or, or_true]
            refine ret_pure hx ?_
            rw [op_none hnd (fun j h => hp h.2.1)]
            simp [go_sem, Nat.reduceLT, Nat.reduceAdd, Nat.reduceEqDiff, Nat.reduceLeDiff, Nat.reduceSub, Nat.reduceMul, Int.reduceEq, eq_self, reduceIte, L16, R16, cOp3]
        · simp only [go_sem, Nat.reduceLT, Nat.reduceAdd, Nat.reduceEqDiff, Nat.reduceLeDiff, Nat.reduceSub, Nat.reduceMul, Int.reduceEq, eq_self, reduceIte, Int.ofNat_zero, Int.natCast_one, Int.cast_ofNat_Int, Int.reduceLT, Int.reduceLE, Int.reduceToNat, Nat.reduceLT, Int.toNat_zero, Int.natCast_zero, Int.le_refl, Int.lt_irrefl, Int.reduceAdd, frz, false_or, or_true, h4]
          try simp only [go_sem, Nat.reduceLT, Nat.reduceAdd, Nat.reduceEqDiff, Nat.reduceLeDiff, Nat.reduceSub, Nat.reduceMul, Int.reduceEq, eq_self, reduceIte, Int.ofNat_zero, Int.natCast_one, Int.cast_ofNat_Int, Int.reduceLT, Int.reduceLE, Int.reduceToNat, Nat.reduceLT, Int.toNat_zero, Int.natCast_zero, Int.le_refl, Int.lt_irrefl, Int.reduceAdd, frz, false_or, or_true]
          refine ret_pure hx ?_
          rw [op_none hnd (fun j h => h4 (by have := h.1; omega))]
          simp [go_sem, Nat.reduceLT, Nat.reduceAdd, Nat.reduceEqDiff, Nat.reduceLeDiff, Nat.reduceSub, Nat.reduceMul, Int.reduceEq, eq_self, reduceIte, L16, R16, cOp3]
      · have hD : DropC s := ⟨by omega, hd, hw⟩
        simp only [go_sem, Nat.reduceLT, Nat.reduceAdd, Nat.reduceEqDiff, Nat.reduceLeDiff, Nat.reduceSub, Nat.reduceMul, Int.reduceEq, eq_self, reduceIte, Int.ofNat_zero, Int.natCast_one, Int.cast_ofNat_Int, Int.reduceLT, Int.reduceLE, Int.reduceToNat, Nat.reduceLT, Int.toNat_zero, Int.natCast_zero, Int.le_refl, Int.lt_irrefl, Int.reduceAdd, frz, false_or, or_true, e5]
        repeat refine ⟨rfl, ?_⟩
        refine ret_pure hx ?_
        rw [op_drop hD]
        simp [go_sem, Nat.reduceLT, Nat.reduceAdd, Nat.reduceEqDiff, Nat.reduceLeDiff, Nat.reduceSub, Nat.reduceMul, Int.reduceEq, eq_self, reduceIte, L16, R16, cOp3]
    · have hd' : (s.extract 0 5 = (⟨#[100, 114, 111, 112, 32]⟩ : ByteArray)) = False := eq_false hd
      have hnd : ¬ DropC s := fun h => hd h.2.1
      simp only [go_sem, Nat.reduceLT, Nat.reduceAdd, Nat.reduceEqDiff, Nat.reduceLeDiff, Nat.reduceSub, Nat.reduceMul, Int.reduceEq, eq_self, reduceIte, Int.ofNat_zero, Int.natCast_one, Int.cast_ofNat_Int, Int.reduceLT, Int.reduceLE, Int.reduceToNat, Nat.reduceLT, Int.toNat_zero, Int.natCast_zero, Int.le_refl, Int.lt_irrefl, Int.reduceAdd, frz, false_or, or_true, h5, e5, hd']
      by_cases h4 : (4 : Int) < (s.size : Int)
      · have e0 : ((4 : Int) ≤ (s.size : Int)) = True := eq_true (by omega)
        by_cases hp : s.extract 0 4 = putSpB
        · have hp' : (s.extract 0 4 = (⟨#[112, 117, 116, 32]⟩ : ByteArray)) = True := eq_true hp
          simp only [go_sem, Nat.reduceLT, Nat.reduceAdd, Nat.reduceEqDiff, Nat.reduceLeDiff, Nat.reduceSub, Nat.reduceMul, Int.reduceEq, eq_self, reduceIte, Int.ofNat_zero, Int.natCast_one, Int.cast_ofNat_Int, Int.reduceLT, Int.reduceLE, Int.reduceToNat, Nat.reduceLT, Int.toNat_zero, Int.natCast_zero, Int.le_refl, Int.lt_irrefl, Int.reduceAdd, frz, false_or, or_true, h4, e0, hp', Nat.reduceLeDiff]
          refine loop_inv [0, 5] 0 (fun m st => ∃ k : Nat, k + m = s.size ∧ 5 ≤ k ∧ (∀ j, j < k → ¬ PutC s j) ∧
            st = ⟨mkE .top [(0, .str s), (5, .int .i64 k)], []⟩) (s.size - 5) (by simp [hx]) (by simp) ?_ ?_
          · refine ⟨5, by omega, by omega, fun j hj h => by have := h.2.2.1; omega, ?_⟩
            simp [trim_mk, go_sem, Nat.reduceLT, Nat.reduceAdd, Nat.reduceEqDiff, Nat.reduceLeDiff, Nat.reduceSub, Nat.reduceMul, Int.reduceEq, eq_self, reduceIte, subHeap, renObj, pos, List.range_succ]
          · rintro m st ⟨k, hk, hk5, hno, rfl⟩
            by_cases hlt : k < s.size
            · have hg := byte_get hlt
              have wk := i64_up (k := k) (by omega)
              have c1 : ((4 : Int) ≤ (k : Int)) = True := eq_true (by omega)
              have c2 : ((k : Int) ≤ (s.size : Int)) = True := eq_true (by omega)
              have c3 : ((k + 1 : Nat) : Int) ≤ (s.size : Int) := by omega
              have c4 : (0 : Int) ≤ ((k + 1 : Nat) : Int) := by omega
              have hstep : ¬ PutC s k → ∀ j, j < k + 1 → ¬ PutC s j := fun h j hj => by
                by_cases e : j = k
                · rw [e]; exact h
                · exact hno j (by omega)
              by_cases hb : s[k] = 32
              · have hb' : (((s[k]).toNat : Int) = 32) = True := eq_true (byte_eq.2 hb)
                simp only [go_sem, Nat.reduceLT, Nat.reduceAdd, Nat.reduceEqDiff, Nat.reduceLeDiff, Nat.reduceSub, Nat.reduceMul, Int.reduceEq, eq_self, reduceIte, Int.ofNat_zero, Int.natCast_one, Int.cast_ofNat_Int, Int.reduceLT, Int.reduceLE, Int.reduceToNat, Nat.reduceLT, Int.toNat_zero, Int.natCast_zero, Int.le_refl, Int.lt_irrefl, Int.reduceAdd, frz, false_or, or_true, hlt, hg, hb', c1, c2]
                refine ops_call (.pure (isWord_meets _ (by have := ext_size_le s 4 k; omega))) ?_
                cases hw1 : wordS (s.extract 4 k)
                · simp only [go_sem, Nat.reduceLT, Nat.reduceAdd, Nat.reduceEqDiff, Nat.reduceLeDiff, Nat.reduceSub, Nat.reduceMul, Int.reduceEq, eq_self, reduceIte, Int.ofNat_zero, Int.natCast_one, Int.cast_ofNat_Int, Int.reduceLT, Int.reduceLE, Int.reduceToNat, Nat.reduceLT, Int.toNat_zero, Int.natCast_zero, Int.le_refl, Int.lt_irrefl, Int.reduceAdd, frz, false_or, or_true, wk]
                  refine ⟨by simp, m - 1, by omega, k + 1, by omega, by omega, hstep (fun h => by rw [h.2.2.2.2.1] at hw1; cases hw1), ?_⟩
                  simp [trim_mk, go_sem, Nat.reduceLT, Nat.reduceAdd, Nat.reduceEqDiff, Nat.reduceLeDiff, Nat.reduceSub, Nat.reduceMul, Int.reduceEq, eq_self, reduceIte, subHeap, renObj, pos, List.range_succ]
                · simp only [go_sem, Nat.reduceLT, Nat.reduceAdd, Nat.reduceEqDiff, Nat.reduceLeDiff, Nat.reduceSub, Nat.reduceMul, Int.reduceEq, eq_self, reduceIte, Int.ofNat_zero, Int.natCast_one, Int.cast_ofNat_Int, Int.reduceLT, Int.reduceLE, Int.reduceToNat, Nat.reduceLT, Int.toNat_zero, Int.natCast_zero, Int.le_refl, Int.lt_irrefl, Int.reduceAdd, frz, false_or, or_true, wk, c3, c4, Int.toNat_natCast]
                  refine ops_call (.pure (isWord_meets _ (by have := ext_size_le s (k + 1) s.size; omega))) ?_
                  cases hw2 : wordS (s.extract (k + 1) s.size)
                  · simp only [go_sem, Nat.reduceLT, Nat.reduceAdd, Nat.reduceEqDiff, Nat.reduceLeDiff, Nat.reduceSub, Nat.reduceMul, Int.reduceEq, eq_self, reduceIte, Int.ofNat_zero, Int.natCast_one, Int.cast_ofNat_Int, Int.reduceLT, Int.reduceLE, Int.reduceToNat, Nat.reduceLT, Int.toNat_zero, Int.natCast_zero, Int.le_refl, Int.lt_irrefl, Int.reduceAdd, frz, false_or, or_true, wk]
                    refine ⟨by simp, m - 1, by omega, k + 1, by omega, by omega, hstep (fun h => by rw [h.2.2.2.2.2] at hw2; cases hw2), ?_⟩
                    simp [trim_mk, go_sem, Nat.reduceLT, Nat.reduceAdd, Nat.reduceEqDiff, Nat.reduceLeDiff, Nat.reduceSub, Nat.reduceMul, Int.reduceEq, eq_self, reduceIte, subHeap, renObj, pos, List.range_succ]
                  · have hP : PutC s k := ⟨by omega, hp, hk5, by rw [hg, hb], hw1, hw2⟩
                    simp only [go_sem, Nat.reduceLT, Nat.reduceAdd, Nat.reduceEqDiff, Nat.reduceLeDiff, Nat.reduceSub, Nat.reduceMul, Int.reduceEq, eq_self, reduceIte, Int.ofNat_zero, Int.natCast_one, Int.cast_ofNat_Int, Int.reduceLT, Int.reduceLE, Int.reduceToNat, Nat.reduceLT, Int.toNat_zero, Int.natCast_zero, Int.le_refl, Int.lt_irrefl, Int.reduceAdd, frz, false_or, or_true, wk, c1, c2, c3, c4, Int.toNat_natCast]
                    repeat refine ⟨rfl, ?_⟩
                    refine ret_pure hx ?_
                    rw [op_put hP]
                    simp [go_sem, Nat.reduceLT, Nat.reduceAdd, Nat.reduceEqDiff, Nat.reduceLeDiff, Nat.reduceSub, Nat.reduceMul, Int.reduceEq, eq_self, reduceIte, L16, R16, cOp3]
              · have hb' : (((s[k]).toNat : Int) = 32) = False := eq_false (fun h => hb (byte_eq.1 h))
                simp only [go_sem, Nat.reduceLT, Nat.reduceAdd, Nat.reduceEqDiff, Nat.reduceLeDiff, Nat.reduceSub, Nat.reduceMul, Int.reduceEq, eq_self, reduceIte, Int.ofNat_zero, Int.natCast_one, Int.cast_ofNat_Int, Int.reduceLT, Int.reduceLE, Int.reduceToNat, Nat.reduceLT, Int.toNat_zero, Int.natCast_zero, Int.le_refl, Int.lt_irrefl, Int.reduceAdd, frz, false_or, or_true, hlt, hg, hb', wk]
                refine ⟨by simp, m - 1, by omega, k + 1, by omega, by omega, hstep (fun h => by have := h.2.2.2.1; rw [hg] at this; exact hb (Option.some.inj this)), ?_⟩
                simp [trim_mk, go_sem, Nat.reduceLT, Nat.reduceAdd, Nat.reduceEqDiff, Nat.reduceLeDiff, Nat.reduceSub, Nat.reduceMul, Int.reduceEq, eq_self, reduceIte, subHeap, renObj, pos, List.range_succ]
            · have hall : ∀ j, ¬ PutC s j := fun j h => by
                by_cases e : j < k
                · exact hno j e h
                · have := h.2.2.2.1
                  rw [getElem?_neg s j (by omega)] at this
                  cases this
              simp only [go_sem, Nat.reduceLT, Nat.reduceAdd, Nat.reduceEqDiff, Nat.reduceLeDiff, Nat.reduceSub, Nat.reduceMul, Int.reduceEq, eq_self, reduceIte, Int.ofNat_zero, Int.natCast_one, Int.cast_ofNat_Int, Int.reduceLT, Int.reduceLE, Int.reduceToNat, Nat.reduceLT, Int.toNat_zero, Int.natCast_zero, Int.le_refl, Int.lt_irrefl, Int.reduceAdd, frz, false_or, or_true, hlt]
              try simp only [go_sem, Nat.reduceLT, Nat.reduceAdd, Nat.reduceEqDiff, Nat.reduceLeDiff, Nat.reduceSub, Nat.reduceMul, Int.reduceEq, eq_self, reduceIte, Int.ofNat_zero, Int.natCast_one, Int.cast_ofNat_Int, Int.reduceLT, Int.reduceLE, Int.reduceToNat, Nat.reduceLT, Int.toNat_zero, Int.natCast_zero, Int.le_refl, Int.lt_irrefl, Int.reduceAdd, frz, false_or, or_true]
              refine ret_pure hx ?_
              rw [op_none hnd hall]
              simp [go_sem, Nat.reduceLT, Nat.reduceAdd, Nat.reduceEqDiff, Nat.reduceLeDiff, Nat.reduceSub, Nat.reduceMul, Int.reduceEq, eq_self, reduceIte, L16, R16, cOp3]
        · have hp' : (s.extract 0 4 = (⟨#[112, 117, 116, 32]⟩ : ByteArray)) = False := eq_false hp
          simp only [go_sem, Nat.reduceLT, Nat.reduceAdd, Nat.reduceEqDiff, Nat.reduceLeDiff, Nat.reduceSub, Nat.reduceMul, Int.reduceEq, eq_self, reduceIte, Int.ofNat_zero, Int.natCast_one, Int.cast_ofNat_Int, Int.reduceLT, Int.reduceLE, Int.reduceToNat, Nat.reduceLT, Int.toNat_zero, Int.natCast_zero, Int.le_refl, Int.lt_irrefl, Int.reduceAdd, frz, false_or, or_true, h4, e0, hp']
          try simp only [go_sem, Nat.reduceLT, Nat.reduceAdd, Nat.reduceEqDiff, Nat.reduceLeDiff, Nat.reduceSub, Nat.reduceMul, Int.reduceEq, eq_self, reduceIte, Int.ofNat_zero, Int.natCast_one, Int.cast_ofNat_Int, Int.reduceLT, Int.reduceLE, Int.reduceToNat, Nat.reduceLT, Int.toNat_zero, Int.natCast_zero, Int.le_refl, Int.lt_irrefl, Int.reduceAdd, frz, false_or, or_true]
          refine ret_pure hx ?_
          rw [op_none hnd (fun j h => hp h.2.1)]
          simp [go_sem, Nat.reduceLT, Nat.reduceAdd, Nat.reduceEqDiff, Nat.reduceLeDiff, Nat.reduceSub, Nat.reduceMul, Int.reduceEq, eq_self, reduceIte, L16, R16, cOp3]
      · simp only [go_sem, Nat.reduceLT, Nat.reduceAdd, Nat.reduceEqDiff, Nat.reduceLeDiff, Nat.reduceSub, Nat.reduceMul, Int.reduceEq, eq_self, reduceIte, Int.ofNat_zero, Int.natCast_one, Int.cast_ofNat_Int, Int.reduceLT, Int.reduceLE, Int.reduceToNat, Nat.reduceLT, Int.toNat_zero, Int.natCast_zero, Int.le_refl, Int.lt_irrefl, Int.reduceAdd, frz, false_or, or_true, h4]
        try simp only [go_sem, Nat.reduceLT, Nat.reduceAdd, Nat.reduceEqDiff, Nat.reduceLeDiff, Nat.reduceSub, Nat.reduceMul, Int.reduceEq, eq_self, reduceIte, Int.ofNat_zero, Int.natCast_one, Int.cast_ofNat_Int, Int.reduceLT, Int.reduceLE, Int.reduceToNat, Nat.reduceLT, Int.toNat_zero, Int.natCast_zero, Int.le_refl, Int.lt_irrefl, Int.reduceAdd, frz, false_or, or_true]
        refine ret_pure hx ?_
        rw [op_none hnd (fun j h => h4 (by have := h.1; omega))]
        simp [go_sem, Nat.reduceLT, Nat.reduceAdd, Nat.reduceEqDiff, Nat.reduceLeDiff, Nat.reduceSub, Nat.reduceMul, Int.reduceEq, eq_self, reduceIte, L16, R16, cOp3]
  · have hnd : ¬ DropC s := fun h => h5 (by have := h.1; omega)
    simp only [go_sem, Nat.reduceLT, Nat.reduceAdd, Nat.reduceEqDiff, Nat.reduceLeDiff, Nat.reduceSub, Nat.reduceMul, Int.reduceEq, eq_self, reduceIte, Int.ofNat_zero, Int.natCast_one, Int.cast_ofNat_Int, Int.reduceLT, Int.reduceLE, Int.reduceToNat, Nat.reduceLT, Int.toNat_zero, Int.natCast_zero, Int.le_refl, Int.lt_irrefl, Int.reduceAdd, frz, false_or, or_true, h5]
    by_cases h4 : (4 : Int) < (s.size : Int)
    · have e0 : ((4 : Int) ≤ (s.size : Int)) = True := eq_true (by omega)
      by_cases hp : s.extract 0 4 = putSpB
      · have hp' : (s.extract 0 4 = (⟨#[112, 117, 116, 32]⟩ : ByteArray)) = True := eq_true hp
        simp only [go_sem, Nat.reduceLT, Nat.reduceAdd, Nat.reduceEqDiff, Nat.reduceLeDiff, Nat.reduceSub, Nat.reduceMul, Int.reduceEq, eq_self, reduceIte, Int.ofNat_zero, Int.natCast_one, Int.cast_ofNat_Int, Int.reduceLT, Int.reduceLE, Int.reduceToNat, Nat.reduceLT, Int.toNat_zero, Int.natCast_zero, Int.le_refl, Int.lt_irrefl, Int.reduceAdd, frz, false_or, or_true, h4, e0, hp', Nat.reduceLeDiff]
        refine loop_inv [0, 5] 0 (fun m st => ∃ k : Nat, k + m = s.size ∧ 5 ≤ k ∧ (∀ j, j < k → ¬ PutC s j) ∧
          st = ⟨mkE .top [(0, .str s), (5, .int .i64 k)], []⟩) (s.size - 5) (by simp [hx]) (by simp) ?_ ?_
        · refine ⟨5, by omega, by omega, fun j hj h => by have := h.2.2.1; omega, ?_⟩
          simp [trim_mk, go_sem, Nat.reduceLT, Nat.reduceAdd, Nat.reduceEqDiff, Nat.reduceLeDiff, Nat.reduceSub, Nat.reduceMul, Int.reduceEq, eq_self, reduceIte, subHeap, renObj, pos, List.range_succ]
        · rintro m st ⟨k, hk, hk5, hno, rfl⟩
          by_cases hlt : k < s.size
          · have hg := byte_get hlt
            have wk := i64_up (k := k) (by omega)
            have c1 : ((4 : Int) ≤ (k : Int)) = True := eq_true (by omega)
            have c2 : ((k : Int) ≤ (s.size : Int)) = True := eq_true (by omega)
            have c3 : ((k + 1 : Nat) : Int) ≤ (s.size : Int) := by omega
            have c4 : (0 : Int) ≤ ((k + 1 : Nat) : Int) := by omega
            have hstep : ¬ PutC s k → ∀ j, j < k + 1 → ¬ PutC s j := fun h j hj => by
              by_cases e : j = k
              · rw [e]; exact h
              · exact hno j (by omega)
            by_cases hb : s[k] = 32
            · have hb' : (((s[k]).toNat : Int) = 32) = True := eq_true (byte_eq.2 hb)
              simp only [go_sem, Nat.reduceLT, Nat.reduceAdd, Nat.reduceEqDiff, Nat.reduceLeDiff, Nat.reduceSub, Nat.reduceMul, Int.reduceEq, eq_self, reduceIte, Int.ofNat_zero, Int.natCast_one, Int.cast_ofNat_Int, Int.reduceLT, Int.reduceLE, Int.reduceToNat, Nat.reduceLT, Int.toNat_zero, Int.natCast_zero, Int.le_refl, Int.lt_irrefl, Int.reduceAdd, frz, false_or, or_true, hlt, hg, hb', c1, c2]
              refine ops_call (.pure (isWord_meets _ (by have := ext_size_le s 4 k; omega))) ?_
              cases hw1 : wordS (s.extract 4 k)
              · simp only [go_sem, Nat.reduceLT, Nat.reduceAdd, Nat.reduceEqDiff, Nat.reduceLeDiff, Nat.reduceSub, Nat.reduceMul, Int.reduceEq, eq_self, reduceIte, Int.ofNat_zero, Int.natCast_one, Int.cast_ofNat_Int, Int.reduceLT, Int.reduceLE, Int.reduceToNat, Nat.reduceLT, Int.toNat_zero, Int.natCast_zero, Int.le_refl, Int.lt_irrefl, Int.reduceAdd, frz, false_or, or_true, wk]
                refine ⟨by simp, m - 1, by omega, k + 1, by omega, by omega, hstep (fun h => by rw [h.2.2.2.2.1] at hw1; cases hw1), ?_⟩
                simp [trim_mk, go_sem, Nat.reduceLT, Nat.reduceAdd, Nat.reduceEqDiff, Nat.reduceLeDiff, Nat.reduceSub, Nat.reduceMul, Int.reduceEq, eq_self, reduceIte, subHeap, renObj, pos, List.range_succ]
              · simp only [go_sem, Nat.reduceLT, Nat.reduceAdd, Nat.reduceEqDiff, Nat.reduceLeDiff, Nat.reduceSub, Nat.reduceMul, Int.reduceEq, eq_self, reduceIte, Int.ofNat_zero, Int.natCast_one, Int.cast_ofNat_Int, Int.reduceLT, Int.reduceLE, Int.reduceToNat, Nat.reduceLT, Int.toNat_zero, Int.natCast_zero, Int.le_refl, Int.lt_irrefl, Int.reduceAdd, frz, false_or, or_true, wk, c3, c4, Int.toNat_natCast]
                refine ops_call (.pure (isWord_meets _ (by have := ext_size_le s (k + 1) s.size; omega))) ?_
                cases hw2 : wordS (s.extract (k + 1) s.size)
                · simp only [go_sem, Nat.reduceLT, Nat.reduceAdd, Nat.reduceEqDiff, Nat.reduceLeDiff, Nat.reduceSub, Nat.reduceMul, Int.reduceEq, eq_self, reduceIte, Int.ofNat_zero, Int.natCast_one, Int.cast_ofNat_Int, Int.reduceLT, Int.reduceLE, Int.reduceToNat, Nat.reduceLT, Int.toNat_zero, Int.natCast_zero, Int.le_refl, Int.lt_irrefl, Int.reduceAdd, frz, false_or, or_true, wk]
                  refine ⟨by simp, m - 1, by omega, k + 1, by omega, by omega, hstep (fun h => by rw [h.2.2.2.2.2] at hw2; cases hw2), ?_⟩
                  simp [trim_mk, go_sem, Nat.reduceLT, Nat.reduceAdd, Nat.reduceEqDiff, Nat.reduceLeDiff, Nat.reduceSub, Nat.reduceMul, Int.reduceEq, eq_self, reduceIte, subHeap, renObj, pos, List.range_succ]
                · have hP : PutC s k := ⟨by omega, hp, hk5, by rw [hg, hb], hw1, hw2⟩
                  simp only [go_sem, Nat.reduceLT, Nat.reduceAdd, Nat.reduceEqDiff, Nat.reduceLeDiff, Nat.reduceSub, Nat.reduceMul, Int.reduceEq, eq_self, reduceIte, Int.ofNat_zero, Int.natCast_one, Int.cast_ofNat_Int, Int.reduceLT, Int.reduceLE, Int.reduceToNat, Nat.reduceLT, Int.toNat_zero, Int.natCast_zero, Int.le_refl, Int.lt_irrefl, Int.reduceAdd, frz, false_or, or_true, wk, c1, c2, c3, c4, Int.toNat_natCast]
                  repeat refine ⟨rfl, ?_⟩
                  refine ret_pure hx ?_
                  rw [op_put hP]
                  simp [go_sem, Nat.reduceLT, Nat.reduceAdd, Nat.reduceEqDiff, Nat.reduceLeDiff, Nat.reduceSub, Nat.reduceMul, Int.reduceEq, eq_self, reduceIte, L16, R16, cOp3]
            · have hb' : (((s[k]).toNat : Int) = 32) = False := eq_false (fun h => hb (byte_eq.1 h))
              simp only [go_sem, Nat.reduceLT, Nat.reduceAdd, Nat.reduceEqDiff, Nat.reduceLeDiff, Nat.reduceSub, Nat.reduceMul, Int.reduceEq, eq_self, reduceIte, Int.ofNat_zero, Int.natCast_one, Int.cast_ofNat_Int, Int.reduceLT, Int.reduceLE, Int.reduceToNat, Nat.reduceLT, Int.toNat_zero, Int.natCast_zero, Int.le_refl, Int.lt_irrefl, Int.reduceAdd, frz, false_or, or_true, hlt, hg, hb', wk]
              refine ⟨by simp, m - 1, by omega, k + 1, by omega, by omega, hstep (fun h => by have := h.2.2.2.1; rw [hg] at this; exact hb (Option.some.inj this)), ?_⟩
              simp [trim_mk, go_sem, Nat.reduceLT, Nat.reduceAdd, Nat.reduceEqDiff, Nat.reduceLeDiff, Nat.reduceSub, Nat.reduceMul, Int.reduceEq, eq_self, reduceIte, subHeap, renObj, pos, List.range_succ]
          · have hall : ∀ j, ¬ PutC s j := fun j h => by
              by_cases e : j < k
              · exact hno j e h
              · have := h.2.2.2.1
                rw [getElem?_neg s j (by omega)] at this
                cases this
            simp only [go_sem, Nat.reduceLT, Nat.reduceAdd, Nat.reduceEqDiff, Nat.reduceLeDiff, Nat.reduceSub, Nat.reduceMul, Int.reduceEq, eq_self, reduceIte, Int.ofNat_zero, Int.natCast_one, Int.cast_ofNat_Int, Int.reduceLT, Int.reduceLE, Int.reduceToNat, Nat.reduceLT, Int.toNat_zero, Int.natCast_zero, Int.le_refl, Int.lt_irrefl, Int.reduceAdd, frz, false_or, or_true, hlt]
            try simp only [go_sem, Nat.reduceLT, Nat.reduceAdd, Nat.reduceEqDiff, Nat.reduceLeDiff, Nat.reduceSub, Nat.reduceMul, Int.reduceEq, eq_self, reduceIte, Int.ofNat_zero, Int.natCast_one, Int.cast_ofNat_Int, Int.reduceLT, Int.reduceLE, Int.reduceToNat, Nat.reduceLT, Int.toNat_zero, Int.natCast_zero, Int.le_refl, Int.lt_irrefl, Int.reduceAdd, frz, false_or, or_true]
            refine ret_pure hx ?_
            rw [op_none hnd hall]
            simp [go_sem, Nat.reduceLT, Nat.reduceAdd, Nat.reduceEqDiff, Nat.reduceLeDiff, Nat.reduceSub, Nat.reduceMul, Int.reduceEq, eq_self, reduceIte, L16, R16, cOp3]
      · have hp' : (s.extract 0 4 = (⟨#[112, 117, 116, 32]⟩ : ByteArray)) = False := eq_false hp
        simp only [go_sem, Nat.reduceLT, Nat.reduceAdd, Nat.reduceEqDiff, Nat.reduceLeDiff, Nat.reduceSub, Nat.reduceMul, Int.reduceEq, eq_self, reduceIte, Int.ofNat_zero, Int.natCast_one, Int.cast_ofNat_Int, Int.reduceLT, Int.reduceLE, Int.reduceToNat, Nat.reduceLT, Int.toNat_zero, Int.natCast_zero, Int.le_refl, Int.lt_irrefl, Int.reduceAdd, frz, false_or, or_true, h4, e0, hp']
        try simp only [go_sem, Nat.reduceLT, Nat.reduceAdd, Nat.reduceEqDiff, Nat.reduceLeDiff, Nat.reduceSub, Nat.reduceMul, Int.reduceEq, eq_self, reduceIte, Int.ofNat_zero, Int.natCast_one, Int.cast_ofNat_Int, Int.reduceLT, Int.reduceLE, Int.reduceToNat, Nat.reduceLT, Int.toNat_zero, Int.natCast_zero, Int.le_refl, Int.lt_irrefl, Int.reduceAdd, frz, false_or, or_true]
        refine ret_pure hx ?_
        rw [op_none hnd (fun j h => hp h.2.1)]
        simp [go_sem, Nat.reduceLT, Nat.reduceAdd, Nat.reduceEqDiff, Nat.reduceLeDiff, Nat.reduceSub, Nat.reduceMul, Int.reduceEq, eq_self, reduceIte, L16, R16, cOp3]
    · simp only [go_sem, Nat.reduceLT, Nat.reduceAdd, Nat.reduceEqDiff, Nat.reduceLeDiff, Nat.reduceSub, Nat.reduceMul, Int.reduceEq, eq_self, reduceIte, Int.ofNat_zero, Int.natCast_one, Int.cast_ofNat_Int, Int.reduceLT, Int.reduceLE, Int.reduceToNat, Nat.reduceLT, Int.toNat_zero, Int.natCast_zero, Int.le_refl, Int.lt_irrefl, Int.reduceAdd, frz, false_or, or_true, h4]
      try simp only [go_sem, Nat.reduceLT, Nat.reduceAdd, Nat.reduceEqDiff, Nat.reduceLeDiff, Nat.reduceSub, Nat.reduceMul, Int.reduceEq, eq_self, reduceIte, Int.ofNat_zero, Int.natCast_one, Int.cast_ofNat_Int, Int.reduceLT, Int.reduceLE, Int.reduceToNat, Nat.reduceLT, Int.toNat_zero, Int.natCast_zero, Int.le_refl, Int.lt_irrefl, Int.reduceAdd, frz, false_or, or_true]
      refine ret_pure hx ?_
      rw [op_none hnd (fun j h => h4 (by have := h.1; omega))]
      simp [go_sem, Nat.reduceLT, Nat.reduceAdd, Nat.reduceEqDiff, Nat.reduceLeDiff, Nat.reduceSub, Nat.reduceMul, Int.reduceEq, eq_self, reduceIte, L16, R16, cOp3]
end Go.Proofs.YtfdolehffjmdmaaGreatDoor
/- The law text's own words for maps: SameTexts, SameMap, withText. -/
namespace Go.Proofs.YtfdolehffjmdmaaGreatDoor
set_option linter.unusedSimpArgs false
set_option linter.unusedVariables false
open Go.RowKit
theorem weak_nil {x : Cx} {nt : Nat} {st : St} (t : Nat) (h : st.env t = .nilsl) : Weak x nt st (st.put (some t) (.list []) st.heap) := by
  intro a w ⟨⟨C, hr, he⟩, hdf, hs⟩
  refine ⟨⟨C, hr, fun u => ?_⟩, hdf, hs⟩
  simp only [St.put, Option.some.injEq]
  by_cases e : t = u
  · subst e
    rw [if_pos rfl]
    have h1 := he t
    rw [h] at h1
    exact nlN_V 1 h1
  · rw [if_neg e]; exact he u
theorem ftexts_meets (a b : List ByteArray) (ha : a.length ≤ 9223372036854775806) : Meets Tryz.prog 19 [.list (a.map cStr), .list (b.map cStr)] [] (.bool (decide (a = b))) [] := by
  refine Meets.of_walk Tryz.func19 Tryz.ntmps19 low19 res19 (by simp) fun x hx => ?_
  by_cases hl : a.length = b.length
  · have hl' : ((a.length : Int) = (b.length : Int)) = True := eq_true (by omega)
    simp only [go_sem, Nat.reduceLT, Nat.reduceAdd, Nat.reduceEqDiff, Nat.reduceLeDiff, Nat.reduceSub, Nat.reduceMul, Int.reduceEq, eq_self, reduceIte, Int.ofNat_zero, Int.natCast_one, Int.cast_ofNat_Int, Int.reduceLT, Int.reduceLE, Int.reduceToNat, Nat.reduceLT, Int.toNat_zero, Int.natCast_zero, Int.le_refl, Int.lt_irrefl, Int.reduceAdd, frz, false_or, or_true, L19, R19, List.length_map, hl']
    refine loop_inv [0, 1, 5] 0 (fun n st => ∃ k : Nat, k + n = a.length ∧ a.take k = b.take k ∧ st = ⟨mkE .top [(0, .list (a.map cStr)), (1, .list (b.map cStr)), (5, .int .i64 k)], []⟩) a.length (by simp [hx]) (by simp) ?_ ?_
    · refine ⟨0, by omega, rfl, ?_⟩
      simp [trim_mk, go_sem, Nat.reduceLT, Nat.reduceAdd, Nat.reduceEqDiff, Nat.reduceLeDiff, Nat.reduceSub, Nat.reduceMul, Int.reduceEq, eq_self, reduceIte, subHeap, renObj, pos, List.range_succ]
    · rintro n st ⟨k, hk, htk, rfl⟩
      by_cases hlt : k < a.length
      · have hlb : k < b.length := by omega
        have hga : a[k]? = some (nth a k) := nth_get? _ _ hlt
        have hgb : b[k]? = some (nth b k) := nth_get? _ _ hlb
        have wk := i64_up (k := k) (by omega)
        by_cases he : nth a k = nth b k
        · simp only [go_sem, Nat.reduceLT, Nat.reduceAdd, Nat.reduceEqDiff, Nat.reduceLeDiff, Nat.reduceSub, Nat.reduceMul, Int.reduceEq, eq_self, reduceIte, Int.ofNat_zero, Int.natCast_one, Int.cast_ofNat_Int, Int.reduceLT, Int.reduceLE, Int.reduceToNat, Nat.reduceLT, Int.toNat_zero, Int.natCast_zero, Int.le_refl, Int.lt_irrefl, Int.reduceAdd, frz, false_or, or_true, hlt, hlb, hga, hgb, cStr, List.getElem?_map, Option.map_some, List.length_map, he, decide_true, wk]
          repeat refine ⟨rfl, ?_⟩
          try simp only [go_sem, Nat.reduceLT, Nat.reduceAdd, Nat.reduceEqDiff, Nat.reduceLeDiff, Nat.reduceSub, Nat.reduceMul, Int.reduceEq, eq_self, reduceIte, Int.ofNat_zero, Int.natCast_one, Int.cast_ofNat_Int, Int.reduceLT, Int.reduceLE, Int.reduceToNat, Nat.reduceLT, Int.toNat_zero, Int.natCast_zero, Int.le_refl, Int.lt_irrefl, Int.reduceAdd, frz, false_or, or_true, wk]
          refine ⟨by simp, n - 1, by omega, k + 1, by omega, ?_, ?_⟩
          · rw [List.take_add_one, List.take_add_one, htk, hga, hgb, he]
          · simp [trim_mk, go_sem, Nat.reduceLT, Nat.reduceAdd, Nat.reduceEqDiff, Nat.reduceLeDiff, Nat.reduceSub, Nat.reduceMul, Int.reduceEq, eq_self, reduceIte, subHeap, renObj, pos, List.range_succ]
        · simp only [go_sem, Nat.reduceLT, Nat.reduceAdd, Nat.reduceEqDiff, Nat.reduceLeDiff, Nat.reduceSub, Nat.reduceMul, Int.reduceEq, eq_self, reduceIte, Int.ofNat_zero, Int.natCast_one, Int.cast_ofNat_Int, Int.reduceLT, Int.reduceLE, Int.reduceToNat, Nat.reduceLT, Int.toNat_zero, Int.natCast_zero, Int.le_refl, Int.lt_irrefl, Int.reduceAdd, frz, false_or, or_true, hlt, hlb, hga, hgb, cStr, List.getElem?_map, Option.map_some, List.length_map, he, decide_false]
          repeat refine ⟨rfl, ?_⟩
          try simp only [go_sem, Nat.reduceLT, Nat.reduceAdd, Nat.reduceEqDiff, Nat.reduceLeDiff, Nat.reduceSub, Nat.reduceMul, Int.reduceEq, eq_self, reduceIte, Int.ofNat_zero, Int.natCast_one, Int.cast_ofNat_Int, Int.reduceLT, Int.reduceLE, Int.reduceToNat, Nat.reduceLT, Int.toNat_zero, Int.natCast_zero, Int.le_refl, Int.lt_irrefl, Int.reduceAdd, frz, false_or, or_true]
          refine ret_pure hx ?_
          have : ¬ a = b := fun e => he (by rw [e])
          simp [go_sem, Nat.reduceLT, Nat.reduceAdd, Nat.reduceEqDiff, Nat.reduceLeDiff, Nat.reduceSub, Nat.reduceMul, Int.reduceEq, eq_self, reduceIte, L19, R19, this]
      · have : a = b := by
          rw [List.take_of_length_le (by omega), List.take_of_length_le (by omega)] at htk
          exact htk
        simp only [go_sem, Nat.reduceLT, Nat.reduceAdd, Nat.reduceEqDiff, Nat.reduceLeDiff, Nat.reduceSub, Nat.reduceMul, Int.reduceEq, eq_self, reduceIte, Int.ofNat_zero, Int.natCast_one, Int.cast_ofNat_Int, Int.reduceLT, Int.reduceLE, Int.reduceToNat, Nat.reduceLT, Int.toNat_zero, Int.natCast_zero, Int.le_refl, Int.lt_irrefl, Int.reduceAdd, frz, false_or, or_true, hlt, List.length_map]
        refine ret_pure hx ?_
        simp [go_sem, Nat.reduceLT, Nat.reduceAdd, Nat.reduceEqDiff, Nat.reduceLeDiff, Nat.reduceSub, Nat.reduceMul, Int.reduceEq, eq_self, reduceIte, L19, R19, this]
  · have hl' : ((a.length : Int) = (b.length : Int)) = False := eq_false (by omega)
    have : ¬ a = b := fun e => hl (by rw [e])
    simp only [go_sem, Nat.reduceLT, Nat.reduceAdd, Nat.reduceEqDiff, Nat.reduceLeDiff, Nat.reduceSub, Nat.reduceMul, Int.reduceEq, eq_self, reduceIte, Int.ofNat_zero, Int.natCast_one, Int.cast_ofNat_Int, Int.reduceLT, Int.reduceLE, Int.reduceToNat, Nat.reduceLT, Int.toNat_zero, Int.natCast_zero, Int.le_refl, Int.lt_irrefl, Int.reduceAdd, frz, false_or, or_true, L19, R19, List.length_map, hl']
    refine ret_pure hx ?_
    simp [go_sem, Nat.reduceLT, Nat.reduceAdd, Nat.reduceEqDiff, Nat.reduceLeDiff, Nat.reduceSub, Nat.reduceMul, Int.reduceEq, eq_self, reduceIte, L19, R19, this]
theorem sameMap_meets (a b : List KV) (ha : a.length ≤ 9223372036854775806) (hv : ∀ p ∈ a, p.2.length ≤ 9223372036854775806) : Meets Tryz.prog 18 [.list (a.map cPair), .list (b.map cPair)] [] (.bool (decide (a = b))) [] := by
  refine Meets.of_walk Tryz.func18 Tryz.ntmps18 low18 res18 (by simp) fun x hx => ?_
  by_cases hl : a.length = b.length
  · have hl' : ((a.length : Int) = (b.length : Int)) = True := eq_true (by omega)
    simp only [go_sem, Nat.reduceLT, Nat.reduceAdd, Nat.reduceEqDiff, Nat.reduceLeDiff, Nat.reduceSub, Nat.reduceMul, Int.reduceEq, eq_self, reduceIte, Int.ofNat_zero, Int.natCast_one, Int.cast_ofNat_Int, Int.reduceLT, Int.reduceLE, Int.reduceToNat, Nat.reduceLT, Int.toNat_zero, Int.natCast_zero, Int.le_refl, Int.lt_irrefl, Int.reduceAdd, frz, false_or, or_true, L18, R18, List.length_map, hl']
    refine loop_inv [0, 1, 5] 0 (fun n st => ∃ k : Nat, k + n = a.length ∧ a.take k = b.take k ∧ st = ⟨mkE .top [(0, .list (a.map cPair)), (1, .list (b.map cPair)), (5, .int .i64 k)], []⟩) a.length (by simp [hx]) (by simp) ?_ ?_
    · refine ⟨0, by omega, rfl, ?_⟩
      simp [trim_mk, go_sem, Nat.reduceLT, Nat.reduceAdd, Nat.reduceEqDiff, Nat.reduceLeDiff, Nat.reduceSub, Nat.reduceMul, Int.reduceEq, eq_self, reduceIte, subHeap, renObj, pos, List.range_succ]
    · rintro n st ⟨k, hk, htk, rfl⟩
      by_cases hlt : k < a.length
      · have hlb : k < b.length := by omega
        have hga : a[k]? = some (nth a k) := nth_get? _ _ hlt
        have hgb : b[k]? = some (nth b k) := nth_get? _ _ hlb
        have wk := i64_up (k := k) (by omega)
        have hva := hv (nth a k) (List.mem_of_getElem? hga)
        by_cases he : (nth a k).1 = (nth b k).1
        · simp only [go_sem, Nat.reduceLT, Nat.reduceAdd, Nat.reduceEqDiff, Nat.reduceLeDiff, Nat.reduceSub, Nat.reduceMul, Int.reduceEq, eq_self, reduceIte, Int.ofNat_zero, Int.natCast_one, Int.cast_ofNat_Int, Int.reduceLT, Int.reduceLE, Int.reduceToNat, Nat.reduceLT, Int.toNat_zero, Int.natCast_zero, Int.le_refl, Int.lt_irrefl, Int.reduceAdd, frz, false_or, or_true, hlt, hlb, hga, hgb, cPair, List.getElem?_map, Option.map_some, List.length_map, he, decide_true]
          refine ops_call (.pureE (ftexts_meets (nth a k).2 (nth b k).2 hva) (by simp [go_sem, Nat.reduceLT, Nat.reduceAdd, Nat.reduceEqDiff, Nat.reduceLeDiff, Nat.reduceSub, Nat.reduceMul, Int.reduceEq, eq_self, reduceIte])) ?_
          by_cases hv2 : (nth a k).2 = (nth b k).2
          · simp only [go_sem, Nat.reduceLT, Nat.reduceAdd, Nat.reduceEqDiff, Nat.reduceLeDiff, Nat.reduceSub, Nat.reduceMul, Int.reduceEq, eq_self, reduceIte, Int.ofNat_zero, Int.natCast_one, Int.cast_ofNat_Int, Int.reduceLT, Int.reduceLE, Int.reduceToNat, Nat.reduceLT, Int.toNat_zero, Int.natCast_zero, Int.le_refl, Int.lt_irrefl, Int.reduceAdd, frz, false_or, or_true, hv2, decide_true, wk]
            repeat refine ⟨rfl, ?_⟩
            try simp only [go_sem, Nat.reduceLT, Nat.reduceAdd, Nat.reduceEqDiff, Nat.reduceLeDiff, Nat.reduceSub, Nat.reduceMul, Int.reduceEq, eq_self, reduceIte, Int.ofNat_zero, Int.natCast_one, Int.cast_ofNat_Int, Int.reduceLT, Int.reduceLE, Int.reduceToNat, Nat.reduceLT, Int.toNat_zero, Int.natCast_zero, Int.le_refl, Int.lt_irrefl, Int.reduceAdd, frz, false_or, or_true, wk]
            refine ⟨by simp, n - 1, by omega, k + 1, by omega, ?_, ?_⟩
            · rw [List.take_add_one, List.take_add_one, htk, hga, hgb, Prod.ext he hv2]
            · simp [trim_mk, go_sem, Nat.reduceLT, Nat.reduceAdd, Nat.reduceEqDiff, Nat.reduceLeDiff, Nat.reduceSub, Nat.reduceMul, Int.reduceEq, eq_self, reduceIte, subHeap, renObj, pos, List.range_succ]
          · simp only [go_sem, Nat.reduceLT, Nat.reduceAdd, Nat.reduceEqDiff, Nat.reduceLeDiff, Nat.reduceSub, Nat.reduceMul, Int.reduceEq, eq_self, reduceIte, Int.ofNat_zero, Int.natCast_one, Int.cast_ofNat_Int, Int.reduceLT, Int.reduceLE, Int.reduceToNat, Nat.reduceLT, Int.toNat_zero, Int.natCast_zero, Int.le_refl, Int.lt_irrefl, Int.reduceAdd, frz, false_or, or_true, hv2, decide_false]
            repeat refine ⟨rfl, ?_⟩
            try simp only [go_sem, Nat.reduceLT, Nat.reduceAdd, Nat.reduceEqDiff, Nat.reduceLeDiff, Nat.reduceSub, Nat.reduceMul, Int.reduceEq, eq_self, reduceIte, Int.ofNat_zero, Int.natCast_one, Int.cast_ofNat_Int, Int.reduceLT, Int.reduceLE, Int.reduceToNat, Nat.reduceLT, Int.toNat_zero, Int.natCast_zero, Int.le_refl, Int.lt_irrefl, Int.reduceAdd, frz, false_or, or_true]
            refine ret_pure hx ?_
            have : ¬ a = b := fun e => hv2 (by rw [e])
            simp [go_sem, Nat.reduceLT, Nat.reduceAdd, Nat.reduceEqDiff, Nat.reduceLeDiff, Nat.reduceSub, Nat.reduceMul, Int.reduceEq, eq_self, reduceIte, L18, R18, this]
        · simp only [go_sem, Nat.reduceLT, Nat.reduceAdd, Nat.reduceEqDiff, Nat.reduceLeDiff, Nat.reduceSub, Nat.reduceMul, Int.reduceEq, eq_self, reduceIte, Int.ofNat_zero, Int.natCast_one, Int.cast_ofNat_Int, Int.reduceLT, Int.reduceLE, Int.reduceToNat, Nat.reduceLT, Int.toNat_zero, Int.natCast_zero, Int.le_refl, Int.lt_irrefl, Int.reduceAdd, frz, false_or, or_true, hlt, hlb, hga, hgb, cPair, List.getElem?_map, Option.map_some, List.length_map, he, decide_false]
          repeat refine ⟨rfl, ?_⟩
          try simp only [go_sem, Nat.reduceLT, Nat.reduceAdd, Nat.reduceEqDiff, Nat.reduceLeDiff, Nat.reduceSub, Nat.reduceMul, Int.reduceEq, eq_self, reduceIte, Int.ofNat_zero, Int.natCast_one, Int.cast_ofNat_Int, Int.reduceLT, Int.reduceLE, Int.reduceToNat, Nat.reduceLT, Int.toNat_zero, Int.natCast_zero, Int.le_refl, Int.lt_irrefl, Int.reduceAdd, frz, false_or, or_true]
          refine ret_pure hx ?_
          have : ¬ a = b := fun e => he (by rw [e])
          simp [go_sem, Nat.reduceLT, Nat.reduceAdd, Nat.reduceEqDiff, Nat.reduceLeDiff, Nat.reduceSub, Nat.reduceMul, Int.reduceEq, eq_self, reduceIte, L18, R18, this]
      · have : a = b := by
          rw [List.take_of_length_le (by omega), List.take_of_length_le (by omega)] at htk
          exact htk
        simp only [go_sem, Nat.reduceLT, Nat.reduceAdd, Nat.reduceEqDiff, Nat.reduceLeDiff, Nat.reduceSub, Nat.reduceMul, Int.reduceEq, eq_self, reduceIte, Int.ofNat_zero, Int.natCast_one, Int.cast_ofNat_Int, Int.reduceLT, Int.reduceLE, Int.reduceToNat, Nat.reduceLT, Int.toNat_zero, Int.natCast_zero, Int.le_refl, Int.lt_irrefl, Int.reduceAdd, frz, false_or, or_true, hlt, List.length_map]
        refine ret_pure hx ?_
        simp [go_sem, Nat.reduceLT, Nat.reduceAdd, Nat.reduceEqDiff, Nat.reduceLeDiff, Nat.reduceSub, Nat.reduceMul, Int.reduceEq, eq_self, reduceIte, L18, R18, this]
  · have hl' : ((a.length : Int) = (b.length : Int)) = False := eq_false (by omega)
    have : ¬ a = b := fun e => hl (by rw [e])
    simp only [go_sem, Nat.reduceLT, Nat.reduceAdd, Nat.reduceEqDiff, Nat.reduceLeDiff, Nat.reduceSub, Nat.reduceMul, Int.reduceEq, eq_self, reduceIte, Int.ofNat_zero, Int.natCast_one, Int.cast_ofNat_Int, Int.reduceLT, Int.reduceLE, Int.reduceToNat, Nat.reduceLT, Int.toNat_zero, Int.natCast_zero, Int.le_refl, Int.lt_irrefl, Int.reduceAdd, frz, false_or, or_true, L18, R18, List.length_map, hl']
    refine ret_pure hx ?_
    simp [go_sem, Nat.reduceLT, Nat.reduceAdd, Nat.reduceEqDiff, Nat.reduceLeDiff, Nat.reduceSub, Nat.reduceMul, Int.reduceEq, eq_self, reduceIte, L18, R18, this]
def wtStep (s : ByteArray) (r : List ByteArray × Bool) (y : ByteArray) : List ByteArray × Bool :=
  ((if r.2 = false ∧ leB s y = true then r.1 ++ [s] else r.1) ++ (if y = s then [] else [y]), r.2 || leB s y)
def wtF (s : ByteArray) (l : List ByteArray) : List ByteArray × Bool := l.foldl (wtStep s) ([], false)
def withT (l : List ByteArray) (s : ByteArray) : List ByteArray := if (wtF s l).2 = true then (wtF s l).1 else (wtF s l).1 ++ [s]
theorem wtF_take {s : ByteArray} {l : List ByteArray} {k : Nat} (h : k < l.length) : wtF s (l.take (k + 1)) = wtStep s (wtF s (l.take k)) (nth l k) := by
  rw [wtF, List.take_add_one, nth_get? _ _ h, Option.toList_some, List.foldl_append]; rfl
theorem wtF_len (s : ByteArray) (l : List ByteArray) : (wtF s l).1.length ≤ 2 * l.length := by
  have key : ∀ (l : List ByteArray) (r : List ByteArray × Bool), (l.foldl (wtStep s) r).1.length ≤ r.1.length + 2 * l.length := by
    intro l
    induction l with
    | nil => intro r; simp
    | cons y l ih =>
      intro r
      have a := ih (wtStep s r y)
      have b : (wtStep s r y).1.length ≤ r.1.length + 2 := by
        unfold wtStep
        split <;> split <;> simp <;> omega
      simp only [List.foldl_cons, List.length_cons]; omega
  have := key l ([], false)
  simpa [wtF] using this
set_option maxRecDepth 10000 in
set_option maxHeartbeats 4000000 in
theorem withText_meets (l : List ByteArray) (s : ByteArray) (hl : l.length ≤ 1000000000) : Meets Tryz.prog 50 [.list (l.map cStr), .str s] [] (.list ((withT l s).map cStr)) [] := by
  refine Meets.of_walk Tryz.func50 Tryz.ntmps50 low50 res50 (by simp) fun x hx => ?_
  simp only [go_sem, Nat.reduceLT, Nat.reduceAdd, Nat.reduceEqDiff, Nat.reduceLeDiff, Nat.reduceSub, Nat.reduceMul, Int.reduceEq, eq_self, reduceIte, L50, R50]
  refine W_weak (weak_own 5 0 9 1 true false rfl (by omega)) ?_
  refine loop_inv [0, 1, 5, 6, 7] 1 (fun n st => ∃ k v : Nat, k + n = l.length ∧
    st = ⟨mkE .top [(0, .list (l.map cStr)), (1, .str s), (5, .arr 0 v), (6, .bool (wtF s (l.take k)).2), (7, .int .i64 k)], [.arr v true false 9 1 ((wtF s (l.take k)).1.map cStr)]⟩) l.length (by simp [hx]) (by simp [St.put]) ?_ ?_
  · refine ⟨0, 0, by omega, ?_⟩
    rw [put_mk]
    simp [trim_mk, go_sem, Nat.reduceLT, Nat.reduceAdd, Nat.reduceEqDiff, Nat.reduceLeDiff, Nat.reduceSub, Nat.reduceMul, Int.reduceEq, eq_self, reduceIte, subHeap, renObj, pos, List.range_succ, wtF]
  · rintro n st ⟨k, v, hk, rfl⟩
    by_cases hlt : k < l.length
    · have hg : l[k]? = some (nth l k) := nth_get? _ _ hlt
      have wk := i64_up (k := k) (by omega)
      have hst := wtF_take (s := s) hlt
      have hlen := wtF_len s (l.take k)
      rw [List.length_take] at hlen
      obtain ⟨R, hR⟩ : ∃ R, wtF s (l.take k) = R := ⟨_, rfl⟩
      rw [hR] at hst hlen ⊢
      obtain ⟨o, p⟩ := R
      simp only at hlen
      generalize nth l k = y at hg hst
      by_cases hn : y = s
      · subst hn
        cases p <;> cases hle : leB y y
        all_goals
          skip
          simp only [wtStep, hle,  if_true, if_false, true_and, and_true, and_false, false_and, Bool.or_true, Bool.or_false, Bool.false_eq_true, reduceCtorEq, List.append_nil, Bool.true_or, Bool.false_or] at hst
          simp only [go_sem, Nat.reduceLT, Nat.reduceAdd, Nat.reduceEqDiff, Nat.reduceLeDiff, Nat.reduceSub, Nat.reduceMul, Int.reduceEq, eq_self, reduceIte, Int.ofNat_zero, Int.natCast_one, Int.cast_ofNat_Int, Int.reduceLT, Int.reduceLE, Int.reduceToNat, Nat.reduceLT, Int.toNat_zero, Int.natCast_zero, Int.le_refl, Int.lt_irrefl, Int.reduceAdd, frz, false_or, or_true, hlt, hg, cStr, List.getElem?_map, Option.map_some, List.length_map, hle,  decide_true, decide_false, wk, PV.isPure, List.all_cons, List.all_nil]
          repeat (first
            | (rw [app_arr rfl rfl (by simp) (by simp; omega)]
               simp only [go_sem, Nat.reduceLT, Nat.reduceAdd, Nat.reduceEqDiff, Nat.reduceLeDiff, Nat.reduceSub, Nat.reduceMul, Int.reduceEq, eq_self, reduceIte, Int.ofNat_zero, Int.natCast_one, Int.cast_ofNat_Int, Int.reduceLT, Int.reduceLE, Int.reduceToNat, Nat.reduceLT, Int.toNat_zero, Int.natCast_zero, Int.le_refl, Int.lt_irrefl, Int.reduceAdd, frz, false_or, or_true, hlt, hg, cStr, List.getElem?_map, Option.map_some, List.length_map, hle,  decide_true, decide_false, wk, PV.isPure, List.all_cons, List.all_nil])
            | (refine ⟨rfl, ?_⟩))
          first
            | (refine ⟨by simp, n - 1, by omega, k + 1, v, by omega, ?_⟩
               rw [hst]
               simp [trim_mk, go_sem, Nat.reduceLT, Nat.reduceAdd, Nat.reduceEqDiff, Nat.reduceLeDiff, Nat.reduceSub, Nat.reduceMul, Int.reduceEq, eq_self, reduceIte, subHeap, renObj, renCell, renLeaf, pos, List.range_succ, cStr]
               done)
            | (refine ⟨by simp, n - 1, by omega, k + 1, v + 1, by omega, ?_⟩
               rw [hst]
               simp [trim_mk, go_sem, Nat.reduceLT, Nat.reduceAdd, Nat.reduceEqDiff, Nat.reduceLeDiff, Nat.reduceSub, Nat.reduceMul, Int.reduceEq, eq_self, reduceIte, subHeap, renObj, renCell, renLeaf, pos, List.range_succ, cStr]
               done)
            | (refine ⟨by simp, n - 1, by omega, k + 1, v + 1 + 1, by omega, ?_⟩
               rw [hst]
               simp [trim_mk, go_sem, Nat.reduceLT, Nat.reduceAdd, Nat.reduceEqDiff, Nat.reduceLeDiff, Nat.reduceSub, Nat.reduceMul, Int.reduceEq, eq_self, reduceIte, subHeap, renObj, renCell, renLeaf, pos, List.range_succ, cStr]
               done)
      · cases p <;> cases hle : leB s y
        all_goals
          skip
          simp only [wtStep, hle, hn, if_true, if_false, true_and, and_true, and_false, false_and, Bool.or_true, Bool.or_false, Bool.false_eq_true, reduceCtorEq, List.append_nil, Bool.true_or, Bool.false_or] at hst
          simp only [go_sem, Nat.reduceLT, Nat.reduceAdd, Nat.reduceEqDiff, Nat.reduceLeDiff, Nat.reduceSub, Nat.reduceMul, Int.reduceEq, eq_self, reduceIte, Int.ofNat_zero, Int.natCast_one, Int.cast_ofNat_Int, Int.reduceLT, Int.reduceLE, Int.reduceToNat, Nat.reduceLT, Int.toNat_zero, Int.natCast_zero, Int.le_refl, Int.lt_irrefl, Int.reduceAdd, frz, false_or, or_true, hlt, hg, cStr, List.getElem?_map, Option.map_some, List.length_map, hle, hn, decide_true, decide_false, wk, PV.isPure, List.all_cons, List.all_nil]
          repeat (first
            | (rw [app_arr rfl rfl (by simp) (by simp; omega)]
               simp only [go_sem, Nat.reduceLT, Nat.reduceAdd, Nat.reduceEqDiff, Nat.reduceLeDiff, Nat.reduceSub, Nat.reduceMul, Int.reduceEq, eq_self, reduceIte, Int.ofNat_zero, Int.natCast_one, Int.cast_ofNat_Int, Int.reduceLT, Int.reduceLE, Int.reduceToNat, Nat.reduceLT, Int.toNat_zero, Int.natCast_zero, Int.le_refl, Int.lt_irrefl, Int.reduceAdd, frz, false_or, or_true, hlt, hg, cStr, List.getElem?_map, Option.map_some, List.length_map, hle, hn, decide_true, decide_false, wk, PV.isPure, List.all_cons, List.all_nil])
            | (refine ⟨rfl, ?_⟩))
          first
            | (refine ⟨by simp, n - 1, by omega, k + 1, v, by omega, ?_⟩
               rw [hst]
               simp [trim_mk, go_sem, Nat.reduceLT, Nat.reduceAdd, Nat.reduceEqDiff, Nat.reduceLeDiff, Nat.reduceSub, Nat.reduceMul, Int.reduceEq, eq_self, reduceIte, subHeap, renObj, renCell, renLeaf, pos, List.range_succ, cStr]
               done)
            | (refine ⟨by simp, n - 1, by omega, k + 1, v + 1, by omega, ?_⟩
               rw [hst]
               simp [trim_mk, go_sem, Nat.reduceLT, Nat.reduceAdd, Nat.reduceEqDiff, Nat.reduceLeDiff, Nat.reduceSub, Nat.reduceMul, Int.reduceEq, eq_self, reduceIte, subHeap, renObj, renCell, renLeaf, pos, List.range_succ, cStr]
               done)
            | (refine ⟨by simp, n - 1, by omega, k + 1, v + 1 + 1, by omega, ?_⟩
               rw [hst]
               simp [trim_mk, go_sem, Nat.reduceLT, Nat.reduceAdd, Nat.reduceEqDiff, Nat.reduceLeDiff, Nat.reduceSub, Nat.reduceMul, Int.reduceEq, eq_self, reduceIte, subHeap, renObj, renCell, renLeaf, pos, List.range_succ, cStr]
               done)
    · have htk : l.take k = l := List.take_of_length_le (by omega)
      rw [htk]
      obtain ⟨R, hR⟩ : ∃ R, wtF s l = R := ⟨_, rfl⟩
      have hlen := wtF_len s l
      rw [withT, hR]
      rw [hR] at hlen
      obtain ⟨o, p⟩ := R
      simp only at hlen
      cases p
      · simp only [go_sem, Nat.reduceLT, Nat.reduceAdd, Nat.reduceEqDiff, Nat.reduceLeDiff, Nat.reduceSub, Nat.reduceMul, Int.reduceEq, eq_self, reduceIte, Int.ofNat_zero, Int.natCast_one, Int.cast_ofNat_Int, Int.reduceLT, Int.reduceLE, Int.reduceToNat, Nat.reduceLT, Int.toNat_zero, Int.natCast_zero, Int.le_refl, Int.lt_irrefl, Int.reduceAdd, frz, false_or, or_true, hlt, List.length_map, PV.isPure, List.all_cons, List.all_nil]
        rw [app_arr rfl rfl (by simp) (by simp; omega)]
        simp only [go_sem, Nat.reduceLT, Nat.reduceAdd, Nat.reduceEqDiff, Nat.reduceLeDiff, Nat.reduceSub, Nat.reduceMul, Int.reduceEq, eq_self, reduceIte]
        refine ret_weak (weak_shut 0 rfl) ?_
        refine ret_pure hx ?_
        simp [go_sem, Nat.reduceLT, Nat.reduceAdd, Nat.reduceEqDiff, Nat.reduceLeDiff, Nat.reduceSub, Nat.reduceMul, Int.reduceEq, eq_self, reduceIte, L50, R50, frzAt, pos, cStr]
      · simp only [go_sem, Nat.reduceLT, Nat.reduceAdd, Nat.reduceEqDiff, Nat.reduceLeDiff, Nat.reduceSub, Nat.reduceMul, Int.reduceEq, eq_self, reduceIte, Int.ofNat_zero, Int.natCast_one, Int.cast_ofNat_Int, Int.reduceLT, Int.reduceLE, Int.reduceToNat, Nat.reduceLT, Int.toNat_zero, Int.natCast_zero, Int.le_refl, Int.lt_irrefl, Int.reduceAdd, frz, false_or, or_true, hlt, List.length_map]
        refine ret_weak (weak_shut 0 rfl) ?_
        refine ret_pure hx ?_
        simp [go_sem, Nat.reduceLT, Nat.reduceAdd, Nat.reduceEqDiff, Nat.reduceLeDiff, Nat.reduceSub, Nat.reduceMul, Int.reduceEq, eq_self, reduceIte, L50, R50, frzAt, pos, cStr]
end Go.Proofs.YtfdolehffjmdmaaGreatDoor
/- Ids that are told, rising: a contract. -/
namespace Go.Proofs.YtfdolehffjmdmaaGreatDoor
set_option linter.unusedSimpArgs false
set_option linter.unusedVariables false
open Go.RowKit
end Go.Proofs.YtfdolehffjmdmaaGreatDoor
/- Heads in the law text's words: a contract. -/
namespace Go.Proofs.YtfdolehffjmdmaaGreatDoor
set_option linter.unusedSimpArgs false
set_option linter.unusedVariables false
open Go.RowKit
theorem marksOf_length (l : List Entry) (a : Nat) : (marksOf l a).length = l.length := marks_length l a (a + 1)
end Go.Proofs.YtfdolehffjmdmaaGreatDoor
