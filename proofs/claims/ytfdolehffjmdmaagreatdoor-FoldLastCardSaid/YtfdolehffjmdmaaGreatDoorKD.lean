/- Joined texts of this claim: D5 D4 D6 D7 D8 F6 F7 H1 Lt F8 F9 M4 F10 F11 F12 F4 F5 F13 D9 D10 F14 F15 F16 G2 F17 S4 S5 S6 S7 D11 G3 D12 D13 D14 D15. -/
import Derived.Test.YtfdolehffjmdmaaGreatDoorKC
import Derived.Test.YtfdolehffjmdmaaGreatDoorKB
import Derived.Shelf.Small.Strs
import Derived.Deep.RegionLaw
import Derived.Lib.SlicesDelete
import Derived.Shelf.Spec.SlicesInsert
import Derived.ArgAppend
import Derived.Shelf.Spec.SlicesInsertGrow
set_option linter.unusedSimpArgs false
set_option linter.unusedVariables false
set_option linter.unusedSectionVars false
/- Pasts: contracts. -/
namespace Go.Proofs.YtfdolehffjmdmaaGreatDoor
set_option linter.unusedSimpArgs false
set_option linter.unusedVariables false
open Go.RowKit
def ofRows (ps : List (List Id)) : List (List PV) := ps.map fun p => [.list (p.map cId)]
def pvPasts (l : List Entry) (ps : List (List Id)) : PV := .rptr [.list (l.map cE), .list (ofRows ps)]
theorem of_meets (l : List Entry) (ps : List (List Id)) (x : Id) (hl : l.length ≤ 9223372036854775806) (h0 : 0 ≤ findE l x) (h1 : findE l x < ps.length) :
    Meets Tryz.prog 101 [pvPasts l ps, .agg (cId x)] [] (.list ((pastAt ps l x).map cId)) [] := by
  have hg : ps[(findE l x).toNat]? = some (pastAt ps l x) := nth_get? _ _ (by omega)
  refine Meets.of_walk Tryz.func101 Tryz.ntmps101 low101 res101 (by simp) fun xx hx => ?_
  simp only [go_sem, Nat.reduceLT, Nat.reduceAdd, Nat.reduceEqDiff, Nat.reduceLeDiff, Nat.reduceSub, Nat.reduceMul, Int.reduceEq, eq_self, reduceIte, L101, R101, cId, pvPasts, ofRows]
  refine ops_call (.pureE (find_meets l x hl) (by simp [go_sem, Nat.reduceLT, Nat.reduceAdd, Nat.reduceEqDiff, Nat.reduceLeDiff, Nat.reduceSub, Nat.reduceMul, Int.reduceEq, eq_self, reduceIte, cId])) ?_
  simp only [go_sem, Nat.reduceLT, Nat.reduceAdd, Nat.reduceEqDiff, Nat.reduceLeDiff, Nat.reduceSub, Nat.reduceMul, Int.reduceEq, eq_self, reduceIte, h0, h1, hg]
  refine ret_pure hx ?_
  simp [go_sem, Nat.reduceLT, Nat.reduceAdd, Nat.reduceEqDiff, Nat.reduceLeDiff, Nat.reduceSub, Nat.reduceMul, Int.reduceEq, eq_self, reduceIte, L101, R101]
theorem ofA_meets (l : List Entry) (ps : List (List Id)) (x : Id) (v T : Nat) (hl : l.length ≤ 9223372036854775806) (h0 : 0 ≤ findE l x) (h1 : findE l x < ps.length) :
    Meets Tryz.prog 101 [.ptr 0 0, .agg (cId x)] [.box [.list (l.map cE), .arr 1 v], .arr v false false T 1 (ofRows ps)] (.list ((pastAt ps l x).map cId)) [.box [.list (l.map cE), .arr 1 v], .arr v false false T 1 (ofRows ps)] := by
  have hg : ps[(findE l x).toNat]? = some (pastAt ps l x) := nth_get? _ _ (by omega)
  refine Meets.of_walk Tryz.func101 Tryz.ntmps101 low101 res101 (by simp) fun xx hx => ?_
  simp only [go_sem, Nat.reduceLT, Nat.reduceAdd, Nat.reduceEqDiff, Nat.reduceLeDiff, Nat.reduceSub, Nat.reduceMul, Int.reduceEq, eq_self, reduceIte, L101, R101, cId, ofRows]
  refine ops_call (.pureE (find_meets l x hl) (by simp [go_sem, Nat.reduceLT, Nat.reduceAdd, Nat.reduceEqDiff, Nat.reduceLeDiff, Nat.reduceSub, Nat.reduceMul, Int.reduceEq, eq_self, reduceIte, cId])) ?_
  simp only [go_sem, Nat.reduceLT, Nat.reduceAdd, Nat.reduceEqDiff, Nat.reduceLeDiff, Nat.reduceSub, Nat.reduceMul, Int.reduceEq, eq_self, reduceIte, h0, h1, hg]
  refine ret_keep [] (by simp) (by simp) (by simp [hx]) ?_ ?_
  · simp [go_sem, Nat.reduceLT, Nat.reduceAdd, Nat.reduceEqDiff, Nat.reduceLeDiff, Nat.reduceSub, Nat.reduceMul, Int.reduceEq, eq_self, reduceIte, L101, R101, hx, pos, List.range_succ]
  · simp [subHeap, renObj, hx, go_sem, Nat.reduceLT, Nat.reduceAdd, Nat.reduceEqDiff, Nat.reduceLeDiff, Nat.reduceSub, Nat.reduceMul, Int.reduceEq, eq_self, reduceIte, pos, List.range_succ]
theorem allOf_take {ps : List (List Id)} {l : List Entry} {ls : List Id} {j : Nat} (h : j < ls.length) : allOf ps l (ls.take (j + 1)) = allOf ps l (ls.take j) ++ [nth ls j] ++ pastAt ps l (nth ls j) := by
  unfold allOf
  rw [List.take_succ_eq_append_getElem h, nth_eq _ _ h, List.flatMap_append]
  simp only [List.flatMap_cons, List.flatMap_nil, List.append_nil, List.append_assoc, List.cons_append, List.nil_append]
theorem pastAt_to {l : List Entry} {k : Nat} {x : Id} (hk : k ≤ l.length) (h0 : 0 ≤ findE l x) (h1 : findE l x < k) : pastAt (pastsTo l k) l x = pastOf l (findE l x).toNat := by
  unfold pastAt pastOf pasts
  rw [pastsTo_nth l (by omega : (findE l x).toNat < k), pastsTo_nth l (by omega : (findE l x).toNat < l.length)]
theorem allOf_len {l : List Entry} (h : LogOk l) {k : Nat} (hk : k < l.length) : ∀ j, j ≤ (nth l k).ls.length → (allOf (pastsTo l k) l ((nth l k).ls.take j)).length ≤ 41 * j
  | 0, _ => by simp [allOf]
  | j + 1, hj => by
    have hlj : j < (nth l k).ls.length := by omega
    obtain ⟨f1, f2⟩ := h.link_lt hk (x := nth (nth l k).ls j) (by rw [nth_eq _ _ hlj]; exact List.getElem_mem hlj)
    have := allOf_len h hk j (by omega)
    have h2 := pastOf_len h (k := (findE l (nth (nth l k).ls j)).toNat) (by omega)
    rw [allOf_take hlj, pastAt_to (by omega) f1 f2]
    simp only [List.length_append, List.length_cons, List.length_nil]
    omega
set_option maxHeartbeats 1000000 in
theorem before_meets (l : List Entry) (h : LogOk l) : Meets Tryz.prog 84 [.list (l.map cE)] [] (pvPasts l (pasts l)) [] := by
  have hm := h.len
  refine Meets.of_walk Tryz.func84 Tryz.ntmps84 low84 res84 (by simp) fun x hx => ?_
  simp only [go_sem, Nat.reduceLT, Nat.reduceAdd, Nat.reduceEqDiff, Nat.reduceLeDiff, Nat.reduceSub, Nat.reduceMul, Int.reduceEq, eq_self, reduceIte, L84, R84]
  refine W_weak (weak_ownc 0 1 0 44 1 false false rfl rfl (by omega)) ?_
  refine loop_inv [3, 12, 13, 14] 2 (fun n st => ∃ k : Nat, k + n = l.length ∧
    st = ⟨mkE .top [(3, .ptr 0 0), (12, .list (l.map cE)), (13, .int .i64 l.length), (14, .int .i64 k)], [.box [.list (l.map cE), .arr 1 k], .arr k false false 44 1 (ofRows (pastsTo l k))]⟩) l.length (by simp [hx]) (by simp) ?_ ?_
  · refine ⟨0, by omega, ?_⟩
    simp [trim_mk, go_sem, Nat.reduceLT, Nat.reduceAdd, Nat.reduceEqDiff, Nat.reduceLeDiff, Nat.reduceSub, Nat.reduceMul, Int.reduceEq, eq_self, reduceIte, subHeap, renObj, pos, List.range_succ, pastsTo, ofRows]
  · rintro n st ⟨k, hk, rfl⟩
    by_cases hlt : k < l.length
    · have hg : l[k]? = some (nth l k) := nth_get? _ _ hlt
      have wk := i64_up (k := k) (by omega)
      have hls := h.links hlt
      simp only [go_sem, Nat.reduceLT, Nat.reduceAdd, Nat.reduceEqDiff, Nat.reduceLeDiff, Nat.reduceSub, Nat.reduceMul, Int.reduceEq, eq_self, reduceIte, hlt, hg, cE]
      refine W_weak (weak_own 6 0 43 2 true false rfl (by omega)) ?_
      refine loop_inv [3, 6, 12, 13, 14, 19, 20, 21] 4 (fun n st => ∃ j : Nat, j + n = (nth l k).ls.length ∧
        st = ⟨mkE .top [(3, .ptr 0 0), (6, .arr 3 (2 * j)), (12, .list (l.map cE)), (13, .int .i64 l.length), (14, .int .i64 k), (19, .list ((nth l k).ls.map cId)), (20, .int .i64 (nth l k).ls.length), (21, .int .i64 j)],
          [.box [.list (l.map cE), .arr 1 k], .arr k false false 44 1 (ofRows (pastsTo l k)), .box (cE (nth l k)), .arr (2 * j) true false 43 2 ((allOf (pastsTo l k) l ((nth l k).ls.take j)).map cId)]⟩) (nth l k).ls.length (by simp [hx]) (by simp [St.put]) ?_ ?_
      · refine ⟨0, by omega, ?_⟩
        simp [trim_mk, go_sem, Nat.reduceLT, Nat.reduceAdd, Nat.reduceEqDiff, Nat.reduceLeDiff, Nat.reduceSub, Nat.reduceMul, Int.reduceEq, eq_self, reduceIte, subHeap, renObj, pos, List.range_succ, cE, allOf]
      · rintro n2 st ⟨j, hj, rfl⟩
        by_cases hlj : j < (nth l k).ls.length
        · have hgj : (nth l k).ls[j]? = some (nth (nth l k).ls j) := nth_get? _ _ hlj
          have wj := i64_up (k := j) (by omega)
          have hmem : nth (nth l k).ls j ∈ (nth l k).ls := by rw [nth_eq _ _ hlj]; exact List.getElem_mem hlj
          obtain ⟨f1, f2⟩ := h.link_lt hlt hmem
          simp only [go_sem, Nat.reduceLT, Nat.reduceAdd, Nat.reduceEqDiff, Nat.reduceLeDiff, Nat.reduceSub, Nat.reduceMul, Int.reduceEq, eq_self, reduceIte, hlj, hgj, cId]
          have b1 := allOf_len h hlt j (by omega)
          have b2 := pastOf_len h (k := (findE l (nth (nth l k).ls j)).toNat) (by omega)
          rw [← pastAt_to (k := k) (by omega) f1 f2] at b2
          rw [app_arr rfl rfl (by simp) (by simp; omega)]
          simp only [go_sem, Nat.reduceLT, Nat.reduceAdd, Nat.reduceEqDiff, Nat.reduceLeDiff, Nat.reduceSub, Nat.reduceMul, Int.reduceEq, eq_self, reduceIte]
          refine ops_call (.heapE [0, 1] (r' := .list ((pastAt (pastsTo l k) l (nth (nth l k).ls j)).map cId)) (H' := [.box [.list (l.map cE), .arr 1 k], .arr k false false 44 1 (ofRows (pastsTo l k)), .box (cE (nth l k)), .arr (2 * j + 1) true false 43 2 ((allOf (pastsTo l k) l ((nth l k).ls.take j)).map cId ++ [cId (nth (nth l k).ls j)]), .box (cId (nth (nth l k).ls j))]) (ofA_meets l (pastsTo l k) (nth (nth l k).ls j) k 44 (by omega) f1 (by simp; omega))
            (by simp) (by simp) (by simp [go_sem, Nat.reduceLT, Nat.reduceAdd, Nat.reduceEqDiff, Nat.reduceLeDiff, Nat.reduceSub, Nat.reduceMul, Int.reduceEq, eq_self, reduceIte, pos, cId]) (by simp [subHeap, renObj, go_sem, Nat.reduceLT, Nat.reduceAdd, Nat.reduceEqDiff, Nat.reduceLeDiff, Nat.reduceSub, Nat.reduceMul, Int.reduceEq, eq_self, reduceIte, pos]) rfl (by simp [merge, mergeObj, callId, renObj, pos, go_sem, Nat.reduceLT, Nat.reduceAdd, Nat.reduceEqDiff, Nat.reduceLeDiff, Nat.reduceSub, Nat.reduceMul, Int.reduceEq, eq_self, reduceIte, List.range_succ, backF, backId, cE, cId])) ?_
          simp only [go_sem, Nat.reduceLT, Nat.reduceAdd, Nat.reduceEqDiff, Nat.reduceLeDiff, Nat.reduceSub, Nat.reduceMul, Int.reduceEq, eq_self, reduceIte]
          rw [app_arr rfl rfl (by simp [cId]) (by simp; omega)]
          simp only [go_sem, Nat.reduceLT, Nat.reduceAdd, Nat.reduceEqDiff, Nat.reduceLeDiff, Nat.reduceSub, Nat.reduceMul, Int.reduceEq, eq_self, reduceIte, wj]
          refine ⟨rfl, ?_⟩
          refine ⟨by simp, n2 - 1, by omega, j + 1, by omega, ?_⟩
          simp [trim_mk, go_sem, Nat.reduceLT, Nat.reduceAdd, Nat.reduceEqDiff, Nat.reduceLeDiff, Nat.reduceSub, Nat.reduceMul, Int.reduceEq, eq_self, reduceIte, subHeap, renObj, pos, List.range_succ, cE, allOf_take hlj, show 2 * (j + 1) = 2 * j + 1 + 1 by omega]
        · have htl : (nth l k).ls.take j = (nth l k).ls := List.take_of_length_le (by omega)
          have b1 := allOf_len h hlt j (by omega)
          rw [htl] at b1
          simp only [go_sem, Nat.reduceLT, Nat.reduceAdd, Nat.reduceEqDiff, Nat.reduceLeDiff, Nat.reduceSub, Nat.reduceMul, Int.reduceEq, eq_self, reduceIte, hlj, htl]
          have hso := sortIds_meets (allOf (pastsTo l k) l (nth l k).ls) (2 * j) 43 (by omega)
          refine ops_call (.heapE [3] (r' := .tup []) (H' := [.box [.list (l.map cE), .arr 1 k], .arr k false false 44 1 (ofRows (pastsTo l k)), .box (cE (nth l k)), .arr (2 * j) true false 43 2 ((sortI (allOf (pastsTo l k) l (nth l k).ls)).map cId)]) hso
            (by simp) (by simp) (by simp [go_sem, Nat.reduceLT, Nat.reduceAdd, Nat.reduceEqDiff, Nat.reduceLeDiff, Nat.reduceSub, Nat.reduceMul, Int.reduceEq, eq_self, reduceIte, pos]) (by simp [subHeap, renObj, go_sem, Nat.reduceLT, Nat.reduceAdd, Nat.reduceEqDiff, Nat.reduceLeDiff, Nat.reduceSub, Nat.reduceMul, Int.reduceEq, eq_self, reduceIte, pos]) rfl (by simp [merge, mergeObj, callId, renObj, pos, go_sem, Nat.reduceLT, Nat.reduceAdd, Nat.reduceEqDiff, Nat.reduceLeDiff, Nat.reduceSub, Nat.reduceMul, Int.reduceEq, eq_self, reduceIte, List.range_succ, backF, backId, cE])) ?_
          simp only [go_sem, Nat.reduceLT, Nat.reduceAdd, Nat.reduceEqDiff, Nat.reduceLeDiff, Nat.reduceSub, Nat.reduceMul, Int.reduceEq, eq_self, reduceIte]
          have hco := compactIds_meets (sortI (allOf (pastsTo l k) l (nth l k).ls)) (2 * j) 43 (by rw [sortI_length]; omega)
          refine ops_call1 3 hco rfl rfl rfl rfl (by simp [go_sem, Nat.reduceLT, Nat.reduceAdd, Nat.reduceEqDiff, Nat.reduceLeDiff, Nat.reduceSub, Nat.reduceMul, Int.reduceEq, eq_self, reduceIte]) (by simp [go_sem, Nat.reduceLT, Nat.reduceAdd, Nat.reduceEqDiff, Nat.reduceLeDiff, Nat.reduceSub, Nat.reduceMul, Int.reduceEq, eq_self, reduceIte, pos]) rfl ?_
          simp only [go_sem, Nat.reduceLT, Nat.reduceAdd, Nat.reduceEqDiff, Nat.reduceLeDiff, Nat.reduceSub, Nat.reduceMul, Int.reduceEq, eq_self, reduceIte]
          rw [app_arr rfl rfl (by simp) (by simp [ofRows]; omega)]
          simp only [go_sem, Nat.reduceLT, Nat.reduceAdd, Nat.reduceEqDiff, Nat.reduceLeDiff, Nat.reduceSub, Nat.reduceMul, Int.reduceEq, eq_self, reduceIte, wk]
          refine ⟨rfl, rfl, rfl, ?_⟩
          refine ⟨by simp, n - 1, by omega, k + 1, by omega, ?_⟩
          simp [trim_mk, go_sem, Nat.reduceLT, Nat.reduceAdd, Nat.reduceEqDiff, Nat.reduceLeDiff, Nat.reduceSub, Nat.reduceMul, Int.reduceEq, eq_self, reduceIte, subHeap, renObj, pos, List.range_succ, cE, ofRows, pastsTo, setI]
    · have hke : k = l.length := by omega
      subst hke
      simp only [go_sem, Nat.reduceLT, Nat.reduceAdd, Nat.reduceEqDiff, Nat.reduceLeDiff, Nat.reduceSub, Nat.reduceMul, Int.reduceEq, eq_self, reduceIte, Nat.lt_irrefl]
      refine ret_weak (weak_rptr (cells' := [.list (l.map cE), .list (ofRows (pastsTo l l.length))]) 2 0 rfl rfl (by simp [frz]) rfl rfl) ?_
      refine ret_pure hx ?_
      simp [go_sem, Nat.reduceLT, Nat.reduceAdd, Nat.reduceEqDiff, Nat.reduceLeDiff, Nat.reduceSub, Nat.reduceMul, Int.reduceEq, eq_self, reduceIte, L84, R84, pvPasts, pasts]
end Go.Proofs.YtfdolehffjmdmaaGreatDoor
/- Logs, in the law text's words: counting, finding, being right; colors; ids among others: contracts. -/
namespace Go.Proofs.YtfdolehffjmdmaaGreatDoor
set_option linter.unusedSimpArgs false
set_option linter.unusedVariables false
open Go.RowKit
end Go.Proofs.YtfdolehffjmdmaaGreatDoor
/- Pasts, heads, counts: contracts. -/
namespace Go.Proofs.YtfdolehffjmdmaaGreatDoor
set_option linter.unusedSimpArgs false
set_option linter.unusedVariables false
open Go.RowKit
def hasI (l : List Id) (y : Id) : Bool := l.any fun x => decide (y = x)
theorem hasI_iff {l : List Id} {y : Id} : hasI l y = true ↔ y ∈ l := by simp [hasI]
theorem indexI2_meets (l : List Id) (y : Id) (hl : l.length ≤ 9223372036854775806) : Meets Tryz.prog 157 [.list (l.map cId), .agg (cId y)] [] (.int .i64 (idxF (fun x => decide (y = x)) l 0)) [] := by
  refine Meets.of_walk Tryz.func157 Tryz.ntmps157 low157 res157 (by simp) fun x hx => ?_
  simp only [go_sem, Nat.reduceLT, Nat.reduceAdd, Nat.reduceEqDiff, Nat.reduceLeDiff, Nat.reduceSub, Nat.reduceMul, Int.reduceEq, eq_self, reduceIte, L157, R157, cId]
  refine loop_inv [0, 3, 7, 8] 1 (fun n st => ∃ k : Nat, k + n = l.length ∧ idxF (fun x => decide (y = x)) (l.drop k) k = idxF (fun x => decide (y = x)) l 0 ∧
    st = ⟨mkE .top [(0, .list (l.map cId)), (3, .ptr 0 0), (7, .int .i64 l.length), (8, .int .i64 k)], [.box (cId y)]⟩) l.length (by simp [hx]) (by simp) ?_ ?_
  · refine ⟨0, by omega, by simp, ?_⟩
    simp [trim_mk, go_sem, Nat.reduceLT, Nat.reduceAdd, Nat.reduceEqDiff, Nat.reduceLeDiff, Nat.reduceSub, Nat.reduceMul, Int.reduceEq, eq_self, reduceIte, subHeap, renObj, pos, List.range_succ, cId]
  · rintro n st ⟨k, hk, hi, rfl⟩
    by_cases hlt : k < l.length
    · have hg : l[k]? = some (nth l k) := nth_get? _ _ hlt
      have wk := i64_up (k := k) (by omega)
      rw [idxF_drop _ l k hlt] at hi
      by_cases he : y = nth l k
      · simp only [go_sem, Nat.reduceLT, Nat.reduceAdd, Nat.reduceEqDiff, Nat.reduceLeDiff, Nat.reduceSub, Nat.reduceMul, Int.reduceEq, eq_self, reduceIte, hlt, hg, cId, beqId, he]
        refine ret_pure hx ?_
        simp [he] at hi
        simp [go_sem, Nat.reduceLT, Nat.reduceAdd, Nat.reduceEqDiff, Nat.reduceLeDiff, Nat.reduceSub, Nat.reduceMul, Int.reduceEq, eq_self, reduceIte, L157, R157, hi, he]
      · simp only [go_sem, Nat.reduceLT, Nat.reduceAdd, Nat.reduceEqDiff, Nat.reduceLeDiff, Nat.reduceSub, Nat.reduceMul, Int.reduceEq, eq_self, reduceIte, hlt, hg, cId, beqId, he, wk]
        refine ⟨by simp, n - 1, by omega, k + 1, by omega, by simpa [he] using hi, ?_⟩
        simp [trim_mk, go_sem, Nat.reduceLT, Nat.reduceAdd, Nat.reduceEqDiff, Nat.reduceLeDiff, Nat.reduceSub, Nat.reduceMul, Int.reduceEq, eq_self, reduceIte, subHeap, renObj, pos, List.range_succ, cId]
    · have : l.drop k = [] := List.drop_eq_nil_of_le (by omega)
      rw [this] at hi
      simp only [go_sem, Nat.reduceLT, Nat.reduceAdd, Nat.reduceEqDiff, Nat.reduceLeDiff, Nat.reduceSub, Nat.reduceMul, Int.reduceEq, eq_self, reduceIte, hlt]
      refine ret_pure hx ?_
      simp [go_sem, Nat.reduceLT, Nat.reduceAdd, Nat.reduceEqDiff, Nat.reduceLeDiff, Nat.reduceSub, Nat.reduceMul, Int.reduceEq, eq_self, reduceIte, L157, R157, ← hi, idxF]
theorem containsI_meets (l : List Id) (y : Id) (hl : l.length ≤ 9223372036854775806) : Meets Tryz.prog 131 [.list (l.map cId), .agg (cId y)] [] (.bool (hasI l y)) [] := by
  refine Meets.of_walk Tryz.func131 Tryz.ntmps131 low131 res131 (by simp) fun x hx => ?_
  simp only [go_sem, Nat.reduceLT, Nat.reduceAdd, Nat.reduceEqDiff, Nat.reduceLeDiff, Nat.reduceSub, Nat.reduceMul, Int.reduceEq, eq_self, reduceIte, L131, R131, cId]
  refine ops_call (.pureE (indexI2_meets l y hl) (by simp [go_sem, Nat.reduceLT, Nat.reduceAdd, Nat.reduceEqDiff, Nat.reduceLeDiff, Nat.reduceSub, Nat.reduceMul, Int.reduceEq, eq_self, reduceIte, cId])) ?_
  simp only [go_sem, Nat.reduceLT, Nat.reduceAdd, Nat.reduceEqDiff, Nat.reduceLeDiff, Nat.reduceSub, Nat.reduceMul, Int.reduceEq, eq_self, reduceIte]
  refine ret_pure hx ?_
  simp [go_sem, Nat.reduceLT, Nat.reduceAdd, Nat.reduceEqDiff, Nat.reduceLeDiff, Nat.reduceSub, Nat.reduceMul, Int.reduceEq, eq_self, reduceIte, L131, R131, hasI, idxF_any]
theorem ahead_meets (l : List Entry) (ps : List (List Id)) (y z : Id) (hl : l.length ≤ 9223372036854775806) (h0 : 0 ≤ findE l z) (h1 : findE l z < ps.length) (h2 : (pastAt ps l z).length ≤ 9223372036854775806) :
    Meets Tryz.prog 91 [pvPasts l ps, .agg (cId y), .agg (cId z)] [] (.bool (hasI (pastAt ps l z) y)) [] := by
  refine Meets.of_walk Tryz.func91 Tryz.ntmps91 low91 res91 (by simp) fun x hx => ?_
  simp only [go_sem, Nat.reduceLT, Nat.reduceAdd, Nat.reduceEqDiff, Nat.reduceLeDiff, Nat.reduceSub, Nat.reduceMul, Int.reduceEq, eq_self, reduceIte, L91, R91, cId, pvPasts]
  refine ops_call (.pureE (of_meets l ps z hl h0 h1) (by simp [go_sem, Nat.reduceLT, Nat.reduceAdd, Nat.reduceEqDiff, Nat.reduceLeDiff, Nat.reduceSub, Nat.reduceMul, Int.reduceEq, eq_self, reduceIte, cId, pvPasts])) ?_
  simp only [go_sem, Nat.reduceLT, Nat.reduceAdd, Nat.reduceEqDiff, Nat.reduceLeDiff, Nat.reduceSub, Nat.reduceMul, Int.reduceEq, eq_self, reduceIte]
  refine ops_call (.pureE (containsI_meets (pastAt ps l z) y h2) (by simp [go_sem, Nat.reduceLT, Nat.reduceAdd, Nat.reduceEqDiff, Nat.reduceLeDiff, Nat.reduceSub, Nat.reduceMul, Int.reduceEq, eq_self, reduceIte, cId])) ?_
  simp only [go_sem, Nat.reduceLT, Nat.reduceAdd, Nat.reduceEqDiff, Nat.reduceLeDiff, Nat.reduceSub, Nat.reduceMul, Int.reduceEq, eq_self, reduceIte]
  refine ret_pure hx ?_
  simp [go_sem, Nat.reduceLT, Nat.reduceAdd, Nat.reduceEqDiff, Nat.reduceLeDiff, Nat.reduceSub, Nat.reduceMul, Int.reduceEq, eq_self, reduceIte, L91, R91]
def bitB (c : Int) (i : Nat) : Bool := decide (c / 2 ^ i % 2 = 1)
def meetB (a b : Int) : Bool := (bitB a 0 && bitB b 0) || (bitB a 1 && bitB b 1) || (bitB a 2 && bitB b 2)
theorem and_meet0 {a b : Int} (ha : wthn a 1 7 = true) (hb : wthn b 1 7 = true) : (!decide (IntKind.i64.wrap ((BitVec.ofInt IntKind.i64.bits a &&& BitVec.ofInt IntKind.i64.bits b).toNat : Int) = 0)) = meetB a b := by
  have key : ∀ a b : Fin 8, (!decide (IntKind.i64.wrap ((BitVec.ofInt IntKind.i64.bits (a.val : Int) &&& BitVec.ofInt IntKind.i64.bits (b.val : Int)).toNat : Int) = 0)) = meetB (a.val : Int) (b.val : Int) := by decide +kernel
  rw [wthn_iff] at ha hb
  have := key ⟨a.toNat, by omega⟩ ⟨b.toNat, by omega⟩
  simp only [Int.toNat_of_nonneg (show 0 ≤ a by omega), Int.toNat_of_nonneg (show 0 ≤ b by omega)] at this
  exact this
theorem and_meet {a b : Int} (ha : wthn a 1 7 = true) (hb : wthn b 1 7 = true) : (!decide (IntKind.i64.wrap ((@HAnd.hAnd (BitVec 64) (BitVec 64) (BitVec 64) (@instHAndOfAndOp (BitVec IntKind.i64.bits) _) (BitVec.ofInt 64 a) (BitVec.ofInt 64 b)).toNat : Int) = 0)) = meetB a b := and_meet0 ha hb
def withC (l : List Entry) (c : Int) : List Entry := l.filter fun e => meetB e.c c
theorem withC_take {l : List Entry} {c : Int} {k : Nat} (h : k < l.length) : withC (l.take (k + 1)) c = withC (l.take k) c ++ if meetB (nth l k).c c then [nth l k] else [] := by
  unfold withC
  rw [List.take_succ_eq_append_getElem h, List.filter_append, nth_eq _ _ h]
  simp only [List.filter_cons, List.filter_nil]
theorem withC_len (l : List Entry) (c : Int) : (withC l c).length ≤ l.length := List.length_filter_le _ _
theorem LogOk.col {l : List Entry} (h : LogOk l) {k : Nat} (hk : k < l.length) : wthn (nth l k).c 1 7 = true := (check_ok_bounds (h.chk k hk)).2.1
theorem with_meets (l : List Entry) (c : Int) (h : LogOk l) (hc : wthn c 1 7 = true) : Meets Tryz.prog 129 [.list (l.map cE), .int .i64 c] [] (.list ((withC l c).map cE)) [] := by
  have hm := h.len
  refine Meets.of_walk Tryz.func129 Tryz.ntmps129 low129 res129 (by simp) fun x hx => ?_
  simp only [go_sem, Nat.reduceLT, Nat.reduceAdd, Nat.reduceEqDiff, Nat.reduceLeDiff, Nat.reduceSub, Nat.reduceMul, Int.reduceEq, eq_self, reduceIte, L129, R129]
  refine W_weak (weak_own 5 0 46 5 false false rfl (by omega)) ?_
  refine loop_inv [1, 5, 8, 9, 10] 1 (fun n st => ∃ k v : Nat, k + n = l.length ∧
    st = ⟨mkE .top [(1, .int .i64 c), (5, .arr 0 v), (8, .list (l.map cE)), (9, .int .i64 l.length), (10, .int .i64 k)], [.arr v false false 46 5 ((withC (l.take k) c).map cE)]⟩) l.length (by simp [hx]) (by simp [St.put]) ?_ ?_
  · refine ⟨0, 0, by omega, ?_⟩
    simp [trim_mk, go_sem, Nat.reduceLT, Nat.reduceAdd, Nat.reduceEqDiff, Nat.reduceLeDiff, Nat.reduceSub, Nat.reduceMul, Int.reduceEq, eq_self, reduceIte, subHeap, renObj, pos, List.range_succ, withC]
  · rintro n st ⟨k, v, hk, rfl⟩
    by_cases hlt : k < l.length
    · have hg : l[k]? = some (nth l k) := nth_get? _ _ hlt
      have wk := i64_up (k := k) (by omega)
      have hw := withC_take (c := c) hlt
      have hle := withC_len (l.take k) c
      rw [List.length_take] at hle
      have ha := and_meet (h.col hlt) hc
      cases hb : meetB (nth l k).c c
      · rw [hb] at ha hw
        simp only [go_sem, Nat.reduceLT, Nat.reduceAdd, Nat.reduceEqDiff, Nat.reduceLeDiff, Nat.reduceSub, Nat.reduceMul, Int.reduceEq, eq_self, reduceIte, hlt, hg, cE, ha, wk]
        refine ⟨by simp, n - 1, by omega, k + 1, v, by omega, ?_⟩
        simp [trim_mk, go_sem, Nat.reduceLT, Nat.reduceAdd, Nat.reduceEqDiff, Nat.reduceLeDiff, Nat.reduceSub, Nat.reduceMul, Int.reduceEq, eq_self, reduceIte, subHeap, renObj, pos, List.range_succ, hw]
      · rw [hb] at ha hw
        simp only [go_sem, Nat.reduceLT, Nat.reduceAdd, Nat.reduceEqDiff, Nat.reduceLeDiff, Nat.reduceSub, Nat.reduceMul, Int.reduceEq, eq_self, reduceIte, hlt, hg, cE, ha, wk]
        rw [app_arr rfl rfl (by simp) (by simp; omega)]
        simp only [go_sem, Nat.reduceLT, Nat.reduceAdd, Nat.reduceEqDiff, Nat.reduceLeDiff, Nat.reduceSub, Nat.reduceMul, Int.reduceEq, eq_self, reduceIte, wk]
        refine ⟨by simp, n - 1, by omega, k + 1, v + 1, by omega, ?_⟩
        simp [trim_mk, go_sem, Nat.reduceLT, Nat.reduceAdd, Nat.reduceEqDiff, Nat.reduceLeDiff, Nat.reduceSub, Nat.reduceMul, Int.reduceEq, eq_self, reduceIte, subHeap, renObj, pos, List.range_succ, hw, cE]
    · have : l.take k = l := List.take_of_length_le (by omega)
      simp only [go_sem, Nat.reduceLT, Nat.reduceAdd, Nat.reduceEqDiff, Nat.reduceLeDiff, Nat.reduceSub, Nat.reduceMul, Int.reduceEq, eq_self, reduceIte, hlt, this]
      refine ret_pure hx ?_
      simp [go_sem, Nat.reduceLT, Nat.reduceAdd, Nat.reduceEqDiff, Nat.reduceLeDiff, Nat.reduceSub, Nat.reduceMul, Int.reduceEq, eq_self, reduceIte, L129, R129, frzAt, pos]
theorem closed2 (c d : List PV) (h : c.map (renCell false (pos [0, 1]) (frzAt false [.box c, .box d])) = c) (h2 : c.map (renCell false (pos [0, 1]) (frzAt true [.box c, .box d])) = c) (h3 : c.map (renCell false (backF 2 [0, 1]) noFz) = c)
    (g : d.map (renCell false (pos [0, 1]) (frzAt false [.box c, .box d])) = d) (g2 : d.map (renCell false (pos [0, 1]) (frzAt true [.box c, .box d])) = d) (g3 : d.map (renCell false (backF 2 [0, 1]) noFz) = d) :
    ClosedH [.box c, .box d] [.ptr 0 0, .ptr 1 0] := by
  refine ⟨?_, ?_, ?_, ?_, ?_⟩
  · simp [renLeaf, pos, List.range_succ]
  · simp [ren, renCell, renLeaf, pos, List.range_succ]
  · simp only [List.length_cons, List.length_nil, List.range_succ, List.range_zero, List.nil_append, List.cons_append, subHeap, List.map_cons, List.map_nil, List.getElem?_cons_zero, List.getElem?_cons_succ, Option.getD_some, renObj, h, g]
  · simp only [List.length_cons, List.length_nil, List.range_succ, List.range_zero, List.nil_append, List.cons_append, merge, List.map_cons, List.map_nil, mergeObj, callId, Nat.zero_add, Nat.sub_self, Nat.add_zero]
    simp [pos, renObj, h3, g3]
  · simp only [List.length_cons, List.length_nil, List.range_succ, List.range_zero, List.nil_append, List.cons_append, subHeap, List.map_cons, List.map_nil, List.getElem?_cons_zero, List.getElem?_cons_succ, Option.getD_some, renObj, h2, g2]
theorem closedT (l : List Entry) (ps : List (List Id)) (e : Entry) : ClosedH [.box [pvPasts l ps], .box (cE e)] [.ptr 0 0, .ptr 1 0] := by
  refine closed2 _ _ ?_ ?_ ?_ ?_ ?_ ?_ <;> simp [pvPasts, cE, renCell, renLeaf]
theorem top1_meets (l : List Entry) (ps : List (List Id)) (e f : Entry) (hl : l.length ≤ 9223372036854775806) (h0 : 0 ≤ findE l f.id) (h1 : findE l f.id < ps.length) (h2 : (pastAt ps l f.id).length ≤ 9223372036854775806) :
    Meets Tryz.prog 139 [.agg (cE f), .ptr 0 0, .ptr 1 0] [.box [pvPasts l ps], .box (cE e)] (.bool (hasI (pastAt ps l f.id) e.id)) [.box [pvPasts l ps], .box (cE e)] := by
  refine Meets.of_walk Tryz.func139 Tryz.ntmps139 low139 res139 (by simp) fun x hx => ?_
  simp only [go_sem, Nat.reduceLT, Nat.reduceAdd, Nat.reduceEqDiff, Nat.reduceLeDiff, Nat.reduceSub, Nat.reduceMul, Int.reduceEq, eq_self, reduceIte, L139, R139, cE]
  refine ops_call (.pureE (ahead_meets l ps e.id f.id hl h0 h1 h2) (by simp [go_sem, Nat.reduceLT, Nat.reduceAdd, Nat.reduceEqDiff, Nat.reduceLeDiff, Nat.reduceSub, Nat.reduceMul, Int.reduceEq, eq_self, reduceIte, cId, pvPasts])) ?_
  simp only [go_sem, Nat.reduceLT, Nat.reduceAdd, Nat.reduceEqDiff, Nat.reduceLeDiff, Nat.reduceSub, Nat.reduceMul, Int.reduceEq, eq_self, reduceIte]
  refine ret_keep [] (by simp) (by simp) (by simp [hx]) ?_ ?_
  · simp [go_sem, Nat.reduceLT, Nat.reduceAdd, Nat.reduceEqDiff, Nat.reduceLeDiff, Nat.reduceSub, Nat.reduceMul, Int.reduceEq, eq_self, reduceIte, L139, R139, hx]
  · simp [subHeap, renObj, hx, go_sem, Nat.reduceLT, Nat.reduceAdd, Nat.reduceEqDiff, Nat.reduceLeDiff, Nat.reduceSub, Nat.reduceMul, Int.reduceEq, eq_self, reduceIte, pos, List.range_succ, cE, pvPasts]
def underB (l : List Entry) (c : Int) (e : Entry) : Bool := (withC l c).any fun f => hasI (pastAt (pasts l) l f.id) e.id
def headsC (l : List Entry) (c : Int) : List Id := ((withC l c).filter fun e => !underB l c e).map (·.id)
theorem headsC_take {l : List Entry} {c : Int} {s : List Entry} {k : Nat} (h : k < s.length) : ((s.take (k + 1)).filter fun e => !underB l c e).map (·.id) = ((s.take k).filter fun e => !underB l c e).map (·.id) ++ if underB l c (nth s k) then [] else [(nth s k).id] := by
  rw [List.take_succ_eq_append_getElem h, List.filter_append, nth_eq _ _ h, List.map_append]
  simp only [List.filter_cons, List.filter_nil]
  cases underB l c s[k] <;> rfl
theorem withC_mem {l : List Entry} {c : Int} {e : Entry} (h : e ∈ withC l c) : ∃ k, k < l.length ∧ nth l k = e := by
  obtain ⟨k, hk, rfl⟩ := List.getElem_of_mem (List.mem_filter.1 h).1
  exact ⟨k, hk, nth_eq _ _ hk⟩
theorem pastAt_eq {l : List Entry} (x : Id) : pastAt (pasts l) l x = pastOf l (findE l x).toNat := rfl
set_option maxHeartbeats 1000000 in
theorem top_meets (l : List Entry) (c : Int) (h : LogOk l) (hc : wthn c 1 7 = true) : Meets Tryz.prog 102 [.list (l.map cE), .int .i64 c] [] (.list ((sortI (headsC l c)).map cId)) [] := by
  have hm := h.len
  have hle := withC_len l c
  refine Meets.of_walk Tryz.func102 Tryz.ntmps102 low102 res102 (by simp) fun x hx => ?_
  simp only [go_sem, Nat.reduceLT, Nat.reduceAdd, Nat.reduceEqDiff, Nat.reduceLeDiff, Nat.reduceSub, Nat.reduceMul, Int.reduceEq, eq_self, reduceIte, L102, R102]
  refine ops_call (.pureE (before_meets l h) (by simp [go_sem, Nat.reduceLT, Nat.reduceAdd, Nat.reduceEqDiff, Nat.reduceLeDiff, Nat.reduceSub, Nat.reduceMul, Int.reduceEq, eq_self, reduceIte])) ?_
  simp only [go_sem, Nat.reduceLT, Nat.reduceAdd, Nat.reduceEqDiff, Nat.reduceLeDiff, Nat.reduceSub, Nat.reduceMul, Int.reduceEq, eq_self, reduceIte, pvPasts]
  refine ops_call (.pureE (with_meets l c h hc) (by simp [go_sem, Nat.reduceLT, Nat.reduceAdd, Nat.reduceEqDiff, Nat.reduceLeDiff, Nat.reduceSub, Nat.reduceMul, Int.reduceEq, eq_self, reduceIte])) ?_
  simp only [go_sem, Nat.reduceLT, Nat.reduceAdd, Nat.reduceEqDiff, Nat.reduceLeDiff, Nat.reduceSub, Nat.reduceMul, Int.reduceEq, eq_self, reduceIte]
  refine W_weak (weak_own 7 0 43 2 true false rfl (by omega)) ?_
  refine loop_inv [5, 6, 7, 15, 16, 17] 2 (fun n st => ∃ k v : Nat, k + n = (withC l c).length ∧
    st = ⟨mkE .top [(5, .ptr 0 0), (6, .list ((withC l c).map cE)), (7, .arr 1 v), (15, .list ((withC l c).map cE)), (16, .int .i64 (withC l c).length), (17, .int .i64 k)],
      [.box [pvPasts l (pasts l)], .arr v true false 43 2 ((((withC l c).take k).filter fun e => !underB l c e).map (·.id) |>.map cId)]⟩) (withC l c).length (by simp [hx]) (by simp [St.put]) ?_ ?_
  · refine ⟨0, 0, by omega, ?_⟩
    simp [trim_mk, go_sem, Nat.reduceLT, Nat.reduceAdd, Nat.reduceEqDiff, Nat.reduceLeDiff, Nat.reduceSub, Nat.reduceMul, Int.reduceEq, eq_self, reduceIte, subHeap, renObj, pos, List.range_succ, pvPasts]
  · rintro n st ⟨k, v, hk, rfl⟩
    by_cases hlt : k < (withC l c).length
    · have hg : (withC l c)[k]? = some (nth (withC l c) k) := nth_get? _ _ hlt
      have wk := i64_up (k := k) (by omega)
      have hw := headsC_take (l := l) (c := c) hlt
      have hle2 : ((((withC l c).take k).filter fun e => !underB l c e).map (·.id)).length ≤ 40 := by
        rw [List.length_map]
        refine Nat.le_trans (List.length_filter_le _ _) ?_
        rw [List.length_take]; omega
      simp only [go_sem, Nat.reduceLT, Nat.reduceAdd, Nat.reduceEqDiff, Nat.reduceLeDiff, Nat.reduceSub, Nat.reduceMul, Int.reduceEq, eq_self, reduceIte, hlt, hg, cE]
      have hcf := contFE_meets (withC l c) 139 [.ptr 0 0, .ptr 1 0] [.box [pvPasts l (pasts l)], .box (cE (nth (withC l c) k))] (fun f => hasI (pastAt (pasts l) l f.id) (nth (withC l c) k).id) (by kernel_rfl) (by omega) (closedT _ _ _) (fun f hf => by
        obtain ⟨j, hj, rfl⟩ := withC_mem hf
        have e := h.find hj
        exact top1_meets l (pasts l) _ _ (by omega) (by omega) (by simp [pasts]; omega) (by rw [pastAt_eq, e, Int.toNat_natCast]; have := pastOf_len h hj; omega))
      refine ops_call (.heapE [0, 2] (r' := .bool (underB l c (nth (withC l c) k))) (H' := [.box [pvPasts l (pasts l)], .arr v true false 43 2 ((((withC l c).take k).filter fun e => !underB l c e).map (·.id) |>.map cId), .box (cE (nth (withC l c) k))]) hcf
        (by simp) (by simp) (by simp [go_sem, Nat.reduceLT, Nat.reduceAdd, Nat.reduceEqDiff, Nat.reduceLeDiff, Nat.reduceSub, Nat.reduceMul, Int.reduceEq, eq_self, reduceIte, pos]) (by simp [subHeap, renObj, go_sem, Nat.reduceLT, Nat.reduceAdd, Nat.reduceEqDiff, Nat.reduceLeDiff, Nat.reduceSub, Nat.reduceMul, Int.reduceEq, eq_self, reduceIte, pos, cE, pvPasts]) rfl (by simp [merge, mergeObj, callId, renObj, pos, go_sem, Nat.reduceLT, Nat.reduceAdd, Nat.reduceEqDiff, Nat.reduceLeDiff, Nat.reduceSub, Nat.reduceMul, Int.reduceEq, eq_self, reduceIte, List.range_succ, backF, backId, cE, pvPasts])) ?_
      cases hu : underB l c (nth (withC l c) k)
      · rw [hu] at hw
        simp only [go_sem, Nat.reduceLT, Nat.reduceAdd, Nat.reduceEqDiff, Nat.reduceLeDiff, Nat.reduceSub, Nat.reduceMul, Int.reduceEq, eq_self, reduceIte, cE]
        rw [app_arr rfl rfl (by simp) (by simp at hle2 ⊢; omega)]
        simp only [go_sem, Nat.reduceLT, Nat.reduceAdd, Nat.reduceEqDiff, Nat.reduceLeDiff, Nat.reduceSub, Nat.reduceMul, Int.reduceEq, eq_self, reduceIte, wk]
        refine ⟨by simp, n - 1, by omega, k + 1, v + 1, by omega, ?_⟩
        rw [hw]
        simp [trim_mk, go_sem, Nat.reduceLT, Nat.reduceAdd, Nat.reduceEqDiff, Nat.reduceLeDiff, Nat.reduceSub, Nat.reduceMul, Int.reduceEq, eq_self, reduceIte, subHeap, renObj, pos, List.range_succ, cId, pvPasts]
      · rw [hu] at hw
        simp only [go_sem, Nat.reduceLT, Nat.reduceAdd, Nat.reduceEqDiff, Nat.reduceLeDiff, Nat.reduceSub, Nat.reduceMul, Int.reduceEq, eq_self, reduceIte, wk]
        refine ⟨by simp, n - 1, by omega, k + 1, v, by omega, ?_⟩
        rw [hw]
        simp [trim_mk, go_sem, Nat.reduceLT, Nat.reduceAdd, Nat.reduceEqDiff, Nat.reduceLeDiff, Nat.reduceSub, Nat.reduceMul, Int.reduceEq, eq_self, reduceIte, subHeap, renObj, pos, List.range_succ, cId, pvPasts]
    · have : (withC l c).take k = withC l c := List.take_of_length_le (by omega)
      have hle2 : (headsC l c).length ≤ 40 := by
        unfold headsC
        rw [List.length_map]
        refine Nat.le_trans (List.length_filter_le _ _) ?_
        omega
      simp only [go_sem, Nat.reduceLT, Nat.reduceAdd, Nat.reduceEqDiff, Nat.reduceLeDiff, Nat.reduceSub, Nat.reduceMul, Int.reduceEq, eq_self, reduceIte, hlt, this]
      have hso := sortIds_meets (headsC l c) v 43 (by omega)
      refine ops_call (.heapE [1] (r' := .tup []) (H' := [.box [pvPasts l (pasts l)], .arr v true false 43 2 ((sortI (headsC l c)).map cId)]) hso
        (by simp) (by simp) (by simp [go_sem, Nat.reduceLT, Nat.reduceAdd, Nat.reduceEqDiff, Nat.reduceLeDiff, Nat.reduceSub, Nat.reduceMul, Int.reduceEq, eq_self, reduceIte, pos]) (by simp [subHeap, renObj, go_sem, Nat.reduceLT, Nat.reduceAdd, Nat.reduceEqDiff, Nat.reduceLeDiff, Nat.reduceSub, Nat.reduceMul, Int.reduceEq, eq_self, reduceIte, pos, headsC]) rfl (by simp [merge, mergeObj, callId, renObj, pos, go_sem, Nat.reduceLT, Nat.reduceAdd, Nat.reduceEqDiff, Nat.reduceLeDiff, Nat.reduceSub, Nat.reduceMul, Int.reduceEq, eq_self, reduceIte, List.range_succ, backF, backId, pvPasts])) ?_
      simp only [go_sem, Nat.reduceLT, Nat.reduceAdd, Nat.reduceEqDiff, Nat.reduceLeDiff, Nat.reduceSub, Nat.reduceMul, Int.reduceEq, eq_self, reduceIte]
      refine ret_pure hx ?_
      simp [go_sem, Nat.reduceLT, Nat.reduceAdd, Nat.reduceEqDiff, Nat.reduceLeDiff, Nat.reduceSub, Nat.reduceMul, Int.reduceEq, eq_self, reduceIte, L102, R102, frzAt, pos]
end Go.Proofs.YtfdolehffjmdmaaGreatDoor
/- dag.Past, dag.Heads, dag.Count: contracts. -/
namespace Go.Proofs.YtfdolehffjmdmaaGreatDoor
set_option linter.unusedSimpArgs false
set_option linter.unusedVariables false
open Go.RowKit
def pastErr (l : List Entry) (y : Id) : Int := if checkLog l ≠ 0 then checkLog l else if findE l y < 0 then 5 else 0
def pastIds (l : List Entry) (y : Id) : List Id := if pastErr l y = 0 then pastOf l (findE l y).toNat else []
/-! the same in the law text's words -/
end Go.Proofs.YtfdolehffjmdmaaGreatDoor
/- Pasts and heads in the law text's words: contracts. -/
namespace Go.Proofs.YtfdolehffjmdmaaGreatDoor
set_option linter.unusedSimpArgs false
set_option linter.unusedVariables false
open Go.RowKit
def markL (l : List Entry) (ls : List Id) (M : List Bool) : List Bool := ls.foldl (fun M x => M.set (findE l x).toNat true) M
def markS (l : List Entry) (a i : Nat) (M : List Bool) : List Bool := if i = a ∨ nth M i = true then markL l (nth l i).ls M else M
def marks (l : List Entry) (a : Nat) : Nat → List Bool
  | 0 => List.replicate l.length false
  | s + 1 => markS l a (a - s) (marks l a s)
def marksOf (l : List Entry) (a : Nat) : List Bool := marks l a (a + 1)
theorem markL_length (l : List Entry) : ∀ (ls : List Id) (M : List Bool), (markL l ls M).length = M.length
  | [], _ => rfl
  | x :: ls, M => by
    show (markL l ls (M.set _ true)).length = _
    rw [markL_length l ls]; simp
theorem marks_length (l : List Entry) (a : Nat) : ∀ s, (marks l a s).length = l.length
  | 0 => by simp [marks]
  | s + 1 => by
    simp only [marks, markS]
    split
    · rw [markL_length, marks_length l a s]
    · exact marks_length l a s
end Go.Proofs.YtfdolehffjmdmaaGreatDoor
/- What the entries of a log do (fold.ops), and which of it stands. -/
namespace Go.Proofs.YtfdolehffjmdmaaGreatDoor
set_option linter.unusedSimpArgs false
set_option linter.unusedVariables false
open Go.RowKit
structure FOp where
  id : Id
  k : ByteArray
  v : ByteArray
  p : Bool
deriving Inhabited
def cOp (o : FOp) : List PV := [.int .i64 o.id.r, .int .i64 o.id.n, .str o.k, .str o.v, .bool o.p]
def opE (e : Entry) : Option FOp := if (opOf e.t).1 = 0 then none else some ⟨e.id, (opOf e.t).2.1, (opOf e.t).2.2, decide ((opOf e.t).1 = 1)⟩
def opsL (l : List Entry) (c : Int) : List FOp := (withC l c).filterMap opE
theorem opOf_kind (s : ByteArray) : (opOf s).1 = 0 ∨ (opOf s).1 = 1 ∨ (opOf s).1 = 2 := by
  unfold opOf
  split
  · split
    · exact .inr (.inl rfl)
    · exact .inl rfl
  · split
    · exact .inr (.inr rfl)
    · exact .inl rfl
  · exact .inl rfl
theorem opsL_take {l : List Entry} {k : Nat} (h : k < l.length) : (l.take (k + 1)).filterMap opE = (l.take k).filterMap opE ++ (opE (nth l k)).toList := by
  rw [List.take_add_one, nth_get? _ _ h, List.filterMap_append]
  cases h2 : opE (nth l k) <;> simp [h2]
theorem filterMap_len {α β : Type} (f : α → Option β) (l : List α) : (l.filterMap f).length ≤ l.length := List.length_filterMap_le ..
def standB (ps : List (List Id)) (l : List Entry) (all : List FOp) (o : FOp) : Bool := o.p && !(all.any fun x => decide (x.k = o.k) && hasI (pastAt ps l x.id) o.id)
set_option maxRecDepth 10000 in
set_option maxHeartbeats 4000000 in
theorem ops_meets (l : List Entry) (c : Int) (h : LogOk l) (hc : wthn c 1 7 = true) (ht : ∀ e ∈ l, e.t.size ≤ 4294967000) : Meets Tryz.prog 85 [.list (l.map cE), .int .i64 c] [] (.list ((opsL l c).map cOp)) [] := by
  have hm := h.len
  have hwl := withC_len l c
  have htw : ∀ e ∈ withC l c, e.t.size ≤ 4294967000 := fun e he => ht e (List.mem_filter.1 he).1
  refine Meets.of_walk Tryz.func85 Tryz.ntmps85 low85 res85 (by simp) fun x hx => ?_
  simp only [go_sem, Nat.reduceLT, Nat.reduceAdd, Nat.reduceEqDiff, Nat.reduceLeDiff, Nat.reduceSub, Nat.reduceMul, Int.reduceEq, eq_self, reduceIte, L85, R85]
  refine ops_call (.pure (with_meets l c h hc)) ?_
  simp only [go_sem, Nat.reduceLT, Nat.reduceAdd, Nat.reduceEqDiff, Nat.reduceLeDiff, Nat.reduceSub, Nat.reduceMul, Int.reduceEq, eq_self, reduceIte, List.length_map]
  refine W_weak (weak_own 5 0 131 5 false false rfl (by omega)) ?_
  obtain ⟨W, hW⟩ : ∃ W, withC l c = W := ⟨_, rfl⟩
  rw [opsL, hW]
  rw [hW] at hwl htw
  refine loop_inv [5, 14, 15, 16] 1 (fun n st => ∃ k v : Nat, k + n = W.length ∧
    st = ⟨mkE .top [(5, .arr 0 v), (14, .list (W.map cE)), (15, .int .i64 W.length), (16, .int .i64 k)], [.arr v false false 131 5 (((W.take k).filterMap opE).map cOp)]⟩) W.length (by simp [hx]) (by simp [St.put]) ?_ ?_
  · refine ⟨0, 0, by omega, ?_⟩
    simp [trim_mk, go_sem, Nat.reduceLT, Nat.reduceAdd, Nat.reduceEqDiff, Nat.reduceLeDiff, Nat.reduceSub, Nat.reduceMul, Int.reduceEq, eq_self, reduceIte, subHeap, renObj, pos, List.range_succ]
  · rintro n st ⟨k, v, hk, rfl⟩
    by_cases hlt : k < W.length
    · have hg : W[k]? = some (nth W k) := nth_get? _ _ hlt
      have wk := i64_up (k := k) (by omega)
      have hsz := htw (nth W k) (List.mem_of_getElem? hg)
      have htk := opsL_take hlt
      have hlen := filterMap_len opE (W.take k)
      rw [List.length_take] at hlen
      simp only [go_sem, Nat.reduceLT, Nat.reduceAdd, Nat.reduceEqDiff, Nat.reduceLeDiff, Nat.reduceSub, Nat.reduceMul, Int.reduceEq, eq_self, reduceIte, hlt, hg, cE]
      refine ops_call (.pureE (op_meets (nth W k).t (by omega)) (by simp [go_sem, Nat.reduceLT, Nat.reduceAdd, Nat.reduceEqDiff, Nat.reduceLeDiff, Nat.reduceSub, Nat.reduceMul, Int.reduceEq, eq_self, reduceIte])) ?_
      rcases opOf_kind (nth W k).t with h0 | h1 | h2
      · have hoe : opE (nth W k) = none := by simp [opE, h0]
        rw [hoe] at htk
        simp only [go_sem, Nat.reduceLT, Nat.reduceAdd, Nat.reduceEqDiff, Nat.reduceLeDiff, Nat.reduceSub, Nat.reduceMul, Int.reduceEq, eq_self, reduceIte, Int.ofNat_zero, Int.natCast_one, Int.cast_ofNat_Int, Int.reduceLT, Int.reduceLE, Int.reduceToNat, Nat.reduceLT, Int.toNat_zero, Int.natCast_zero, Int.le_refl, Int.lt_irrefl, Int.reduceAdd, frz, false_or, or_true, cOp4, h0, wk]
        refine ⟨by simp, n - 1, by omega, k + 1, v, by omega, ?_⟩
        rw [htk]
        simp [trim_mk, go_sem, Nat.reduceLT, Nat.reduceAdd, Nat.reduceEqDiff, Nat.reduceLeDiff, Nat.reduceSub, Nat.reduceMul, Int.reduceEq, eq_self, reduceIte, subHeap, renObj, pos, List.range_succ]
      · have hoe : opE (nth W k) = some ⟨(nth W k).id, (opOf (nth W k).t).2.1, (opOf (nth W k).t).2.2, true⟩ := by simp [opE, h1]
        rw [hoe] at htk
        simp only [go_sem, Nat.reduceLT, Nat.reduceAdd, Nat.reduceEqDiff, Nat.reduceLeDiff, Nat.reduceSub, Nat.reduceMul, Int.reduceEq, eq_self, reduceIte, Int.ofNat_zero, Int.natCast_one, Int.cast_ofNat_Int, Int.reduceLT, Int.reduceLE, Int.reduceToNat, Nat.reduceLT, Int.toNat_zero, Int.natCast_zero, Int.le_refl, Int.lt_irrefl, Int.reduceAdd, frz, false_or, or_true, cOp4, h1, wk]
        rw [app_arr rfl rfl (by simp) (by simp; omega)]
        simp only [go_sem, Nat.reduceLT, Nat.reduceAdd, Nat.reduceEqDiff, Nat.reduceLeDiff, Nat.reduceSub, Nat.reduceMul, Int.reduceEq, eq_self, reduceIte, wk]
        refine ⟨by simp, n - 1, by omega, k + 1, v + 1, by omega, ?_⟩
        rw [htk]
        simp [trim_mk, go_sem, Nat.reduceLT, Nat.reduceAdd, Nat.reduceEqDiff, Nat.reduceLeDiff, Nat.reduceSub, Nat.reduceMul, Int.reduceEq, eq_self, reduceIte, subHeap, renObj, renCell, renLeaf, pos, List.range_succ, cOp]
      · have hoe : opE (nth W k) = some ⟨(nth W k).id, (opOf (nth W k).t).2.1, (opOf (nth W k).t).2.2, false⟩ := by simp [opE, h2]
        rw [hoe] at htk
        simp only [go_sem, Nat.reduceLT, Nat.reduceAdd, Nat.reduceEqDiff, Nat.reduceLeDiff, Nat.reduceSub, Nat.reduceMul, Int.reduceEq, eq_self, reduceIte, Int.ofNat_zero, Int.natCast_one, Int.cast_ofNat_Int, Int.reduceLT, Int.reduceLE, Int.reduceToNat, Nat.reduceLT, Int.toNat_zero, Int.natCast_zero, Int.le_refl, Int.lt_irrefl, Int.reduceAdd, frz, false_or, or_true, cOp4, h2, wk]
        rw [app_arr rfl rfl (by simp) (by simp; omega)]
        simp only [go_sem, Nat.reduceLT, Nat.reduceAdd, Nat.reduceEqDiff, Nat.reduceLeDiff, Nat.reduceSub, Nat.reduceMul, Int.reduceEq, eq_self, reduceIte, wk]
        refine ⟨by simp, n - 1, by omega, k + 1, v + 1, by omega, ?_⟩
        rw [htk]
        simp [trim_mk, go_sem, Nat.reduceLT, Nat.reduceAdd, Nat.reduceEqDiff, Nat.reduceLeDiff, Nat.reduceSub, Nat.reduceMul, Int.reduceEq, eq_self, reduceIte, subHeap, renObj, renCell, renLeaf, pos, List.range_succ, cOp]
    · have : W.take k = W := List.take_of_length_le (by omega)
      simp only [go_sem, Nat.reduceLT, Nat.reduceAdd, Nat.reduceEqDiff, Nat.reduceLeDiff, Nat.reduceSub, Nat.reduceMul, Int.reduceEq, eq_self, reduceIte, hlt, this]
      refine ret_pure hx ?_
      simp [go_sem, Nat.reduceLT, Nat.reduceAdd, Nat.reduceEqDiff, Nat.reduceLeDiff, Nat.reduceSub, Nat.reduceMul, Int.reduceEq, eq_self, reduceIte, L85, R85, frzAt, pos]
theorem raw11_meets (l : List Entry) (ps : List (List Id)) (o y : FOp) (hl : l.length ≤ 9223372036854775806) (h0 : 0 ≤ findE l y.id) (h1 : findE l y.id < ps.length) (h2 : (pastAt ps l y.id).length ≤ 9223372036854775806) :
    Meets Tryz.prog 90 [.agg (cOp y), .rptr (cOp o), .rptr [pvPasts l ps]] [] (.bool (decide (y.k = o.k) && hasI (pastAt ps l y.id) o.id)) [] := by
  refine Meets.of_walk Tryz.func90 Tryz.ntmps90 low90 res90 (by simp) fun x hx => ?_
  simp only [go_sem, Nat.reduceLT, Nat.reduceAdd, Nat.reduceEqDiff, Nat.reduceLeDiff, Nat.reduceSub, Nat.reduceMul, Int.reduceEq, eq_self, reduceIte, L90, R90, cOp]
  by_cases hk : y.k = o.k
  · simp only [go_sem, Nat.reduceLT, Nat.reduceAdd, Nat.reduceEqDiff, Nat.reduceLeDiff, Nat.reduceSub, Nat.reduceMul, Int.reduceEq, eq_self, reduceIte, hk, decide_true, cOp]
    refine ops_call (.pureE (ahead_meets l ps o.id y.id hl h0 h1 h2) (by simp [go_sem, Nat.reduceLT, Nat.reduceAdd, Nat.reduceEqDiff, Nat.reduceLeDiff, Nat.reduceSub, Nat.reduceMul, Int.reduceEq, eq_self, reduceIte, cId, pvPasts])) ?_
    simp only [go_sem, Nat.reduceLT, Nat.reduceAdd, Nat.reduceEqDiff, Nat.reduceLeDiff, Nat.reduceSub, Nat.reduceMul, Int.reduceEq, eq_self, reduceIte]
    refine ret_pure hx ?_
    simp [go_sem, Nat.reduceLT, Nat.reduceAdd, Nat.reduceEqDiff, Nat.reduceLeDiff, Nat.reduceSub, Nat.reduceMul, Int.reduceEq, eq_self, reduceIte, L90, R90, hk]
  · simp only [go_sem, Nat.reduceLT, Nat.reduceAdd, Nat.reduceEqDiff, Nat.reduceLeDiff, Nat.reduceSub, Nat.reduceMul, Int.reduceEq, eq_self, reduceIte, hk, decide_false, cOp]
    refine ret_pure hx ?_
    simp [go_sem, Nat.reduceLT, Nat.reduceAdd, Nat.reduceEqDiff, Nat.reduceLeDiff, Nat.reduceSub, Nat.reduceMul, Int.reduceEq, eq_self, reduceIte, L90, R90]
end Go.Proofs.YtfdolehffjmdmaaGreatDoor
/- Puts that stand: slices asked by a function at what entries do. -/
namespace Go.Proofs.YtfdolehffjmdmaaGreatDoor
set_option linter.unusedSimpArgs false
set_option linter.unusedVariables false
open Go.RowKit
theorem indexOp_meets (l : List FOp) (g : Nat) (caps : List PV) (Hs : List AObj) (p : FOp → Bool) (hg : hasBody Tryz.prog g = true) (hl : l.length ≤ 9223372036854775806) (hc : ClosedH Hs caps)
    (hp : ∀ e ∈ l, Meets Tryz.prog g (.agg (cOp e) :: caps) Hs (.bool (p e)) Hs) :
    Meets Tryz.prog 130 [.list (l.map cOp), .clo g caps] Hs (.int .i64 (idxF p l 0)) Hs := by
  refine Meets.of_walk Tryz.func130 Tryz.ntmps130 low130 res130 (by simp) fun x hx => ?_
  simp only [go_sem, Nat.reduceLT, Nat.reduceAdd, Nat.reduceEqDiff, Nat.reduceLeDiff, Nat.reduceSub, Nat.reduceMul, Int.reduceEq, eq_self, reduceIte, L130, R130]
  refine loop_keep [0, 1, 7, 8] (fun n st => ∃ k : Nat, k + n = l.length ∧ idxF p (l.drop k) k = idxF p l 0 ∧
    st = ⟨mkE .top [(0, .list (l.map cOp)), (1, .clo g caps), (7, .int .i64 l.length), (8, .int .i64 k)], Hs⟩) l.length ?_ ?_
  · refine ⟨0, by omega, by simp, ?_⟩
    simp [keep_mk, go_sem, Nat.reduceLT, Nat.reduceAdd, Nat.reduceEqDiff, Nat.reduceLeDiff, Nat.reduceSub, Nat.reduceMul, Int.reduceEq, eq_self, reduceIte]
  · rintro n st ⟨k, hk, hi, rfl⟩
    by_cases hlt : k < l.length
    · have hgt : l[k]? = some (nth l k) := nth_get? _ _ hlt
      have wk := i64_up (k := k) (by omega)
      rw [idxF_drop p l k hlt] at hi
      simp only [go_sem, Nat.reduceLT, Nat.reduceAdd, Nat.reduceEqDiff, Nat.reduceLeDiff, Nat.reduceSub, Nat.reduceMul, Int.reduceEq, eq_self, reduceIte, hlt, hgt, cOp, cId]
      refine ops_callv rfl hg (.whole (hp (nth l k) (by rw [nth_eq _ _ hlt]; exact List.getElem_mem hlt)) rfl ?_ hc.sub hc.back) ?_
      · simp only [go_sem, Nat.reduceLT, Nat.reduceAdd, Nat.reduceEqDiff, Nat.reduceLeDiff, Nat.reduceSub, Nat.reduceMul, Int.reduceEq, eq_self, reduceIte, cOp, cId]
        rw [hc.caps]
      cases hpk : p (nth l k)
      · rw [if_neg (by simp [hpk])] at hi
        simp only [go_sem, Nat.reduceLT, Nat.reduceAdd, Nat.reduceEqDiff, Nat.reduceLeDiff, Nat.reduceSub, Nat.reduceMul, Int.reduceEq, eq_self, reduceIte, wk]
        exact ⟨n - 1, by omega, k + 1, by omega, hi, by simp [keep_mk, go_sem, Nat.reduceLT, Nat.reduceAdd, Nat.reduceEqDiff, Nat.reduceLeDiff, Nat.reduceSub, Nat.reduceMul, Int.reduceEq, eq_self, reduceIte]⟩
      · rw [if_pos hpk] at hi
        simp only [go_sem, Nat.reduceLT, Nat.reduceAdd, Nat.reduceEqDiff, Nat.reduceLeDiff, Nat.reduceSub, Nat.reduceMul, Int.reduceEq, eq_self, reduceIte]
        refine ret_scal hx rfl hc.kept ?_
        simp [go_sem, Nat.reduceLT, Nat.reduceAdd, Nat.reduceEqDiff, Nat.reduceLeDiff, Nat.reduceSub, Nat.reduceMul, Int.reduceEq, eq_self, reduceIte, L130, R130, hi]
    · have : l.drop k = [] := List.drop_eq_nil_of_le (by omega)
      rw [this] at hi
      simp only [go_sem, Nat.reduceLT, Nat.reduceAdd, Nat.reduceEqDiff, Nat.reduceLeDiff, Nat.reduceSub, Nat.reduceMul, Int.reduceEq, eq_self, reduceIte, hlt]
      refine ret_scal hx rfl hc.kept ?_
      simp [go_sem, Nat.reduceLT, Nat.reduceAdd, Nat.reduceEqDiff, Nat.reduceLeDiff, Nat.reduceSub, Nat.reduceMul, Int.reduceEq, eq_self, reduceIte, L130, R130, ← hi, idxF]
theorem contFOp_meets (l : List FOp) (g : Nat) (caps : List PV) (Hs : List AObj) (p : FOp → Bool) (hg : hasBody Tryz.prog g = true) (hl : l.length ≤ 9223372036854775806) (hc : ClosedH Hs caps)
    (hp : ∀ e ∈ l, Meets Tryz.prog g (.agg (cOp e) :: caps) Hs (.bool (p e)) Hs) :
    Meets Tryz.prog 89 [.list (l.map cOp), .clo g caps] Hs (.bool (l.any p)) Hs := by
  refine Meets.of_walk Tryz.func89 Tryz.ntmps89 low89 res89 (by simp) fun x hx => ?_
  simp only [go_sem, Nat.reduceLT, Nat.reduceAdd, Nat.reduceEqDiff, Nat.reduceLeDiff, Nat.reduceSub, Nat.reduceMul, Int.reduceEq, eq_self, reduceIte, L89, R89]
  refine ops_call (.whole (indexOp_meets l g caps Hs p hg hl hc hp) rfl ?_ hc.sub hc.back) ?_
  · simp only [go_sem, Nat.reduceLT, Nat.reduceAdd, Nat.reduceEqDiff, Nat.reduceLeDiff, Nat.reduceSub, Nat.reduceMul, Int.reduceEq, eq_self, reduceIte]
    rw [hc.leaf]
  simp only [go_sem, Nat.reduceLT, Nat.reduceAdd, Nat.reduceEqDiff, Nat.reduceLeDiff, Nat.reduceSub, Nat.reduceMul, Int.reduceEq, eq_self, reduceIte]
  refine ret_scal hx rfl hc.kept ?_
  simp [go_sem, Nat.reduceLT, Nat.reduceAdd, Nat.reduceEqDiff, Nat.reduceLeDiff, Nat.reduceSub, Nat.reduceMul, Int.reduceEq, eq_self, reduceIte, L89, R89, idxF_any]
theorem closedCaps {caps : List PV} (h1 : caps.map (renLeaf true (pos (List.range 0)) (frzAt false [])) = caps) (h2 : caps.map (ren true (pos (List.range 0)) (frzAt false [])) = caps) : ClosedH [] caps := ⟨h1, h2, rfl, rfl, rfl⟩
theorem fraw1_meets (l : List Entry) (ps : List (List Id)) (all : List FOp) (o : FOp) (hl : l.length ≤ 9223372036854775806) (ha : all.length ≤ 9223372036854775806)
    (h : ∀ y ∈ all, 0 ≤ findE l y.id ∧ findE l y.id < ps.length ∧ (pastAt ps l y.id).length ≤ 9223372036854775806) :
    Meets Tryz.prog 88 [.agg (cOp o), .rptr [.list (all.map cOp)], .rptr [pvPasts l ps]] [] (.bool (!standB ps l all o)) [] := by
  have hc := contFOp_meets all 90 [.rptr (cOp o), .rptr [pvPasts l ps]] [] (fun y => decide (y.k = o.k) && hasI (pastAt ps l y.id) o.id) (by kernel_rfl) ha
    (closedCaps (by simp [renLeaf, cOp, pvPasts]) (by simp [ren, renT, renCell, renLeaf, cOp, pvPasts])) (fun y hy => raw11_meets l ps o y hl (h y hy).1 (h y hy).2.1 (h y hy).2.2)
  refine Meets.of_walk Tryz.func88 Tryz.ntmps88 low88 res88 (by simp) fun x hx => ?_
  simp only [go_sem, Nat.reduceLT, Nat.reduceAdd, Nat.reduceEqDiff, Nat.reduceLeDiff, Nat.reduceSub, Nat.reduceMul, Int.reduceEq, eq_self, reduceIte, L88, R88, cOp]
  cases hp : o.p
  · simp only [go_sem, Nat.reduceLT, Nat.reduceAdd, Nat.reduceEqDiff, Nat.reduceLeDiff, Nat.reduceSub, Nat.reduceMul, Int.reduceEq, eq_self, reduceIte]
    refine ret_pure hx ?_
    simp [go_sem, Nat.reduceLT, Nat.reduceAdd, Nat.reduceEqDiff, Nat.reduceLeDiff, Nat.reduceSub, Nat.reduceMul, Int.reduceEq, eq_self, reduceIte, L88, R88, standB, hp]
  · simp only [go_sem, Nat.reduceLT, Nat.reduceAdd, Nat.reduceEqDiff, Nat.reduceLeDiff, Nat.reduceSub, Nat.reduceMul, Int.reduceEq, eq_self, reduceIte]
    refine ops_call (.lookE hc rfl (by simp [go_sem, Nat.reduceLT, Nat.reduceAdd, Nat.reduceEqDiff, Nat.reduceLeDiff, Nat.reduceSub, Nat.reduceMul, Int.reduceEq, eq_self, reduceIte, lookF, lookN, cOp, pvPasts, hp])) ?_
    simp only [go_sem, Nat.reduceLT, Nat.reduceAdd, Nat.reduceEqDiff, Nat.reduceLeDiff, Nat.reduceSub, Nat.reduceMul, Int.reduceEq, eq_self, reduceIte]
    refine ret_pure hx ?_
    simp [go_sem, Nat.reduceLT, Nat.reduceAdd, Nat.reduceEqDiff, Nat.reduceLeDiff, Nat.reduceSub, Nat.reduceMul, Int.reduceEq, eq_self, reduceIte, L88, R88, standB, hp]
end Go.Proofs.YtfdolehffjmdmaaGreatDoor
/- Contracts of functions whose last pieces are no lowered code: these are shown by hand. -/
namespace Go.Proofs.YtfdolehffjmdmaaGreatDoor
open Go.RowKit
def flatC : Code → List Code
  | .seq a b => flatC a ++ flatC b
  | c => [c]
def lowAll (P : Program) (nt : Nat) : List Code → Option (List LC)
  | [] => some []
  | c :: l => match lowerCode P nt c, lowAll P nt l with
    | some a, some r => some (a :: r)
    | _, _ => none
def WPL (P : Program) : List Code → (Exit → Act → World → Prop) → Act → World → Prop
  | [], Q, a, w => Q .normal a w
  | c :: l, Q, a, w => c.wp P (Exit.then (WPL P l Q) Q) a w
section
variable {P : Program} {x : Cx} {nt : Nat} {st : St}
theorem then_mono {n n' : Act → World → Prop} {Q Q' : Exit → Act → World → Prop} (hn : ∀ a w, n a w → n' a w) (hq : ∀ e a w, Q e a w → Q' e a w) (e : Exit) (a : Act) (w : World) (h : Exit.then n Q e a w) : Exit.then n' Q' e a w := by
  cases e with
  | normal => exact hn _ _ h
  | _ => exact hq _ _ _ h
theorem WPL_mono : ∀ {l : List Code} {Q Q' : Exit → Act → World → Prop} {a : Act} {w : World}, WPL P l Q a w → (∀ e a w, Q e a w → Q' e a w) → WPL P l Q' a w
  | [], _, _, _, _, h, hq => hq _ _ _ h
  | c :: l, Q, Q', a, w, h, hq => wp_mono (c := c) h fun e a' w' h' => then_mono (fun _ _ h2 => WPL_mono (l := l) h2 hq) hq e a' w' h'
theorem WPL_app : ∀ {l1 l2 : List Code} {Q : Exit → Act → World → Prop} {a : Act} {w : World}, WPL P (l1 ++ l2) Q a w → WPL P l1 (Exit.then (WPL P l2 Q) Q) a w
  | [], _, _, _, _, h => h
  | c :: l1, l2, Q, a, w, h => wp_mono (c := c) h fun e a' w' h' => by
      cases e with
      | normal => exact WPL_app (l1 := l1) h'
      | _ => exact h'
theorem WPL_join : ∀ {l1 l2 : List Code} {Q : Exit → Act → World → Prop} {a : Act} {w : World}, WPL P l1 (Exit.then (WPL P l2 Q) Q) a w → WPL P (l1 ++ l2) Q a w
  | [], _, _, _, _, h => h
  | c :: l1, l2, Q, a, w, h => wp_mono (c := c) h fun e a' w' h' => by
      cases e with
      | normal => exact WPL_join (l1 := l1) h'
      | _ => exact h'
theorem wp_one {c : Code} {Q : Exit → Act → World → Prop} {a : Act} {w : World} (h : WPL P [c] Q a w) : c.wp P Q a w := wp_mono (c := c) h fun e a' w' h' => by cases e <;> exact h'
theorem wp_flat : ∀ {c : Code} {Q : Exit → Act → World → Prop} {a : Act} {w : World}, WPL P (flatC c) Q a w → c.wp P Q a w
  | .seq c1 c2, Q, a, w, h => by
    rw [flatC] at h
    refine wp_seq (wp_flat (c := c1) (WPL_mono (WPL_app h) fun e a' w' h' => ?_))
    cases e with
    | normal => exact wp_flat (c := c2) h'
    | _ => exact h'
  | .skip, _, _, _, h => wp_one h
  | .region .., _, _, _, h => wp_one h
  | .cond .., _, _, _, h => wp_one h
  | .block .., _, _, _, h => wp_one h
  | .loop .., _, _, _, h => wp_one h
  | .exit .., _, _, _, h => wp_one h
  | .ret, _, _, _, h => wp_one h
  | .rangeFunc .., _, _, _, h => wp_one h
  | .scope .., _, _, _, h => wp_one h
  | .label .., _, _, _, h => wp_one h
  | .goto .., _, _, _, h => wp_one h
  | .refuse .., _, _, _, h => wp_one h
theorem WPL_low : ∀ {l : List Code} {ll : List LC} {Q : AE → St → Prop} {st : St} {a : Act} {w : World}, lowAll P nt l = some ll → WL P x nt ll Q st → Rel x nt st a w → WPL P l (postOf x nt Q) a w
  | [], ll, Q, st, a, w, h, hw, hr => by cases h; exact ⟨st, hw, hr⟩
  | c :: l, ll, Q, st, a, w, h, hw, hr => by
    rw [lowAll] at h
    split at h <;> try (cases h; done)
    rename_i lc r h1 h2
    cases h
    refine wp_mono (hw c h1 a w hr) fun e a' w' hq => ?_
    cases e with
    | normal => obtain ⟨st', g1, g2⟩ := hq; exact WPL_low (l := l) h2 g1 g2
    | exit id => exact hq
    | ret => exact hq
    | goto l => exact hq.elim
    | panic ch => exact hq.elim
    | outgrown => exact hq.elim
theorem wl_value {ops : Array Oper} {Q : Exit → Act → World → Prop} {o : Oper} {rest : List Oper} {a : Act} {w w' : World} {v : Value} (hg : o.guard = none) (hex : (execOp a.eval o).run P w = .ok (.value v) w') (h : wpList P ops Q rest (a.put o.dst v) w') : wpList P ops Q (o :: rest) a w := by
  unfold wpList
  rw [if_pos (by simp [Region.wanted, hg])]
  refine .inl ?_
  unfold Oper.wp
  rw [hex]
  exact h
theorem Meets.of_code {f : Nat} {fn : Func} {c : Code} {lrs : List LRes} {args : List PV} {Hs Hs' : List AObj} {r : PV} {nt : Nat} (hf : P.funcs[f]? = some fn) (hnt : fn.ntmps = nt) (hb : fn.body = some c) (hres : lowerRes P fn.results.toList = some lrs)
    (hargs : args.length ≤ nt)
    (h : ∀ x : Cx, x.H0 = Hs → ∀ a w, Rel x nt (St.init args Hs) a w → c.wp P (postOf x nt (retQ x nt lrs r Hs')) a w) : Meets P f args Hs r Hs' := by
  intro x vs hx hr hp
  have hvl : vs.size = args.length := by have := hp.1; simpa using this
  refine calls_of_wp hf hb ?_
  have hrel : Rel x nt (St.init args Hs) { tmps := vs ++ Array.replicate (fn.ntmps - vs.size) Go.undef, defers := [] } x.w0 := by
    refine ⟨⟨x.C0, hr, fun t => ?_⟩, rfl, by simp; omega⟩
    simp only [St.init]
    by_cases ht : t < args.length
    · have e1 : args[t]? = some args[t] := List.getElem?_eq_getElem ht
      have e2 : vs.toList[t]? = some vs[t] := by simp [ht, hvl]
      have := hp.2 t _ _ e1 e2
      simp only [List.getD, e1, Option.getD_some]
      rw [show (vs ++ Array.replicate (fn.ntmps - vs.size) Go.undef).getD t Go.undef = vs[t] by
        simp [Array.getD, Array.getElem_append, hvl, ht]; omega]
      exact this
    · simp only [List.getD, List.getElem?_eq_none (by omega : args.length ≤ t), Option.getD_none]
      rw [show (vs ++ Array.replicate (fn.ntmps - vs.size) Go.undef).getD t Go.undef = Go.undef by
        simp only [Array.getD]
        split
        · rw [Array.getInternal_eq_getElem, Array.getElem_append_right (by omega)]; simp
        · rfl]
      exact .undef
  have fin : ∀ st a w, (∃ st' keep, Weak x nt st st' ∧ Ends x lrs keep r Hs' st') → Rel x nt st a w → a.defers = [] ∧ ∃ v, (results fn a.tmps).run P w = .ok v w ∧ ∃ v1 C', Ending.returned v = .returned v1 ∧ HR x C' Hs' w ∧ RepV (Stab x C' Hs' w) w C' r v1 := by
    intro st a w ⟨st', keep, hwk, ps, h1, h2, h3, h4, h5, h6⟩ hrel
    replace hrel := hwk a w hrel
    obtain ⟨⟨C, hr1, he⟩, hdf, hsz⟩ := hrel
    obtain ⟨us, k1, k2⟩ := evalRes_run hr1 he hres h1
    refine ⟨hdf, if h : us.toArray.size = 1 then us.toArray[0] else .tuple us.toArray, ?_, if h : us.toArray.size = 1 then us.toArray[0] else .tuple us.toArray, C.sub (List.range x.H0.length ++ keep), rfl, ?_⟩
    · have hm : (fn.results.mapM (resVal a.tmps)).run P w = .ok us.toArray w := by
        rw [Array.mapM_eq_mapM_toList]
        simp [k1]
      have hq : results fn a.tmps = (do let vs ← fn.results.mapM (resVal a.tmps); pure (if h : vs.size = 1 then vs[0] else .tuple vs)) := rfl
      rw [hq, Sem.run_bind, hm, Result.andThen_ok, Sem.run_pure]
    · have hlen : (List.range x.H0.length ++ keep).Nodup := by
        refine List.nodup_append.2 ⟨List.nodup_range, h2, fun a ha b hb e => ?_⟩
        have := List.mem_range.1 ha
        have := (h3 b hb).1
        omega
      obtain ⟨q1, q2⟩ := hr1.restrict (ks := List.range x.H0.length ++ keep) hlen (fun k hk => by
          rcases List.mem_append.1 hk with h | h
          · have := List.mem_range.1 h; omega
          · exact (h3 k h).2) (fun i hi => by rw [List.getElem?_append_left (by simpa using hi), List.getElem?_range hi])
      subst h5
      subst h6
      exact ⟨q1, renT_rep q2 (tupOf_rep k2)⟩
  refine wp_mono (h x hx _ _ hrel) fun e a w hq => ?_
  cases e with
  | normal => obtain ⟨st, g1, g2⟩ := hq; exact fin st a w g1 g2
  | ret => obtain ⟨st, g1, g2⟩ := hq; exact fin st a w g1 g2
  | exit id => obtain ⟨st, g1, g2⟩ := hq; exact g1.elim
  | goto l => exact hq.elim
  | panic ch => exact hq.elim
  | outgrown => exact hq.elim
theorem Meets.of_tail {f : Nat} {fn : Func} {c : Code} {l1 l2 : List Code} {ll : List LC} {lrs : List LRes} {args : List PV} {Hs Hs' : List AObj} {r : PV} {nt : Nat} (hf : P.funcs[f]? = some fn) (hnt : fn.ntmps = nt) (hb : fn.body = some c) (hfl : flatC c = l1 ++ l2)
    (hlow : lowAll P nt l1 = some ll) (hres : lowerRes P fn.results.toList = some lrs) (hargs : args.length ≤ nt) (K : Cx → St → Prop)
    (h : ∀ x : Cx, x.H0 = Hs → WL P x nt ll (thenQ (K x) (retQ x nt lrs r Hs')) ⟨mkE .undef (idxE 0 args), Hs⟩)
    (hK : ∀ x : Cx, x.H0 = Hs → ∀ st, K x st → ∀ a w, Rel x nt st a w → WPL P l2 (postOf x nt (retQ x nt lrs r Hs')) a w) : Meets P f args Hs r Hs' :=
  Meets.of_code hf hnt hb hres hargs fun x hx a w hr => wp_flat (by
    rw [hfl]
    refine WPL_join (WPL_mono (WPL_low hlow (h x hx) (by rw [← init_mk]; exact hr)) fun e a' w' hq => ?_)
    cases e with
    | normal => obtain ⟨st, g1, g2⟩ := hq; exact hK x hx st g1 a' w' g2
    | exit id => exact hq
    | ret => exact hq
    | goto l => exact hq
    | panic ch => exact hq
    | outgrown => exact hq)
end
end Go.Proofs.YtfdolehffjmdmaaGreatDoor
/- Lowered pieces of functions whose last pieces are shown by hand (printed by a program). -/
namespace Go.Proofs.YtfdolehffjmdmaaGreatDoor
set_option maxRecDepth 100000 in
def LL86 : List LC := [(.reg none [.q 4 (.mv (.val .nilsl))]), (.reg none [.q 8 (.mv (.tmp 0)), .q 9 (.mv (.tmp 1)), .q 10 (.call 130 [.tmp 8, .tmp 9] 0), .q 5 (.mv (.tmp 10))]), (.reg none [.q 11 (.mv (.tmp 5)), .q 12 (.bin .eql (.tmp 11) (.val (.int .i64 (-1))))]), (.cond (.tmp 12) (.seq (.reg none [.q 13 (.mv (.tmp 0)), .q 4 (.mv (.tmp 13))]) .ret) .skip), (.reg none [.q 14 (.mv (.tmp 5)), .q 15 (.bin .add (.tmp 14) (.val (.int .i64 1))), .q 6 (.mv (.tmp 15))]), (.block 0 (.loop (.seq (.seq (.reg none [.q 16 (.mv (.tmp 6)), .q 17 (.mv (.tmp 0)), .q 18 (.len false (.tmp 17)), .q 19 (.bin .lss (.tmp 16) (.tmp 18))]) (.cond (.tmp 19) .skip (.exit 0))) (.seq (.block 1 (.seq (.reg none [.q 22 (.mv (.tmp 0)), .q 23 (.mv (.tmp 6)), .q 24 (.iaddrS 5 (.tmp 22) (.tmp 23)), .q 25 (.load 5 true (.tmp 24)), .q 7 (.alloc [.int .i64 0, .int .i64 0, .str ⟨#[]⟩, .str ⟨#[]⟩, (.bool false)]), .s (.store 5 (.tmp 7) (.tmp 25))]) (.seq (.reg none [.q 26 (.mv (.tmp 1)), .q 27 (.load 5 true (.tmp 7)), .q 28 (.callv (.tmp 26) [.tmp 27]), .q 29 (.not (.tmp 28))]) (.cond (.tmp 29) (.seq (.reg none [.q 30 (.mv (.tmp 0)), .q 31 (.mv (.tmp 5)), .q 32 (.load 5 true (.tmp 7)), .q 33 (.iaddrS 5 (.tmp 30) (.tmp 31)), .s (.store 5 (.tmp 33) (.tmp 32))]) (.reg none [.q 34 (.mv (.tmp 5)), .q 35 (.bin .add (.tmp 34) (.val (.int .i64 1))), .q 5 (.mv (.tmp 35))])) .skip)))) (.reg none [.q 20 (.mv (.tmp 6)), .q 21 (.bin .add (.tmp 20) (.val (.int .i64 1))), .q 6 (.mv (.tmp 21))])))))]
def R86 : List LRes := [.tmp 4]
theorem lowl86 : lowAll Tryz.prog 42 ((flatC (Tryz.f86.body.getD .skip)).take 6) = some LL86 := by kernel_rfl
theorem body86 : Tryz.f86.body = some (Tryz.f86.body.getD .skip) := by kernel_rfl
theorem res86 : lowerRes Tryz.prog Tryz.f86.results.toList = some R86 := by kernel_rfl
end Go.Proofs.YtfdolehffjmdmaaGreatDoor
/- slices.DeleteFunc at what entries do: what is left stands in the same array. -/
namespace Go.Proofs.YtfdolehffjmdmaaGreatDoor
set_option linter.unusedSimpArgs false
set_option linter.unusedVariables false
open Go.RowKit
theorem filter_take {α : Type} [Inhabited α] {l : List α} {k : Nat} (p : α → Bool) (h : k < l.length) : (l.take (k + 1)).filter p = (l.take k).filter p ++ if p (nth l k) = true then [nth l k] else [] := by
  rw [List.take_add_one, nth_get? _ _ h, List.filter_append]
  by_cases h2 : p (nth l k) = true <;> simp [h2]
def delTail : List Code := [.region 11 #[⟨some 36, .move (.tmp 0), 127, "slices.go:253", #[], none⟩, ⟨some 37, .move (.tmp 5), 3, "slices.go:253", #[], none⟩, ⟨some 38, .slice 127 (.tmp 36) (some (.tmp 37)) none none, 127, "slices.go:253", #[⟨0, .data⟩, ⟨1, .data⟩], none⟩, ⟨none, .call ⟨.builtin .clear, #[.tmp 38], #[127]⟩, 0, "slices.go:253", #[⟨2, .data⟩], none⟩] false,
  .region 12 #[⟨some 39, .move (.tmp 0), 127, "slices.go:254", #[], none⟩, ⟨some 40, .move (.tmp 5), 3, "slices.go:254", #[], none⟩, ⟨some 41, .slice 127 (.tmp 39) none (some (.tmp 40)) none, 127, "slices.go:254", #[⟨0, .data⟩, ⟨1, .data⟩], none⟩, ⟨some 4, .assign (.tmp 41), 127, "slices.go:254", #[⟨2, .data⟩, ⟨0, .phase⟩, ⟨1, .phase⟩, ⟨2, .phase⟩], none⟩] false, .ret]
theorem und_ops : Tryz.prog.underlying 127 = some (.slice 131) := by kernel_rfl
set_option maxHeartbeats 2000000 in
theorem del_tail {x : Cx} {st : St} {rows : List (List PV)} {v i : Nat} (h0 : st.env 0 = .arr 0 v) (h5 : st.env 5 = .int .i64 i) (hh : st.heap = [.arr v true false 131 5 rows]) (hi : i < rows.length)
    {Q : AE → St → Prop} (hQ : ∀ st' : St, st'.env 4 = .arr 0 (v + 1) → st'.heap = [.arr (v + 1) true false 131 5 (rows.take i)] → Q .ret st') : ∀ a w, Rel x 42 st a w → WPL Tryz.prog delTail (postOf x 42 Q) a w := by
  intro a w ⟨⟨C, hr, he⟩, hdf, hsz⟩
  have e0 := he 0
  have e5 := he 5
  rw [h0] at e0
  rw [h5] at e5
  have e5 := e5.int_inv
  rw [hh] at hr
  obtain ⟨q1, q2, q3⟩ := hr.row (id := 0) rfl (by rw [hh] at e0; exact e0)
  rcases q3 with ⟨-, rfl⟩ | ⟨g, cap, cur, r1, r2, r3, r4, r5, r6⟩
  · simp at hi
  have hcell : ∀ t, t < rows.length * 5 → (x.w0 = x.w0) ∧ (w.cell? ⟨g, t, none⟩).isSome = true ∧ w.frozen? ⟨g, t, none⟩ = false := by
    intro t ht
    have : t < cur.size := by rw [r5]; omega
    exact ⟨rfl, by simp [World.cell?, r2, this], by simp [World.frozen?, r2]⟩
  obtain ⟨z, hz1, hz2, hz3⟩ : ∃ z, (∀ w, (zeroValue 131).run Tryz.prog w = .ok z w) ∧ z.cells.size = 5 ∧ ∀ u ∈ z.cells, u.oneCell' = true := ⟨.agg #[.int .i64 0, .int .i64 0, .string ⟨#[]⟩, .string ⟨#[]⟩, .bool false], fun w => by kernel_rfl, rfl, by
    intro u hu
    simp [Value.cells] at hu
    rcases hu with rfl | rfl | rfl | rfl <;> rfl⟩
  obtain ⟨zs, hzl, hcl⟩ := run_clear_cells (P := Tryz.prog) w 127 131 0 z und_ops hz1 hz3 g (i * 5) (rows.length - i) (cap - i) (by omega)
    (fun j hj => (hcell (i * 5 + j) (by rw [hz2] at hj; omega)).2.1) (fun j hj => (hcell (i * 5 + j) (by rw [hz2] at hj; omega)).2.2)
  rw [hz2] at hzl
  obtain ⟨cs', c1, c2, c3⟩ := setCells_heap g zs (i * 5) w cur r2 (by rw [hzl, r5]; omega)
  have hown : (C.sv 0).ownBlock = some g := by rw [← q1, r1]; rfl
  obtain ⟨C', k1, k2, k3⟩ := hr.rerow (id := 0) (v' := v + 1) (g' := g) (cap' := cap) (rows' := rows.take i) (cur' := cs') rfl (setCells_step g zs (i * 5) w hown) (.inl hown) (.inr (by omega)) c1
    (by rw [List.length_take]; omega) r4 (by rw [c2, r5]) (fun row hrow => q2 row (List.mem_of_mem_take hrow)) (fun k row j p u a1 a2 a3 => by
      rw [List.getElem?_take] at a1
      split at a1
      · rename_i hk
        have hj : j < 5 := by rw [← q2 row (List.mem_of_getElem? a1)]; exact (List.getElem?_eq_some_iff.1 a2).1
        rw [c3, if_neg (by omega)] at a3
        obtain ⟨y, y1, y2, y3⟩ := r6 k row j p a1 a2
        rw [y1] at a3; cases a3
        exact ⟨y2, y3⟩
      · cases a1)
  rw [List.length_take, Nat.min_eq_left (by omega)] at k3
  have g0 : ∀ (b : Act), b.tmps.size = 42 → ∀ (d : Nat) (u : Value) (t : Nat), d < 42 → (b.put (some d) u).tmps.getD t Go.undef = if t = d then u else b.tmps.getD t Go.undef := by
    intro b hb d u t hd
    simp only [Act.put]
    by_cases e : t = d
    · subst e; simp [Array.getD, hb, hd]
    · rw [if_neg e]
      by_cases ht : t < b.tmps.size
      · simp [Array.getD, ht, Array.getElem_setIfInBounds_ne, Ne.symm e]
      · simp [Array.getD, ht]
  have gs : ∀ (b : Act), b.tmps.size = 42 → ∀ d u, (b.put d u).tmps.size = 42 := by
    intro b hb d u
    cases d <;> simp [Act.put, hb]
  have hu0 : a.tmps.getD 0 Go.undef = .slice (some ⟨g, 0, none⟩) rows.length cap := r1
  obtain ⟨a1, ha1⟩ : ∃ a1, a.put (some 36) (.slice (some ⟨g, 0, none⟩) rows.length cap) = a1 := ⟨_, rfl⟩
  have s1 : a1.tmps.size = 42 := by rw [← ha1]; exact gs _ hsz _ _
  have t1 : ∀ t, a1.tmps.getD t Go.undef = if t = 36 then .slice (some ⟨g, 0, none⟩) rows.length cap else a.tmps.getD t Go.undef := fun t => by rw [← ha1]; exact g0 _ hsz _ _ _ (by omega)
  obtain ⟨a2, ha2⟩ : ∃ a2, a1.put (some 37) (.int .i64 i) = a2 := ⟨_, rfl⟩
  have s2 : a2.tmps.size = 42 := by rw [← ha2]; exact gs _ s1 _ _
  have t2 : ∀ t, a2.tmps.getD t Go.undef = if t = 37 then .int .i64 i else a1.tmps.getD t Go.undef := fun t => by rw [← ha2]; exact g0 _ s1 _ _ _ (by omega)
  obtain ⟨a3, ha3⟩ : ∃ a3, a2.put (some 38) (.slice (some ⟨g, i * 5, none⟩) (rows.length - i) (cap - i)) = a3 := ⟨_, rfl⟩
  have s3 : a3.tmps.size = 42 := by rw [← ha3]; exact gs _ s2 _ _
  have t3 : ∀ t, a3.tmps.getD t Go.undef = if t = 38 then .slice (some ⟨g, i * 5, none⟩) (rows.length - i) (cap - i) else a2.tmps.getD t Go.undef := fun t => by rw [← ha3]; exact g0 _ s2 _ _ _ (by omega)
  refine wp_region_list ?_
  refine wl_value (w' := w) (v := .slice (some ⟨g, 0, none⟩) rows.length cap) rfl (by simp only [execOp, Act.eval, hu0, Sem.run_pure]) ?_
  rw [ha1]
  refine wl_value (w' := w) (v := .int .i64 i) rfl (by simp only [execOp, Act.eval, t1, e5, Sem.run_pure, Nat.reduceEqDiff, if_false]) ?_
  rw [ha2]
  refine wl_value (w' := w) (v := .slice (some ⟨g, i * 5, none⟩) (rows.length - i) (cap - i)) rfl ?_ ?_
  · have e1 : a2.eval (.tmp 36) = .slice (some ⟨g, 0, none⟩) rows.length cap := by simp only [Act.eval, t2, t1, Nat.reduceEqDiff, if_false, if_true]
    have e2 : a2.eval (.tmp 37) = .int .i64 i := by simp only [Act.eval, t2, if_true]
    have hb : (Instr.sliceBounds true rows.length cap (some (.int .i64 (i : Int))) none none).run Tryz.prog w = .ok (i, rows.length, cap) w := by
      simp [Instr.sliceBounds, Instr.sliceBound, asIntOf]
      omega
    simp only [execOp, Option.map_some, Option.map_none, e1, e2, Instr.sliceAt, Instr.slice, Sem.run_bind, run_underlying und_ops, Result.andThen_ok, hb, sizeOf_run (show sizeP Tryz.prog 131 = some 5 by kernel_rfl), Sem.run_pure]
    rw [if_neg (by omega)]
    simp [Addr.add]
    try omega
  rw [ha3]
  refine wl_value (w' := w.setCells g (i * 5) zs) (v := .tuple #[]) rfl ?_ ?_
  · have e1 : a3.eval (.tmp 38) = .slice (some ⟨g, i * 5, none⟩) (rows.length - i) (cap - i) := by simp only [Act.eval, t3, if_true]
    simp only [execOp, resolve, Sem.run_bind, Sem.run_pure, Result.andThen_ok, invoke, builtin, List.map_toArray, List.map_cons, List.map_nil, e1, hcl]
  obtain ⟨w1, hw1⟩ : ∃ w1, w.setCells g (i * 5) zs = w1 := ⟨_, rfl⟩
  rw [hw1] at k1 k2 k3 ⊢
  have ha4 : a3.put none (.tuple #[]) = a3 := rfl
  rw [ha4]
  have u0 : a3.tmps.getD 0 Go.undef = .slice (some ⟨g, 0, none⟩) rows.length cap := by rw [t3, if_neg (by omega), t2, if_neg (by omega), t1, if_neg (by omega)]; exact hu0
  have u5 : a3.tmps.getD 5 Go.undef = .int .i64 i := by rw [t3, if_neg (by omega), t2, if_neg (by omega), t1, if_neg (by omega)]; exact e5
  obtain ⟨b1, hb1⟩ : ∃ b1, a3.put (some 39) (.slice (some ⟨g, 0, none⟩) rows.length cap) = b1 := ⟨_, rfl⟩
  have s4 : b1.tmps.size = 42 := by rw [← hb1]; exact gs _ s3 _ _
  have t4 : ∀ t, b1.tmps.getD t Go.undef = if t = 39 then .slice (some ⟨g, 0, none⟩) rows.length cap else a3.tmps.getD t Go.undef := fun t => by rw [← hb1]; exact g0 _ s3 _ _ _ (by omega)
  obtain ⟨b2, hb2⟩ : ∃ b2, b1.put (some 40) (.int .i64 i) = b2 := ⟨_, rfl⟩
  have s5 : b2.tmps.size = 42 := by rw [← hb2]; exact gs _ s4 _ _
  have t5 : ∀ t, b2.tmps.getD t Go.undef = if t = 40 then .int .i64 i else b1.tmps.getD t Go.undef := fun t => by rw [← hb2]; exact g0 _ s4 _ _ _ (by omega)
  obtain ⟨b3, hb3⟩ : ∃ b3, b2.put (some 41) (.slice (some ⟨g, 0, none⟩) i cap) = b3 := ⟨_, rfl⟩
  have s6 : b3.tmps.size = 42 := by rw [← hb3]; exact gs _ s5 _ _
  have t6 : ∀ t, b3.tmps.getD t Go.undef = if t = 41 then .slice (some ⟨g, 0, none⟩) i cap else b2.tmps.getD t Go.undef := fun t => by rw [← hb3]; exact g0 _ s5 _ _ _ (by omega)
  show Code.wp Tryz.prog _ _ a3 w1
  refine wp_region_list ?_
  refine wl_value (w' := w1) (v := .slice (some ⟨g, 0, none⟩) rows.length cap) rfl (by simp only [execOp, Act.eval, u0, Sem.run_pure]) ?_
  rw [hb1]
  refine wl_value (w' := w1) (v := .int .i64 i) rfl (by simp only [execOp, Act.eval, t4, u5, Sem.run_pure, Nat.reduceEqDiff, if_false]) ?_
  rw [hb2]
  refine wl_value (w' := w1) (v := .slice (some ⟨g, 0, none⟩) i cap) rfl ?_ ?_
  · have e1 : b2.eval (.tmp 39) = .slice (some ⟨g, 0, none⟩) rows.length cap := by simp only [Act.eval, t5, t4, Nat.reduceEqDiff, if_false, if_true]
    have e2 : b2.eval (.tmp 40) = .int .i64 i := by simp only [Act.eval, t5, if_true]
    have hb : (Instr.sliceBounds true rows.length cap none (some (.int .i64 (i : Int))) none).run Tryz.prog w1 = .ok (0, i, cap) w1 := by
      simp [Instr.sliceBounds, Instr.sliceBound, asIntOf]
      omega
    simp only [execOp, Option.map_some, Option.map_none, e1, e2, Instr.sliceAt, Instr.slice, Sem.run_bind, run_underlying und_ops, Result.andThen_ok, hb, sizeOf_run (show sizeP Tryz.prog 131 = some 5 by kernel_rfl), Sem.run_pure]
    rw [if_neg (by omega)]
    simp [Addr.add]
  rw [hb3]
  refine wl_value (w' := w1) (v := .slice (some ⟨g, 0, none⟩) i cap) rfl (by simp only [execOp, Act.eval, t6, Sem.run_pure, if_true]) ?_
  show Code.wp Tryz.prog .ret _ _ w1
  refine wp_ret ?_
  refine ⟨⟨fun t => if t = 4 then .arr 0 (v + 1) else .top, [.arr (v + 1) true false 131 5 (rows.take i)]⟩, hQ _ rfl rfl, ⟨C', k1, fun t => ?_⟩, ?_, gs _ s6 _ _⟩
  · rw [g0 _ s6 _ _ _ (by omega)]
    by_cases e : t = 4
    · rw [if_pos e]; simp only [e, if_true]; exact k3
    · rw [if_neg e]; simp only [e, if_false]; exact .any
  · have pd : ∀ (b : Act) (d : Option Nat) (u : Value), (b.put d u).defers = b.defers := fun b d u => by cases d <;> rfl
    rw [pd, ← hb3, pd, ← hb2, pd, ← hb1, pd, ← ha3, pd, ← ha2, pd, ← ha1, pd]
    exact hdf
theorem idxF_at {α : Type} [Inhabited α] (p : α → Bool) : ∀ (l : List α) (k : Nat), l.any p = true → ∃ j, j < l.length ∧ idxF p l k = ((k + j : Nat) : Int) ∧ p (nth l j) = true ∧ ∀ q, q ∈ l.take j → p q = false
  | [], k, h => by simp at h
  | y :: l, k, h => by
    cases hy : p y
    · have h' : l.any p = true := by simpa [hy] using h
      obtain ⟨j, h1, h2, h3, h4⟩ := idxF_at p l (k + 1) h'
      refine ⟨j + 1, by simp; omega, by rw [idxF, if_neg (by simp [hy]), h2]; congr 1; omega, h3, fun q hq => ?_⟩
      rw [List.take_succ_cons] at hq
      rcases List.mem_cons.1 hq with rfl | hq
      · exact hy
      · exact h4 q hq
    · exact ⟨0, by simp, by rw [idxF, if_pos hy]; simp, hy, fun q hq => by simp at hq⟩
set_option maxRecDepth 10000 in
set_option maxHeartbeats 4000000 in
theorem delF_meets (l : List FOp) (g : Nat) (caps : List PV) (p : FOp → Bool) (v : Nat) (hg : hasBody Tryz.prog g = true) (hl : l.length ≤ 1000000) (hc : ClosedH [] caps)
    (hcl : ∀ nl f fz, caps.map (renLeaf nl f fz) = caps ∧ caps.map (ren nl f fz) = caps ∧ caps.map (renCell nl f fz) = caps) (hp : ∀ o ∈ l, Meets Tryz.prog g (.agg (cOp o) :: caps) [] (.bool (p o)) []) :
    ∃ v', Meets Tryz.prog 86 [.arr 0 v, .clo g caps] [.arr v true false 131 5 (l.map cOp)] (.arr 0 v') [.arr v' true false 131 5 ((l.filter fun o => !p o).map cOp)] := by
  have hix := indexOp_meets l g caps [] p hg (by omega) hc hp
  cases ha : l.any p
  · have hm1 : idxF p l 0 = -1 := by
      rcases idxF_ge p l 0 with ⟨h1, -⟩ | ⟨-, h2⟩
      · exact h1
      · rw [h2] at ha; cases ha
    have hf : (l.filter fun o => !p o) = l := List.filter_eq_self.2 fun o ho => by
      have := List.any_eq_false.1 ha o ho
      simpa using this
    rw [hf]
    rw [hm1] at hix
    refine ⟨v, ?_⟩
    refine Meets.of_tail Tryz.func86 Tryz.ntmps86 body86 (List.take_append_drop _ _).symm lowl86 res86 (by simp) (fun _ _ => False) (fun x hx => ?_) (fun _ _ _ h => h.elim)
    refine WL_walk ?_
    simp only [go_sem, Nat.reduceLT, Nat.reduceAdd, Nat.reduceEqDiff, Nat.reduceLeDiff, Nat.reduceSub, Nat.reduceMul, Int.reduceEq, eq_self, reduceIte, LL86]
    refine ops_call (.scalarE hix rfl (by simp [go_sem, Nat.reduceLT, Nat.reduceAdd, Nat.reduceEqDiff, Nat.reduceLeDiff, Nat.reduceSub, Nat.reduceMul, Int.reduceEq, eq_self, reduceIte, frzAt, pos, hcl])) ?_
    simp only [go_sem, Nat.reduceLT, Nat.reduceAdd, Nat.reduceEqDiff, Nat.reduceLeDiff, Nat.reduceSub, Nat.reduceMul, Int.reduceEq, eq_self, reduceIte]
    refine ret_keep [] (by simp) (by simp) (by simp [hx]) ?_ ?_
    · simp [go_sem, Nat.reduceLT, Nat.reduceAdd, Nat.reduceEqDiff, Nat.reduceLeDiff, Nat.reduceSub, Nat.reduceMul, Int.reduceEq, eq_self, reduceIte, R86, hx, pos]
    · simp [subHeap, renObj, hx, pos, go_sem, Nat.reduceLT, Nat.reduceAdd, Nat.reduceEqDiff, Nat.reduceLeDiff, Nat.reduceSub, Nat.reduceMul, Int.reduceEq, eq_self, reduceIte, List.range_succ]
  · obtain ⟨k0, d1, d2, d3, d4⟩ := idxF_at p l 0 ha
    rw [Nat.zero_add] at d2
    rw [d2] at hix
    refine ⟨v + 1, ?_⟩
    refine Meets.of_tail Tryz.func86 Tryz.ntmps86 body86 (List.take_append_drop _ _).symm lowl86 res86 (by simp) (fun _ st => ∃ (r : List FOp) (i : Nat), i < r.length ∧ st.env 0 = .arr 0 v ∧ st.env 5 = .int .i64 i ∧ st.heap = [.arr v true false 131 5 (r.map cOp)] ∧ r.take i = l.filter fun o => !p o) (fun x hx => ?_) (fun x hx st ⟨r, i, q1, q2, q3, q4, q5⟩ => ?_)
    · refine WL_walk ?_
      have hk0 : ((k0 : Int) = -1) = False := eq_false (by omega)
      have wk0 := i64_up (k := k0) (by omega)
      simp only [go_sem, Nat.reduceLT, Nat.reduceAdd, Nat.reduceEqDiff, Nat.reduceLeDiff, Nat.reduceSub, Nat.reduceMul, Int.reduceEq, eq_self, reduceIte, LL86]
      refine ops_call (.scalarE hix rfl (by simp [go_sem, Nat.reduceLT, Nat.reduceAdd, Nat.reduceEqDiff, Nat.reduceLeDiff, Nat.reduceSub, Nat.reduceMul, Int.reduceEq, eq_self, reduceIte, frzAt, pos, hcl])) ?_
      simp only [go_sem, Nat.reduceLT, Nat.reduceAdd, Nat.reduceEqDiff, Nat.reduceLeDiff, Nat.reduceSub, Nat.reduceMul, Int.reduceEq, eq_self, reduceIte, hk0, wk0]
      refine loop_inv [0, 1, 5, 6] 1 (fun n st => ∃ (r : List FOp) (i j : Nat), j + n = l.length ∧ i < j ∧ r.length = l.length ∧ r.take i = (l.take j).filter (fun o => !p o) ∧ r.drop j = l.drop j ∧
        st = ⟨mkE .top [(0, .arr 0 v), (1, .clo g caps), (5, .int .i64 i), (6, .int .i64 j)], [.arr v true false 131 5 (r.map cOp)]⟩) (l.length - (k0 + 1)) (by simp [hx]) (by simp) ?_ ?_
      · refine ⟨l, k0, k0 + 1, by omega, by omega, rfl, ?_, rfl, ?_⟩
        · rw [filter_take _ d1, if_neg (by simp [d3]), List.append_nil]
          exact (List.filter_eq_self.2 fun q hq => by simp [d4 q hq]).symm
        · simp [trim_mk, go_sem, Nat.reduceLT, Nat.reduceAdd, Nat.reduceEqDiff, Nat.reduceLeDiff, Nat.reduceSub, Nat.reduceMul, Int.reduceEq, eq_self, reduceIte, subHeap, renObj, renCell, renLeaf, pos, List.range_succ, hcl]
      · rintro n st ⟨r, i, j, hj, hij, hrl, hrt, hrd, rfl⟩
        by_cases hlt : j < l.length
        · have hgj : r[j]? = some (nth l j) := by
            have : (r.drop j)[0]? = (l.drop j)[0]? := by rw [hrd]
            rw [List.getElem?_drop, List.getElem?_drop, Nat.add_zero] at this
            rw [this]; exact nth_get? _ _ hlt
          have hgi : r[i]? = some (nth r i) := nth_get? _ _ (by omega)
          have hjr : j < r.length := by omega
          have hir : i < r.length := by omega
          have wj := i64_up (k := j) (by omega)
          have wi := i64_up (k := i) (by omega)
          have hpe := hp (nth l j) (List.mem_of_getElem? (nth_get? _ _ hlt))
          have hft := filter_take (fun o => !p o) hlt
          have hdd : r.drop (j + 1) = l.drop (j + 1) := by rw [← List.drop_drop, hrd, List.drop_drop]
          simp only [go_sem, Nat.reduceLT, Nat.reduceAdd, Nat.reduceEqDiff, Nat.reduceLeDiff, Nat.reduceSub, Nat.reduceMul, Int.reduceEq, eq_self, reduceIte, List.length_map, hjr, hgj, cOp, List.getElem?_map, Option.map_some]
          refine ops_callv rfl hg (.scalarE hpe rfl (by simp [go_sem, Nat.reduceLT, Nat.reduceAdd, Nat.reduceEqDiff, Nat.reduceLeDiff, Nat.reduceSub, Nat.reduceMul, Int.reduceEq, eq_self, reduceIte, frzAt, pos, hcl, cOp])) ?_
          cases hpk : p (nth l j)
          · simp only [go_sem, Nat.reduceLT, Nat.reduceAdd, Nat.reduceEqDiff, Nat.reduceLeDiff, Nat.reduceSub, Nat.reduceMul, Int.reduceEq, eq_self, reduceIte, Int.ofNat_zero, Int.natCast_one, Int.cast_ofNat_Int, Int.reduceLT, Int.reduceLE, Int.reduceToNat, Nat.reduceLT, Int.toNat_zero, Int.natCast_zero, Int.le_refl, Int.lt_irrefl, Int.reduceAdd, frz, false_or, or_true, frz, PV.isPure, List.length_map, hjr, hir, hgi, cOp, List.getElem?_map, Option.map_some, wj, wi]
            refine ⟨by simp, n - 1, by omega, r.set i (nth l j), i + 1, j + 1, by omega, by omega, by simp [hrl], ?_, ?_, ?_⟩
            · rw [hft, if_pos (by simp [hpk]), ← hrt, List.take_add_one, List.take_set_of_le (Nat.le_refl _), List.getElem?_set_self hir]
              rfl
            · rw [List.drop_set_of_lt (by omega), hdd]
            · simp [trim_mk, go_sem, Nat.reduceLT, Nat.reduceAdd, Nat.reduceEqDiff, Nat.reduceLeDiff, Nat.reduceSub, Nat.reduceMul, Int.reduceEq, eq_self, reduceIte, subHeap, renObj, renCell, renLeaf, pos, List.range_succ, hcl, List.map_set, cOp]
          · simp only [go_sem, Nat.reduceLT, Nat.reduceAdd, Nat.reduceEqDiff, Nat.reduceLeDiff, Nat.reduceSub, Nat.reduceMul, Int.reduceEq, eq_self, reduceIte, wj]
            refine ⟨by simp, n - 1, by omega, r, i, j + 1, by omega, by omega, hrl, ?_, hdd, ?_⟩
            · rw [hft, if_neg (by simp [hpk]), List.append_nil, hrt]
            · simp [trim_mk, go_sem, Nat.reduceLT, Nat.reduceAdd, Nat.reduceEqDiff, Nat.reduceLeDiff, Nat.reduceSub, Nat.reduceMul, Int.reduceEq, eq_self, reduceIte, subHeap, renObj, renCell, renLeaf, pos, List.range_succ, hcl]
        · have hjr : ¬ j < r.length := by omega
          simp only [go_sem, Nat.reduceLT, Nat.reduceAdd, Nat.reduceEqDiff, Nat.reduceLeDiff, Nat.reduceSub, Nat.reduceMul, Int.reduceEq, eq_self, reduceIte, List.length_map, hjr]
          refine ⟨r, i, by omega, rfl, rfl, rfl, ?_⟩
          rw [hrt, List.take_of_length_le (by omega)]
    · rw [← q5]
      refine del_tail (rows := r.map cOp) (i := i) q2 q3 q4 (by simpa using q1) (fun st' g1 g2 => ?_)
      refine ret_keep [] (by simp) (by simp) (by simp [hx, g2]) ?_ ?_
      · simp [go_sem, Nat.reduceLT, Nat.reduceAdd, Nat.reduceEqDiff, Nat.reduceLeDiff, Nat.reduceSub, Nat.reduceMul, Int.reduceEq, eq_self, reduceIte, R86, hx, pos, g1]
      · simp [subHeap, renObj, hx, pos, go_sem, Nat.reduceLT, Nat.reduceAdd, Nat.reduceEqDiff, Nat.reduceLeDiff, Nat.reduceSub, Nat.reduceMul, Int.reduceEq, eq_self, reduceIte, List.range_succ, g2, List.map_take]
end Go.Proofs.YtfdolehffjmdmaaGreatDoor
/- slices.SortFunc at what entries do, by key and value. -/
namespace Go.Proofs.YtfdolehffjmdmaaGreatDoor
open Go.RowKit Go.Shelf
/-! texts in order -/
theorem cb_refl : ∀ l : List UInt8, Lib.compareBytes l l = 0
  | [] => rfl
  | a :: l => by
    have h : ¬ a < a := by rw [UInt8.lt_iff_toNat_lt]; omega
    rw [Lib.compareBytes, if_neg h, if_neg h]
    exact cb_refl l
theorem cb_zero : ∀ {a b : List UInt8}, Lib.compareBytes a b = 0 → a = b
  | [], [], _ => rfl
  | [], _ :: _, h => by simp [Lib.compareBytes] at h
  | _ :: _, [], h => by simp [Lib.compareBytes] at h
  | x :: a, y :: b, h => by
    rw [Lib.compareBytes] at h
    split at h
    · simp at h
    · split at h
      · simp at h
      · rename_i h1 h2
        rw [UInt8.lt_iff_toNat_lt] at h1 h2
        rw [cb_zero h, UInt8.toNat.inj (show x.toNat = y.toNat by omega)]
theorem cb_swap : ∀ (a b : List UInt8), Lib.compareBytes b a = - Lib.compareBytes a b
  | [], [] => rfl
  | [], _ :: _ => rfl
  | _ :: _, [] => rfl
  | x :: a, y :: b => by
    rw [Lib.compareBytes, Lib.compareBytes]
    by_cases h1 : x < y
    · have h2 : ¬ y < x := by rw [UInt8.lt_iff_toNat_lt] at h1 ⊢; omega
      rw [if_neg h2, if_pos h1, if_pos h1]; rfl
    · by_cases h2 : y < x
      · rw [if_pos h2, if_neg h1, if_pos h2]
      · rw [if_neg h2, if_neg h1, if_neg h1, if_neg h2]
        exact cb_swap a b
theorem cb_trans : ∀ {a b c : List UInt8}, Lib.compareBytes a b < 0 → Lib.compareBytes b c < 0 → Lib.compareBytes a c < 0
  | [], [], _, h, _ => by simp [Lib.compareBytes] at h
  | [], _ :: _, [], _, h => by simp [Lib.compareBytes] at h
  | [], _ :: _, _ :: _, _, _ => by simp [Lib.compareBytes]
  | _ :: _, [], _, h, _ => by simp [Lib.compareBytes] at h
  | _ :: _, _ :: _, [], _, h => by simp [Lib.compareBytes] at h
  | x :: a, y :: b, z :: c, h, g => by
    rw [Lib.compareBytes] at h g ⊢
    by_cases h1 : x < y
    · by_cases g1 : y < z
      · have : x < z := by rw [UInt8.lt_iff_toNat_lt] at h1 g1 ⊢; omega
        rw [if_pos this]; decide
      · rw [if_neg g1] at g
        by_cases g2 : z < y
        · rw [if_pos g2] at g; simp at g
        · have : x < z := by rw [UInt8.lt_iff_toNat_lt] at h1 g1 g2 ⊢; omega
          rw [if_pos this]; decide
    · rw [if_neg h1] at h
      by_cases h2 : y < x
      · rw [if_pos h2] at h; simp at h
      · rw [if_neg h2] at h
        have e : x = y := by
          rw [UInt8.lt_iff_toNat_lt] at h1 h2
          exact UInt8.toNat.inj (by omega)
        subst e
        by_cases g1 : x < z
        · rw [if_pos g1]; decide
        · rw [if_neg g1] at g ⊢
          by_cases g2 : z < x
          · rw [if_pos g2] at g; simp at g
          · rw [if_neg g2] at g ⊢
            exact cb_trans h g
def cmpB (a b : ByteArray) : Int := Lib.compareBytes a.data.toList b.data.toList
theorem cmpB_refl (a : ByteArray) : cmpB a a = 0 := cb_refl _
theorem cmpB_zero {a b : ByteArray} (h : cmpB a b = 0) : a = b := by
  apply ByteArray.ext
  exact Array.toList_inj.1 (cb_zero h)
theorem cmpB_swap (a b : ByteArray) : cmpB b a = - cmpB a b := cb_swap _ _
theorem cmpB_trans {a b c : ByteArray} (h : cmpB a b < 0) (g : cmpB b c < 0) : cmpB a c < 0 := cb_trans h g
def cmpP (x y : ByteArray × ByteArray) : Int := if cmpB x.1 y.1 = 0 then cmpB x.2 y.2 else cmpB x.1 y.1
theorem cmpP_zero {x y : ByteArray × ByteArray} (h : cmpP x y = 0) : x = y := by
  unfold cmpP at h
  split at h
  · rename_i h1; exact Prod.ext (cmpB_zero h1) (cmpB_zero h)
  · contradiction
theorem cmpP_swap (x y : ByteArray × ByteArray) : cmpP y x = - cmpP x y := by
  unfold cmpP
  have h1 := cmpB_swap x.1 y.1
  have h2 := cmpB_swap x.2 y.2
  split <;> split <;> omega
theorem cmpP_trans {x y z : ByteArray × ByteArray} (h : cmpP x y < 0) (g : cmpP y z < 0) : cmpP x z < 0 := by
  unfold cmpP at h g ⊢
  by_cases h1 : cmpB x.1 y.1 = 0
  · rw [if_pos h1] at h
    have e1 := cmpB_zero h1
    by_cases g1 : cmpB y.1 z.1 = 0
    · rw [if_pos g1] at g
      rw [e1, if_pos g1]
      exact cmpB_trans h g
    · rw [if_neg g1] at g
      rw [e1, if_neg g1]; exact g
  · rw [if_neg h1] at h
    by_cases g1 : cmpB y.1 z.1 = 0
    · have e1 := cmpB_zero g1
      rw [← e1, if_neg h1]; exact h
    · rw [if_neg g1] at g
      have := cmpB_trans h g
      rw [if_neg (by omega)]; exact this
def FOp.kv (o : FOp) : ByteArray × ByteArray := (o.k, o.v)
def cmpOp (x y : FOp) : Int := cmpP x.kv y.kv
theorem swoOp : Go.Sort.SWO (ltOf cmpOp) where
  irrefl := fun x => by
    have : cmpP x.kv x.kv = 0 := by have := cmpP_swap x.kv x.kv; omega
    simp [ltOf, cmpOp, this]
  trans := fun x y z h1 h2 => by
    unfold ltOf cmpOp at *
    exact decide_eq_true (cmpP_trans (of_decide_eq_true h1) (of_decide_eq_true h2))
  ntrans := fun x y z h1 h2 => by
    unfold ltOf cmpOp at *
    have h1 := of_decide_eq_false h1
    have h2 := of_decide_eq_false h2
    apply decide_eq_false
    have a := cmpP_swap x.kv y.kv
    have b := cmpP_swap y.kv z.kv
    have c := cmpP_swap x.kv z.kv
    intro h
    by_cases e1 : cmpP x.kv y.kv = 0
    · rw [cmpP_zero e1] at h; omega
    · by_cases e2 : cmpP y.kv z.kv = 0
      · rw [← cmpP_zero e2] at h; omega
      · have := cmpP_trans (x := z.kv) (y := y.kv) (z := x.kv) (by omega) (by omega)
        omega
def eOp (o : FOp) : List Value := [.int .i64 o.id.r, .int .i64 o.id.n, .string o.k, .string o.v, .bool o.p]
theorem flat_op : Flat cOp eOp 5 where
  k0 := by omega
  len := fun _ => rfl
  lenp := fun _ => rfl
  one := fun o v hv => by
    simp [eOp] at hv
    rcases hv with rfl | rfl | rfl | rfl | rfl <;> rfl
  fit := fun S w a j p h => by
    rcases j with _ | _ | _ | _ | _ | j
    · cases h; exact .int _ _
    · cases h; exact .int _ _
    · cases h; exact .str _
    · cases h; exact .str _
    · cases h; exact .bool _
    · simp [cOp] at h
  back := fun S w a j p u h hr => by
    rcases j with _ | _ | _ | _ | _ | j
    · cases h; cases hr; rfl
    · cases h; cases hr; rfl
    · cases h; cases hr; rfl
    · cases h; cases hr; rfl
    · cases h; cases hr; rfl
    · simp [cOp] at h
noncomputable def sortF (l : List FOp) : List FOp := (Go.Sort.pdq (ltOf cmpOp) l.toArray 0 l.toArray.size (Lib.bitLen l.toArray.size) true true).toList
theorem sortF_spec (l : List FOp) : (sortF l).Perm l ∧ (sortF l).Pairwise fun x y => ¬ cmpOp y x < 0 := by
  obtain ⟨h1, h2⟩ := Go.Sort.pdq_sorts (ltOf cmpOp) swoOp l.toArray 0 l.toArray.size (Lib.bitLen l.toArray.size) true true (Nat.zero_le _) (Nat.le_refl _) (Or.inl rfl)
  obtain ⟨a1, -, a3⟩ := h1
  have e1 : ∀ d : Array FOp, d.size = l.toArray.size → d.extract 0 l.toArray.size = d := fun d hd => by rw [← hd]; exact Array.extract_size
  rw [e1 _ a1, e1 _ rfl] at a3
  refine ⟨by simpa [sortF] using a3, ?_⟩
  rw [List.pairwise_iff_getElem]
  intro i j hi hj hij
  have hi' : i < (Go.Sort.pdq (ltOf cmpOp) l.toArray 0 l.toArray.size (Lib.bitLen l.toArray.size) true true).size := by simpa [sortF] using hi
  have hj' : j < (Go.Sort.pdq (ltOf cmpOp) l.toArray 0 l.toArray.size (Lib.bitLen l.toArray.size) true true).size := by simpa [sortF] using hj
  have := h2 i j (Nat.zero_le _) hij (by rw [← a1]; exact hj')
  rw [getElem!_pos _ i hi', getElem!_pos _ j hj'] at this
  simpa [ltOf, sortF] using this
theorem compare_calls (a b : ByteArray) (w : World) : Calls Tryz.prog 94 #[.string a, .string b] w fun e w' => e = .returned (.int .i64 (cmpB a b)) ∧ w' = w := Any.strings_Compare cmpL a b w
theorem cmpOp_calls (a b : FOp) (w : World) : Calls Tryz.prog 93 #[.agg (eOp a).toArray, .agg (eOp b).toArray] w fun e w' => e = .returned (.int .i64 (cmpOp a b)) ∧ ∃ q os', w' = Go.Sort.grow (w.drewN q) os' := by
  unfold eOp
  go_enter Tryz.func93, Tryz.ntmps93
  go_wp2_with (go_at_call 94; refine (compare_calls _ _ _).mono ?_; rintro e w' ⟨rfl, rfl⟩)
  · go_ret
    have h : (cmpB a.k b.k != 0) = true := by assumption
    exact ⟨ret_int (by exact (if_neg (show ¬ cmpB a.k b.k = 0 by simpa using h)).symm), 0, _, by rw [Go.Sort.alloc_eq_grow, Go.Sort.alloc_eq_grow, Go.Sort.grow_grow]; rfl⟩
  · go_ret
    have h : (cmpB a.k b.k != 0) = false := by assumption
    exact ⟨ret_int (by exact (if_pos (show cmpB a.k b.k = 0 by simpa using h)).symm), 0, _, by rw [Go.Sort.alloc_eq_grow, Go.Sort.alloc_eq_grow, Go.Sort.grow_grow]; rfl⟩
theorem cmpLaysOp (blk off size : Nat) (w : World) : CmpLays Tryz.prog 93 #[] eOp 5 cmpOp blk off size w := fun _ _ _ _ a b => cmpOp_calls a b _
theorem sortOps_meets (l : List FOp) (v T : Nat) (hl : l.length < 4611686018427387904) :
    Meets Tryz.prog 92 [.arr 0 v, .clo 93 []] [.arr v true false T 5 (l.map cOp)] (.tup []) [.arr v true false T 5 ((sortF l).map cOp)] := by
  intro x vs hx h0 hp
  obtain ⟨a, b, rfl, h1, h2⟩ := two_args hp.1
  have ha := hp.2 0 _ _ rfl h1
  have hb := hp.2 1 _ _ rfl h2
  obtain ⟨ws, rfl, hw, -⟩ := hb.clo_inv
  obtain rfl : ws = [] := List.length_eq_zero_iff.1 hw
  obtain ⟨e1, e2, e3⟩ := h0.row (id := 0) rfl ha
  have hsl : (sortF l).length = l.length := (sortF_spec l).1.length_eq
  rcases e3 with ⟨rfl, hnil⟩ | ⟨g, cap, cur, rfl, hc, hcap, hm, hz, hrow⟩
  · have : l = [] := by simpa using hnil
    subst this
    have hs0 : sortF [] = [] := List.length_eq_zero_iff.1 hsl
    refine (AnyF.slices_SortFunc_none sortOpL none 0 (.func (.func 93) #[] #[]) x.w0).mono ?_
    rintro e w' ⟨rfl, rfl⟩
    exact ⟨_, x.C0, rfl, by simpa [hs0] using h0, .tup [] [] rfl (fun j p u h => by simp at h)⟩
  · have eg : ∀ args w, (callFunc 93 args).run Tryz.prog w = .ok (.enter 93 args) w := enters_of Tryz.func93 (by kernel_rfl) rfl
    have hH := flat_op.holds l hc hrow
    have hlt : g < x.w0.heap.size := (Array.getElem?_eq_some_iff.1 hc).1
    have key := AnyQ.slices_SortFunc_eq sortOpL 5 (fun _ => by kernel_rfl) (fun _ => by kernel_rfl) eOp flat_op.len flat_op.one cmpOp swoOp 93 #[] g 0 cap l.toArray x.w0 eg (cmpLaysOp g 0 _ x.w0) hH hlt (by simpa using hl)
    rw [List.length_map] at *
    refine key.mono ?_
    rintro e w' ⟨rfl, n, os, rfl⟩
    have hd : Go.Sort.pdq (ltOf cmpOp) l.toArray 0 l.toArray.size (Lib.bitLen l.toArray.size) true true = (sortF l).toArray := by simp [sortF]
    rw [hd]
    obtain ⟨cur', c1, c2, c3, c4⟩ := row_world eOp 5 x.w0 g n (sortF l).toArray os hc
    have hown : (x.C0.sv 0).ownBlock = some g := by rw [← e1]; rfl
    obtain ⟨C', k1, k2, k3⟩ := h0.rerow (id := 0) (v' := v) (g' := g) (cap' := cap) (rows' := (sortF l).map cOp) (cur' := cur') rfl (by
      refine ⟨c4.size, c4.os, c4.tape, c4.output, fun b hb hne => c4.blk b hb fun e => hne (by rw [hown, e])⟩) (.inl hown) (.inl ⟨rfl, by rw [← e1, List.length_map, hsl]⟩) c1 (by rw [List.length_map, hsl]; exact hcap) hm (by rw [c2, hz])
      (fun row hr => by obtain ⟨y, -, rfl⟩ := List.mem_map.1 hr; rfl) (flat_op.rep c3 (l := sortF l) (sortF l).length (fun i hi => by
        rw [List.getElem?_eq_getElem hi]
        simp [hi]) rfl (by simp))
    exact ⟨_, C', rfl, k1, .tup [] [] rfl (fun j p u h => by simp at h)⟩
end Go.Proofs.YtfdolehffjmdmaaGreatDoor
/- A loop whose objects change places: what stays is chosen anew in each round. -/
namespace Go.Proofs.YtfdolehffjmdmaaGreatDoor
open Go.RowKit
section
variable {P : Program} {x : Cx} {nt : Nat} {st : St}
def St.sel (st : St) (live ks : List Nat) : St :=
  ⟨fun t => if t ∈ live then renT false (pos ks) (frzAt true st.heap) (st.env t) else .top, subHeap (pos ks) (frzAt true st.heap) st.heap ks⟩
theorem weak_sel (live ks : List Nat) (hnd : ks.Nodup) (hlt : ∀ k ∈ ks, k < st.heap.length) (hpre : ∀ i, i < x.H0.length → ks[i]? = some i) : Weak x nt st (st.sel live ks) := by
  intro a w ⟨⟨C, hr, he⟩, hdf, hsz⟩
  obtain ⟨k1, k2⟩ := hr.restrict hnd hlt hpre
  refine ⟨⟨_, k1, fun t => ?_⟩, hdf, hsz⟩
  simp only [St.sel]
  split
  · exact renT_rep k2 (he t)
  · exact .any
theorem sel_mk (d : PV) (l : List (Nat × PV)) (H : List AObj) (live ks : List Nat) : (St.mk (mkE d l) H).sel live ks = ⟨mkE .top (live.map fun t => (t, renT false (pos ks) (frzAt true H) (mkE d l t))), subHeap (pos ks) (frzAt true H) H ks⟩ := by
  simp only [St.sel, St.mk.injEq, and_true]
  funext t
  induction live with
  | nil => simp [mkE]
  | cons k live ih =>
    simp only [List.map_cons, mkE]
    by_cases e : k = t
    · subst e; simp
    · rw [if_neg e, ← ih]
      simp [Ne.symm e]
def againS (x : Cx) (nt : Nat) (I : Nat → St → Prop) (n : Nat) (st : St) : Prop := ∃ n' st', n' < n ∧ Weak x nt st st' ∧ I n' st'
theorem loop_sel {b : LC} {Q : AE → St → Prop} (I : Nat → St → Prop) (n : Nat) (h0 : ∃ st', Weak x nt st st' ∧ I n st')
    (hstep : ∀ n st, I n st → walk P x nt b (@thenB ⟨againS x nt I n⟩ Q) st) : W P x nt (.loop b) Q st := by
  refine W_loop (fun n st => ∃ st', Weak x nt st st' ∧ I n st') n h0 ?_
  rintro n st ⟨st', hw, hI⟩
  refine W_weaken hw ((W_walk (hstep n st' hI)).mono fun e st2 hq => ?_)
  cases e with
  | normal => obtain ⟨n', st3, g2, g3, g4⟩ := hq; exact ⟨n', g2, st3, g3, g4⟩
  | exit id => exact hq
  | ret => exact hq
end
end Go.Proofs.YtfdolehffjmdmaaGreatDoor
/- The map of a log (fold.Raw). -/
namespace Go.Proofs.YtfdolehffjmdmaaGreatDoor
set_option linter.unusedSimpArgs false
set_option linter.unusedVariables false
open Go.RowKit
theorem weak_puF {x : Cx} {nt : Nat} {st : St} (id : Nat) {v T sz : Nat} {sto : Bool} {rows rows' : List (List PV)} (h : st.heap[id]? = some (.arr v sto true T sz rows)) (hf : rows.map (·.map (frz st.heap)) = rows') (hp : rows'.all (fun r => r.all PV.isPure) = true) :
    Weak x nt st ⟨st.env, st.heap.set id (.arr v false false T sz rows')⟩ := by
  subst hf
  intro a w ⟨⟨C, hr, he⟩, hdf, hs⟩
  obtain ⟨k1, k2⟩ := hr.change (C' := C) (ob' := .arr v false false T sz (rows.map (·.map (frz st.heap)))) h (step_refl w) rfl (fun _ => rfl) (fun _ _ => ⟨rfl, rfl⟩) (.inl ⟨rfl, rfl⟩)
    (fun b o _ hf hb => by have := hf hb; simp at this) (fun b o _ _ => rfl) (fun b h => .inl h)
    (fun hm hmp => by
      obtain ⟨o1, o2, o3, xs, o4, o5⟩ := hr.obj id _ h
      refine ⟨o1, o2, fun row hrow => ?_, xs, by simpa using o4, fun k row j p u a b c => ?_⟩
      · obtain ⟨r, hr1, rfl⟩ := List.mem_map.1 hrow
        simpa using o3 r hr1
      · obtain ⟨r, hr1, rfl⟩ := map_get a
        obtain ⟨q, hq1, rfl⟩ := map_get b
        obtain ⟨e1, e2⟩ := o5 k r j q u hr1 hq1 c
        refine ⟨e1, ?_⟩
        simp only [Bool.false_eq_true, if_false, if_true] at e2 ⊢
        refine hmp _ _ ((frz_rep hr e2).pureOf ?_)
        have h1 := List.all_eq_true.1 hp _ (List.mem_map.2 ⟨r, List.mem_of_getElem? hr1, rfl⟩)
        exact List.all_eq_true.1 h1 _ (List.mem_map.2 ⟨q, List.mem_of_getElem? hq1, rfl⟩))
  exact ⟨⟨C, k1, fun u => k2 _ _ (he u)⟩, hdf, hs⟩
abbrev KV := ByteArray × List ByteArray
def cPair (p : KV) : List PV := [.str p.1, .list (p.2.map cStr)]
def grp1 (out : List KV) (o : ByteArray × ByteArray) : List KV := match out.getLast? with
  | some p => if p.1 = o.1 then (if p.2.any (fun s => decide (o.2 = s)) = true then out else out.dropLast ++ [(p.1, p.2 ++ [o.2])]) else out ++ [(o.1, [o.2])]
  | none => [(o.1, [o.2])]
theorem grp1_in {o : List KV} {key v : ByteArray} {vs : List ByteArray} (h : (vs.any fun x => decide (v = x)) = true) : grp1 (o ++ [(key, vs)]) (key, v) = o ++ [(key, vs)] := by
  rw [grp1, List.getLast?_concat]
  simp only [if_true]
  rw [if_pos h]
theorem grp1_app {o : List KV} {key v : ByteArray} {vs : List ByteArray} (h : (vs.any fun x => decide (v = x)) = false) : grp1 (o ++ [(key, vs)]) (key, v) = o ++ [(key, vs ++ [v])] := by
  rw [grp1, List.getLast?_concat]
  simp only [if_true]
  rw [if_neg (by simp [h]), List.dropLast_concat]
theorem grp1_new {o : List KV} {key k v : ByteArray} {vs : List ByteArray} (h : ¬ key = k) : grp1 (o ++ [(key, vs)]) (k, v) = (o ++ [(key, vs)]) ++ [(k, [v])] := by
  rw [grp1, List.getLast?_concat]
  simp only [if_neg h]
def grpL (l : List (ByteArray × ByteArray)) : List KV := l.foldl grp1 []
def standsL (l : List Entry) (c : Int) : List FOp := (opsL l c).filter (standB (pasts l) l (opsL l c))
noncomputable def rawL (l : List Entry) (c : Int) : List KV := grpL ((sortF (standsL l c)).map FOp.kv)
theorem grpL_take {l : List FOp} {k : Nat} (h : k < l.length) : grpL ((l.take (k + 1)).map FOp.kv) = grp1 (grpL ((l.take k).map FOp.kv)) (nth l k).kv := by
  rw [grpL, List.take_add_one, nth_get? _ _ h, Option.toList_some, List.map_append, List.foldl_append]
  rfl
theorem indexStr_meets (l : List ByteArray) (y : ByteArray) (hl : l.length ≤ 9223372036854775806) : Meets Tryz.prog 135 [.list (l.map cStr), .str y] [] (.int .i64 (idxF (fun x => decide (y = x)) l 0)) [] := by
  refine Meets.of_walk Tryz.func135 Tryz.ntmps135 low135 res135 (by simp) fun x hx => ?_
  simp only [go_sem, Nat.reduceLT, Nat.reduceAdd, Nat.reduceEqDiff, Nat.reduceLeDiff, Nat.reduceSub, Nat.reduceMul, Int.reduceEq, eq_self, reduceIte, L135, R135]
  refine loop_inv [0, 1, 7, 8] 0 (fun n st => ∃ k : Nat, k + n = l.length ∧ idxF (fun x => decide (y = x)) (l.drop k) k = idxF (fun x => decide (y = x)) l 0 ∧
    st = ⟨mkE .top [(0, .list (l.map cStr)), (1, .str y), (7, .int .i64 l.length), (8, .int .i64 k)], []⟩) l.length (by simp [hx]) (by simp) ?_ ?_
  · refine ⟨0, by omega, by simp, ?_⟩
    simp [trim_mk, go_sem, Nat.reduceLT, Nat.reduceAdd, Nat.reduceEqDiff, Nat.reduceLeDiff, Nat.reduceSub, Nat.reduceMul, Int.reduceEq, eq_self, reduceIte, subHeap, renObj, pos, List.range_succ]
  · rintro n st ⟨k, hk, hi, rfl⟩
    by_cases hlt : k < l.length
    · have hg : l[k]? = some (nth l k) := nth_get? _ _ hlt
      have wk := i64_up (k := k) (by omega)
      rw [idxF_drop _ l k hlt] at hi
      by_cases he : y = nth l k
      · simp only [go_sem, Nat.reduceLT, Nat.reduceAdd, Nat.reduceEqDiff, Nat.reduceLeDiff, Nat.reduceSub, Nat.reduceMul, Int.reduceEq, eq_self, reduceIte, hlt, hg, cStr, he, decide_true]
        refine ret_pure hx ?_
        simp [he] at hi
        simp [go_sem, Nat.reduceLT, Nat.reduceAdd, Nat.reduceEqDiff, Nat.reduceLeDiff, Nat.reduceSub, Nat.reduceMul, Int.reduceEq, eq_self, reduceIte, L135, R135, hi, he]
      · simp only [go_sem, Nat.reduceLT, Nat.reduceAdd, Nat.reduceEqDiff, Nat.reduceLeDiff, Nat.reduceSub, Nat.reduceMul, Int.reduceEq, eq_self, reduceIte, hlt, hg, cStr, he, wk, decide_false]
        refine ⟨by simp, n - 1, by omega, k + 1, by omega, by simpa [he] using hi, ?_⟩
        simp [trim_mk, go_sem, Nat.reduceLT, Nat.reduceAdd, Nat.reduceEqDiff, Nat.reduceLeDiff, Nat.reduceSub, Nat.reduceMul, Int.reduceEq, eq_self, reduceIte, subHeap, renObj, pos, List.range_succ]
    · have : l.drop k = [] := List.drop_eq_nil_of_le (by omega)
      rw [this] at hi
      simp only [go_sem, Nat.reduceLT, Nat.reduceAdd, Nat.reduceEqDiff, Nat.reduceLeDiff, Nat.reduceSub, Nat.reduceMul, Int.reduceEq, eq_self, reduceIte, hlt]
      refine ret_pure hx ?_
      simp [go_sem, Nat.reduceLT, Nat.reduceAdd, Nat.reduceEqDiff, Nat.reduceLeDiff, Nat.reduceSub, Nat.reduceMul, Int.reduceEq, eq_self, reduceIte, L135, R135, ← hi, idxF]
theorem containsStr_meets (l : List ByteArray) (y : ByteArray) (hl : l.length ≤ 9223372036854775806) : Meets Tryz.prog 95 [.list (l.map cStr), .str y] [] (.bool (l.any fun x => decide (y = x))) [] := by
  refine Meets.of_walk Tryz.func95 Tryz.ntmps95 low95 res95 (by simp) fun x hx => ?_
  simp only [go_sem, Nat.reduceLT, Nat.reduceAdd, Nat.reduceEqDiff, Nat.reduceLeDiff, Nat.reduceSub, Nat.reduceMul, Int.reduceEq, eq_self, reduceIte, L95, R95]
  refine ops_call (.pureE (indexStr_meets l y hl) (by simp [go_sem, Nat.reduceLT, Nat.reduceAdd, Nat.reduceEqDiff, Nat.reduceLeDiff, Nat.reduceSub, Nat.reduceMul, Int.reduceEq, eq_self, reduceIte])) ?_
  simp only [go_sem, Nat.reduceLT, Nat.reduceAdd, Nat.reduceEqDiff, Nat.reduceLeDiff, Nat.reduceSub, Nat.reduceMul, Int.reduceEq, eq_self, reduceIte]
  refine ret_pure hx ?_
  simp [go_sem, Nat.reduceLT, Nat.reduceAdd, Nat.reduceEqDiff, Nat.reduceLeDiff, Nat.reduceSub, Nat.reduceMul, Int.reduceEq, eq_self, reduceIte, L95, R95, idxF_any]
theorem cloneOps_meets (rows : List (List PV)) (hz : ∀ row ∈ rows, row.length = 5) (hb : rows.length * 56 ≤ 140737488355328) : Meets Tryz.prog 87 [.list rows] [] (.arr 0 1) [.arr 1 true false 131 5 rows] := by
  refine Meets.of_walk Tryz.func87 Tryz.ntmps87 low87 res87 (by simp) fun x hx => ?_
  simp only [go_sem, Nat.reduceLT, Nat.reduceAdd, Nat.reduceEqDiff, Nat.reduceLeDiff, Nat.reduceSub, Nat.reduceMul, Int.reduceEq, eq_self, reduceIte, L87, R87]
  refine ops_isnil rfl fun b hb' => ?_
  cases b
  · simp only [go_sem, Nat.reduceLT, Nat.reduceAdd, Nat.reduceEqDiff, Nat.reduceLeDiff, Nat.reduceSub, Nat.reduceMul, Int.reduceEq, eq_self, reduceIte]
    rw [app_arr rfl rfl hz (by simpa using hb)]
    simp only [go_sem, Nat.reduceLT, Nat.reduceAdd, Nat.reduceEqDiff, Nat.reduceLeDiff, Nat.reduceSub, Nat.reduceMul, Int.reduceEq, eq_self, reduceIte]
    refine ret_keep [0] (by simp) (by simp [hx]) (by simp [hx]) ?_ ?_
    · simp [go_sem, Nat.reduceLT, Nat.reduceAdd, Nat.reduceEqDiff, Nat.reduceLeDiff, Nat.reduceSub, Nat.reduceMul, Int.reduceEq, eq_self, reduceIte, L87, R87, hx, pos]
    · simp [subHeap, renObj, hx]
  · simp only [go_sem, Nat.reduceLT, Nat.reduceAdd, Nat.reduceEqDiff, Nat.reduceLeDiff, Nat.reduceSub, Nat.reduceMul, Int.reduceEq, eq_self, reduceIte]
    refine ret_weak (weak_own 2 1 131 5 true false rfl (by omega)) ?_
    have : rows = [] := hb' rfl
    subst this
    rw [put_mk]
    refine ret_keep [0] (by simp) (by simp [hx]) (by simp [hx]) ?_ ?_
    · simp [go_sem, Nat.reduceLT, Nat.reduceAdd, Nat.reduceEqDiff, Nat.reduceLeDiff, Nat.reduceSub, Nat.reduceMul, Int.reduceEq, eq_self, reduceIte, L87, R87, hx, pos]
    · simp [subHeap, renObj, hx]
end Go.Proofs.YtfdolehffjmdmaaGreatDoor
/- The map of a log (fold.Raw), the walk. -/
namespace Go.Proofs.YtfdolehffjmdmaaGreatDoor
set_option linter.unusedSimpArgs false
set_option linter.unusedVariables false
open Go.RowKit
theorem weak_eqF {x : Cx} {nt : Nat} {st st1 st2 : St} (h : st = st1) (hw : Weak x nt st1 st2) : Weak x nt st st2 := h ▸ hw
theorem opsL_mem {l : List Entry} {c : Int} {y : FOp} (h : y ∈ opsL l c) : ∃ e ∈ l, y.id = e.id ∧ meetB e.c c = true ∧ opE e = some y := by
  obtain ⟨e, he, hs⟩ := List.mem_filterMap.1 h
  refine ⟨e, (List.mem_filter.1 he).1, ?_, (List.mem_filter.1 he).2, hs⟩
  unfold opE at hs
  split at hs
  · cases hs
  · cases hs; rfl
theorem opsL_len (l : List Entry) (c : Int) : (opsL l c).length ≤ l.length := by
  have a := filterMap_len opE (withC l c)
  have b := withC_len l c
  unfold opsL; omega
theorem stands_len (l : List Entry) (c : Int) : (standsL l c).length ≤ l.length := by
  have a := opsL_len l c
  have : (standsL l c).length ≤ (opsL l c).length := List.length_filter_le ..
  omega
theorem findE_mem {l : List Entry} {e : Entry} (h : e ∈ l) : 0 ≤ findE l e.id := Int.not_lt.1 fun hlt => findE_neg.1 hlt e h rfl
theorem stand_of {l : List Entry} {c : Int} (h : LogOk l) {y : FOp} (hy : y ∈ opsL l c) : 0 ≤ findE l y.id ∧ findE l y.id < (pasts l).length ∧ (pastAt (pasts l) l y.id).length ≤ 9223372036854775806 := by
  have hm := h.len
  obtain ⟨e, he, hi, -⟩ := opsL_mem hy
  have h0 : 0 ≤ findE l y.id := by rw [hi]; exact findE_mem he
  obtain ⟨k, f1, f2, f3⟩ := findE_spec h0
  have hpl : (pastAt (pasts l) l y.id).length ≤ 40 := by rw [pastAt_eq, f1, Int.toNat_natCast]; exact pastOf_len h f2
  exact ⟨h0, by simp [pasts]; omega, by omega⟩
set_option maxRecDepth 20000 in
set_option maxHeartbeats 8000000 in
theorem fraw_meets (l : List Entry) (c : Int) (h : LogOk l) (hc : wthn c 1 7 = true) (ht : ∀ e ∈ l, e.t.size ≤ 4294967000) : Meets Tryz.prog 39 [.list (l.map cE), .int .i64 c] [] (.list ((rawL l c).map cPair)) [] := by
  have hm := h.len
  have hol := opsL_len l c
  have hsl := stands_len l c
  obtain ⟨v1, hdel⟩ := delF_meets (opsL l c) 88 [.rptr [.list ((opsL l c).map cOp)], .rptr [pvPasts l (pasts l)]] (fun o => !standB (pasts l) l (opsL l c) o) 1 (by kernel_rfl) (by omega)
    (closedCaps (by simp [renLeaf, pvPasts]) (by simp [ren, renT, renCell, renLeaf, pvPasts])) (fun nl f fz => ⟨by simp [renLeaf, pvPasts], by simp [ren, renT, renCell, renLeaf, pvPasts], by simp [renCell, renLeaf, pvPasts]⟩)
    (fun o ho => fraw1_meets l (pasts l) (opsL l c) o (by omega) (by omega) (fun y hy => stand_of h hy))
  have hff : ((opsL l c).filter fun o => !!standB (pasts l) l (opsL l c) o) = standsL l c := by
    rw [standsL]; congr 1; funext o; simp
  rw [hff] at hdel
  have hsort := sortOps_meets (standsL l c) v1 131 (by omega)
  have hfl : (sortF (standsL l c)).length = (standsL l c).length := (sortF_spec _).1.length_eq
  have hcl := cloneOps_meets ((opsL l c).map cOp) (fun row hr => by obtain ⟨o, -, rfl⟩ := List.mem_map.1 hr; rfl) (by rw [List.length_map]; omega)
  refine Meets.of_parts Tryz.func39 Tryz.ntmps39 low39 res39 (by simp) fun x hx => ?_
  simp only [LC.flat, L39, R39, List.cons_append, List.nil_append]
  refine WL_join 3 [5, 6] 2 (fun st => st = ⟨mkE .top [(6, .rptr [.list ((opsL l c).map cOp)]), (5, .rptr [pvPasts l (pasts l)]), (5, .ptr 0 0), (6, .ptr 1 0)], [.gone, .gone]⟩) (by simp [hx]) (by simp) ?_ ?_
  · simp only [go_sem, Nat.reduceLT, Nat.reduceAdd, Nat.reduceEqDiff, Nat.reduceLeDiff, Nat.reduceSub, Nat.reduceMul, Int.reduceEq, eq_self, reduceIte, L39, R39, List.take_succ_cons, List.take_zero]
    refine ops_call (.pureE (before_meets l h) (by simp [go_sem, Nat.reduceLT, Nat.reduceAdd, Nat.reduceEqDiff, Nat.reduceLeDiff, Nat.reduceSub, Nat.reduceMul, Int.reduceEq, eq_self, reduceIte])) ?_
    simp only [go_sem, Nat.reduceLT, Nat.reduceAdd, Nat.reduceEqDiff, Nat.reduceLeDiff, Nat.reduceSub, Nat.reduceMul, Int.reduceEq, eq_self, reduceIte, pvPasts]
    refine ops_call (.pureE (ops_meets l c h hc ht) (by simp [go_sem, Nat.reduceLT, Nat.reduceAdd, Nat.reduceEqDiff, Nat.reduceLeDiff, Nat.reduceSub, Nat.reduceMul, Int.reduceEq, eq_self, reduceIte])) ?_
    simp only [go_sem, Nat.reduceLT, Nat.reduceAdd, Nat.reduceEqDiff, Nat.reduceLeDiff, Nat.reduceSub, Nat.reduceMul, Int.reduceEq, eq_self, reduceIte, pvPasts]
    rw [join_normal]
    refine ⟨by simp, _, ?_, rfl⟩
    have e := weak_rptr (x := x) (nt := 79) (st := ⟨mkE .top [(5, .ptr 0 0), (6, .ptr 1 0)], [.box [pvPasts l (pasts l)], .box [.list ((opsL l c).map cOp)]]⟩) (cells' := [pvPasts l (pasts l)]) (H' := [.gone, .box [.list ((opsL l c).map cOp)]]) 5 0 rfl rfl (by simp [frz, pvPasts]) (by simp [PV.isPure, pvPasts]) rfl
    have e2 := weak_rptr (x := x) (nt := 79) (st := ⟨mkE .top [(5, .rptr [pvPasts l (pasts l)]), (5, .ptr 0 0), (6, .ptr 1 0)], [.gone, .box [.list ((opsL l c).map cOp)]]⟩) (cells' := [.list ((opsL l c).map cOp)]) (H' := [.gone, .gone]) 6 1 rfl rfl (by simp [frz]) (by simp [PV.isPure]) rfl
    rw [put_mk] at e e2
    refine Weak.trans (weak_eqF ?_ e) e2
    simp [trim_mk, go_sem, Nat.reduceLT, Nat.reduceAdd, Nat.reduceEqDiff, Nat.reduceLeDiff, Nat.reduceSub, Nat.reduceMul, Int.reduceEq, eq_self, reduceIte, subHeap, renObj, renCell, renLeaf, pos, List.range_succ, pvPasts]
  · rintro st rfl
    refine WL_walk ?_
    simp only [go_sem, Nat.reduceLT, Nat.reduceAdd, Nat.reduceEqDiff, Nat.reduceLeDiff, Nat.reduceSub, Nat.reduceMul, Int.reduceEq, eq_self, reduceIte, L39, R39, List.drop_succ_cons, List.drop_zero]
    refine ops_call (.heapE [] (r' := .arr 2 1) (H' := [.gone, .gone, .arr 1 true false 131 5 ((opsL l c).map cOp)]) hcl (by simp) (by simp) (by simp [go_sem, Nat.reduceLT, Nat.reduceAdd, Nat.reduceEqDiff, Nat.reduceLeDiff, Nat.reduceSub, Nat.reduceMul, Int.reduceEq, eq_self, reduceIte]) rfl rfl rfl) ?_
    simp only [go_sem, Nat.reduceLT, Nat.reduceAdd, Nat.reduceEqDiff, Nat.reduceLeDiff, Nat.reduceSub, Nat.reduceMul, Int.reduceEq, eq_self, reduceIte]
    refine ops_call (.heapE [2] (r' := .arr 2 v1) (H' := [.gone, .gone, .arr v1 true false 131 5 ((standsL l c).map cOp)]) hdel (by simp) (by simp) (by simp [go_sem, Nat.reduceLT, Nat.reduceAdd, Nat.reduceEqDiff, Nat.reduceLeDiff, Nat.reduceSub, Nat.reduceMul, Int.reduceEq, eq_self, reduceIte, pos, pvPasts]) (by simp [subHeap, renObj, go_sem, Nat.reduceLT, Nat.reduceAdd, Nat.reduceEqDiff, Nat.reduceLeDiff, Nat.reduceSub, Nat.reduceMul, Int.reduceEq, eq_self, reduceIte, pos]) (by simp [renT, ren, renCell, renLeaf, backF, backId]) (by simp [merge, mergeObj, callId, renObj, pos, go_sem, Nat.reduceLT, Nat.reduceAdd, Nat.reduceEqDiff, Nat.reduceLeDiff, Nat.reduceSub, Nat.reduceMul, Int.reduceEq, eq_self, reduceIte, List.range_succ, backF, backId])) ?_
    simp only [go_sem, Nat.reduceLT, Nat.reduceAdd, Nat.reduceEqDiff, Nat.reduceLeDiff, Nat.reduceSub, Nat.reduceMul, Int.reduceEq, eq_self, reduceIte]
    refine ops_call (.heapE [2] (r' := .tup []) (H' := [.gone, .gone, .arr v1 true false 131 5 ((sortF (standsL l c)).map cOp)]) hsort (by simp) (by simp) (by simp [go_sem, Nat.reduceLT, Nat.reduceAdd, Nat.reduceEqDiff, Nat.reduceLeDiff, Nat.reduceSub, Nat.reduceMul, Int.reduceEq, eq_self, reduceIte, pos]) (by simp [subHeap, renObj, go_sem, Nat.reduceLT, Nat.reduceAdd, Nat.reduceEqDiff, Nat.reduceLeDiff, Nat.reduceSub, Nat.reduceMul, Int.reduceEq, eq_self, reduceIte, pos]) rfl (by simp [merge, mergeObj, callId, renObj, pos, go_sem, Nat.reduceLT, Nat.reduceAdd, Nat.reduceEqDiff, Nat.reduceLeDiff, Nat.reduceSub, Nat.reduceMul, Int.reduceEq, eq_self, reduceIte, List.range_succ, backF, backId])) ?_
    simp only [go_sem, Nat.reduceLT, Nat.reduceAdd, Nat.reduceEqDiff, Nat.reduceLeDiff, Nat.reduceSub, Nat.reduceMul, Int.reduceEq, eq_self, reduceIte, List.length_map]
    obtain ⟨S, hS⟩ : ∃ S, sortF (standsL l c) = S := ⟨_, rfl⟩
    have hraw : rawL l c = grpL (S.map FOp.kv) := by rw [rawL, hS]
    rw [hS] at hfl
    rw [hS, hraw]
    refine loop_sel (fun n st => ∃ k vo : Nat, k + n = S.length ∧
      ((grpL ((S.take k).map FOp.kv) = [] ∧ k = 0 ∧ st = ⟨mkE .top [(7, .arr 0 v1), (8, .arr 1 vo), (23, .arr 0 v1), (24, .int .i64 S.length), (25, .int .i64 k)], [.arr v1 true false 131 5 (S.map cOp), .arr vo true true 81 2 []]⟩) ∨
       ∃ (o : List KV) (key : ByteArray) (vs : List ByteArray) (v2 : Nat), grpL ((S.take k).map FOp.kv) = o ++ [(key, vs)] ∧ (o.length + 1 ≤ k ∧ vs.length ≤ k) ∧
        st = ⟨mkE .top [(7, .arr 0 v1), (8, .arr 1 vo), (23, .arr 0 v1), (24, .int .i64 S.length), (25, .int .i64 k)], [.arr v1 true false 131 5 (S.map cOp), .arr vo true true 81 2 (o.map cPair ++ [[.str key, .arr 2 v2]]), .arr v2 true false 9 1 (vs.map cStr)]⟩)) S.length ?_ ?_
    · refine ⟨_, Weak.trans (weak_own 8 0 81 2 true true rfl (by omega)) (weak_sel [7, 8, 23, 24, 25] [2, 3] (by simp) (by simp [St.put]) (by simp [hx])), 0, 0, by omega, .inl ⟨rfl, rfl, ?_⟩⟩
      rw [put_mk]
      simp [sel_mk, go_sem, Nat.reduceLT, Nat.reduceAdd, Nat.reduceEqDiff, Nat.reduceLeDiff, Nat.reduceSub, Nat.reduceMul, Int.reduceEq, eq_self, reduceIte, subHeap, renObj, pos, List.range_succ]
    · rintro n st ⟨k, vo, hk, hI⟩
      by_cases hlt : k < S.length
      · have hg : S[k]? = some (nth S k) := nth_get? _ _ hlt
        have wk := i64_up (k := k) (by omega)
        have hst := grpL_take hlt
        rcases hI with ⟨hg0, rfl, rfl⟩ | ⟨o, key, vs, v2, hgo, hlen, rfl⟩
        · rw [hg0] at hst
          have h0 : ((0 : Int) < (S.length : Int)) = True := eq_true (by omega)
          have hneg : IntKind.i64.wrap ((0 : Int) - 1) = -1 := by decide
          have hneg2 : ((-1 : Int) < 0) = True := eq_true (by decide)
          have w1 : IntKind.i64.wrap ((0 : Int) + 1) = 1 := by decide
          simp only [go_sem, Nat.reduceLT, Nat.reduceAdd, Nat.reduceEqDiff, Nat.reduceLeDiff, Nat.reduceSub, Nat.reduceMul, Int.reduceEq, eq_self, reduceIte, Int.ofNat_zero, Int.natCast_one, Int.cast_ofNat_Int, Int.reduceLT, Int.reduceLE, Int.reduceToNat, Nat.reduceLT, Int.toNat_zero, Int.natCast_zero, Int.le_refl, Int.lt_irrefl, Int.reduceAdd, frz, false_or, or_true, List.length_map, hlt, hg, h0, hneg, hneg2, List.getElem?_map, Option.map_some, cOp, List.length_nil, PV.isPure, List.all_cons, List.all_nil]
          rw [app_arrI rfl rfl (by simp) (by simp)]
          have w2 : IntKind.i64.wrap (1 : Int) = 1 := by decide
          simp only [go_sem, Nat.reduceLT, Nat.reduceAdd, Nat.reduceEqDiff, Nat.reduceLeDiff, Nat.reduceSub, Nat.reduceMul, Int.reduceEq, eq_self, reduceIte, Int.ofNat_zero, Int.natCast_one, Int.cast_ofNat_Int, Int.reduceLT, Int.reduceLE, Int.reduceToNat, Nat.reduceLT, Int.toNat_zero, Int.natCast_zero, Int.le_refl, Int.lt_irrefl, Int.reduceAdd, frz, false_or, or_true, w1, w2]
          refine ⟨n - 1, _, by omega, weak_sel [7, 8, 23, 24, 25] [0, 1, 3] (by simp) (by simp) (by simp [hx]), 1, vo + 1, by omega, .inr ⟨[], (nth S 0).k, [(nth S 0).v], 0, ?_, by simp, ?_⟩⟩
          · rw [hst]; rfl
          · simp [sel_mk, go_sem, Nat.reduceLT, Nat.reduceAdd, Nat.reduceEqDiff, Nat.reduceLeDiff, Nat.reduceSub, Nat.reduceMul, Int.reduceEq, eq_self, reduceIte, subHeap, renObj, renCell, renLeaf, pos, List.range_succ, cStr]
        · rw [hgo] at hst
          have hL : (List.map cPair o ++ [[PV.str key, PV.arr 2 v2]]).length = o.length + 1 := by simp
          have hw1 : IntKind.i64.wrap (((o.length + 1 : Nat) : Int) - 1) = (o.length : Int) := by rw [IntWalk.i64_in _ (by omega)]; omega
          have hng : ((o.length : Int) < 0) = False := eq_false (by omega)
          have hge : (List.map cPair o ++ [[PV.str key, PV.arr 2 v2]])[o.length]? = some [PV.str key, PV.arr 2 v2] := by
            rw [List.getElem?_append_right (by simp)]; simp
          have hlo : o.length < o.length + 1 := by omega
          simp only [go_sem, Nat.reduceLT, Nat.reduceAdd, Nat.reduceEqDiff, Nat.reduceLeDiff, Nat.reduceSub, Nat.reduceMul, Int.reduceEq, eq_self, reduceIte, Int.ofNat_zero, Int.natCast_one, Int.cast_ofNat_Int, Int.reduceLT, Int.reduceLE, Int.reduceToNat, Nat.reduceLT, Int.toNat_zero, Int.natCast_zero, Int.le_refl, Int.lt_irrefl, Int.reduceAdd, frz, false_or, or_true, List.length_map, hlt, hg, List.getElem?_map, Option.map_some, cOp, hL, hw1, hng, hge, hlo]
          by_cases hk2 : key = (nth S k).k
          · simp only [go_sem, Nat.reduceLT, Nat.reduceAdd, Nat.reduceEqDiff, Nat.reduceLeDiff, Nat.reduceSub, Nat.reduceMul, Int.reduceEq, eq_self, reduceIte, Int.ofNat_zero, Int.natCast_one, Int.cast_ofNat_Int, Int.reduceLT, Int.reduceLE, Int.reduceToNat, Nat.reduceLT, Int.toNat_zero, Int.natCast_zero, Int.le_refl, Int.lt_irrefl, Int.reduceAdd, frz, false_or, or_true, hk2, decide_true, hL, hw1, hng, hge, hlo]
            subst hk2
            simp only [go_sem, Nat.reduceLT, Nat.reduceAdd, Nat.reduceEqDiff, Nat.reduceLeDiff, Nat.reduceSub, Nat.reduceMul, Int.reduceEq, eq_self, reduceIte, Int.ofNat_zero, Int.natCast_one, Int.cast_ofNat_Int, Int.reduceLT, Int.reduceLE, Int.reduceToNat, Nat.reduceLT, Int.toNat_zero, Int.natCast_zero, Int.le_refl, Int.lt_irrefl, Int.reduceAdd, frz, false_or, or_true, hL, hw1, hng, hge, hlo]
            refine ops_call (.scalarE (containsStr_meets vs (nth S k).v (by omega)) rfl (by simp [go_sem, Nat.reduceLT, Nat.reduceAdd, Nat.reduceEqDiff, Nat.reduceLeDiff, Nat.reduceSub, Nat.reduceMul, Int.reduceEq, eq_self, reduceIte, frzAt, pos])) ?_
            cases hct : vs.any fun x => decide ((nth S k).v = x)
            · simp only [go_sem, Nat.reduceLT, Nat.reduceAdd, Nat.reduceEqDiff, Nat.reduceLeDiff, Nat.reduceSub, Nat.reduceMul, Int.reduceEq, eq_self, reduceIte, Int.ofNat_zero, Int.natCast_one, Int.cast_ofNat_Int, Int.reduceLT, Int.reduceLE, Int.reduceToNat, Nat.reduceLT, Int.toNat_zero, Int.natCast_zero, Int.le_refl, Int.lt_irrefl, Int.reduceAdd, frz, false_or, or_true, hL, hw1, hng, hge, hlo, PV.isPure, List.all_cons, List.all_nil]
              rw [app_arr rfl rfl (by simp) (by simp; omega)]
              simp only [go_sem, Nat.reduceLT, Nat.reduceAdd, Nat.reduceEqDiff, Nat.reduceLeDiff, Nat.reduceSub, Nat.reduceMul, Int.reduceEq, eq_self, reduceIte, Int.ofNat_zero, Int.natCast_one, Int.cast_ofNat_Int, Int.reduceLT, Int.reduceLE, Int.reduceToNat, Nat.reduceLT, Int.toNat_zero, Int.natCast_zero, Int.le_refl, Int.lt_irrefl, Int.reduceAdd, frz, false_or, or_true, hL, hw1, hng, hge, hlo, wk, true_or, or_true, Option.map_some]
              repeat refine ⟨rfl, ?_⟩
              try simp only [go_sem, Nat.reduceLT, Nat.reduceAdd, Nat.reduceEqDiff, Nat.reduceLeDiff, Nat.reduceSub, Nat.reduceMul, Int.reduceEq, eq_self, reduceIte, Int.ofNat_zero, Int.natCast_one, Int.cast_ofNat_Int, Int.reduceLT, Int.reduceLE, Int.reduceToNat, Nat.reduceLT, Int.toNat_zero, Int.natCast_zero, Int.le_refl, Int.lt_irrefl, Int.reduceAdd, frz, false_or, or_true, wk]
              refine ⟨n - 1, _, by omega, weak_sel [7, 8, 23, 24, 25] [0, 1, 2] (by simp) (by simp) (by simp [hx]), k + 1, vo, by omega, .inr ⟨o, (nth S k).k, vs ++ [(nth S k).v], v2 + 1, ?_, by simp; omega, ?_⟩⟩
              · rw [hst]; exact grp1_app hct
              · simp [sel_mk, go_sem, Nat.reduceLT, Nat.reduceAdd, Nat.reduceEqDiff, Nat.reduceLeDiff, Nat.reduceSub, Nat.reduceMul, Int.reduceEq, eq_self, reduceIte, subHeap, renObj, renCell, renLeaf, pos, List.range_succ, cStr, cPair, frzAt]
            · simp only [go_sem, Nat.reduceLT, Nat.reduceAdd, Nat.reduceEqDiff, Nat.reduceLeDiff, Nat.reduceSub, Nat.reduceMul, Int.reduceEq, eq_self, reduceIte, Int.ofNat_zero, Int.natCast_one, Int.cast_ofNat_Int, Int.reduceLT, Int.reduceLE, Int.reduceToNat, Nat.reduceLT, Int.toNat_zero, Int.natCast_zero, Int.le_refl, Int.lt_irrefl, Int.reduceAdd, frz, false_or, or_true, wk]
              refine ⟨n - 1, _, by omega, weak_sel [7, 8, 23, 24, 25] [0, 1, 2] (by simp) (by simp) (by simp [hx]), k + 1, vo, by omega, .inr ⟨o, (nth S k).k, vs, v2, ?_, by omega, ?_⟩⟩
              · rw [hst]; exact grp1_in hct
              · simp [sel_mk, go_sem, Nat.reduceLT, Nat.reduceAdd, Nat.reduceEqDiff, Nat.reduceLeDiff, Nat.reduceSub, Nat.reduceMul, Int.reduceEq, eq_self, reduceIte, subHeap, renObj, renCell, renLeaf, pos, List.range_succ, cStr, cPair, frzAt]
          · simp only [go_sem, Nat.reduceLT, Nat.reduceAdd, Nat.reduceEqDiff, Nat.reduceLeDiff, Nat.reduceSub, Nat.reduceMul, Int.reduceEq, eq_self, reduceIte, Int.ofNat_zero, Int.natCast_one, Int.cast_ofNat_Int, Int.reduceLT, Int.reduceLE, Int.reduceToNat, Nat.reduceLT, Int.toNat_zero, Int.natCast_zero, Int.le_refl, Int.lt_irrefl, Int.reduceAdd, frz, false_or, or_true, hk2, decide_false, hL, hw1, hng, hge, hlo, PV.isPure, List.all_cons, List.all_nil]
            rw [app_arrI rfl rfl (by simp) (by simp; omega)]
            simp only [go_sem, Nat.reduceLT, Nat.reduceAdd, Nat.reduceEqDiff, Nat.reduceLeDiff, Nat.reduceSub, Nat.reduceMul, Int.reduceEq, eq_self, reduceIte, Int.ofNat_zero, Int.natCast_one, Int.cast_ofNat_Int, Int.reduceLT, Int.reduceLE, Int.reduceToNat, Nat.reduceLT, Int.toNat_zero, Int.natCast_zero, Int.le_refl, Int.lt_irrefl, Int.reduceAdd, frz, false_or, or_true, wk]
            refine ⟨n - 1, _, by omega, weak_sel [7, 8, 23, 24, 25] [0, 1, 4] (by simp) (by simp) (by simp [hx]), k + 1, vo + 1, by omega, .inr ⟨o ++ [(key, vs)], (nth S k).k, [(nth S k).v], 0, ?_, by simp; omega, ?_⟩⟩
            · rw [hst]; exact grp1_new hk2
            · simp [sel_mk, go_sem, Nat.reduceLT, Nat.reduceAdd, Nat.reduceEqDiff, Nat.reduceLeDiff, Nat.reduceSub, Nat.reduceMul, Int.reduceEq, eq_self, reduceIte, subHeap, renObj, renCell, renLeaf, pos, List.range_succ, cStr, cPair, frzAt]
      · have hkS : k = S.length := by omega
        have hkn : ¬ ((k : Int) < (S.length : Int)) := by omega
        rw [List.take_of_length_le (by omega)] at hI
        rcases hI with ⟨hg0, rfl, rfl⟩ | ⟨o, key, vs, v2, hgo, hlen, rfl⟩
        · rw [hg0]
          simp only [go_sem, Nat.reduceLT, Nat.reduceAdd, Nat.reduceEqDiff, Nat.reduceLeDiff, Nat.reduceSub, Nat.reduceMul, Int.reduceEq, eq_self, reduceIte, Int.ofNat_zero, Int.natCast_one, Int.cast_ofNat_Int, Int.reduceLT, Int.reduceLE, Int.reduceToNat, Nat.reduceLT, Int.toNat_zero, Int.natCast_zero, Int.le_refl, Int.lt_irrefl, Int.reduceAdd, frz, false_or, or_true, hkn, hlt]
          have h0 : ((0 : Int) < (S.length : Int)) = False := eq_false (by omega)
          simp only [go_sem, Nat.reduceLT, Nat.reduceAdd, Nat.reduceEqDiff, Nat.reduceLeDiff, Nat.reduceSub, Nat.reduceMul, Int.reduceEq, eq_self, reduceIte, Int.ofNat_zero, Int.natCast_one, Int.cast_ofNat_Int, Int.reduceLT, Int.reduceLE, Int.reduceToNat, Nat.reduceLT, Int.toNat_zero, Int.natCast_zero, Int.le_refl, Int.lt_irrefl, Int.reduceAdd, frz, false_or, or_true, h0]
          refine ret_weak (weak_puF 1 (rows' := []) rfl rfl rfl) ?_
          refine ret_pure hx ?_
          simp [go_sem, Nat.reduceLT, Nat.reduceAdd, Nat.reduceEqDiff, Nat.reduceLeDiff, Nat.reduceSub, Nat.reduceMul, Int.reduceEq, eq_self, reduceIte, L39, R39, frzAt, pos]
        · rw [hgo]
          simp only [go_sem, Nat.reduceLT, Nat.reduceAdd, Nat.reduceEqDiff, Nat.reduceLeDiff, Nat.reduceSub, Nat.reduceMul, Int.reduceEq, eq_self, reduceIte, Int.ofNat_zero, Int.natCast_one, Int.cast_ofNat_Int, Int.reduceLT, Int.reduceLE, Int.reduceToNat, Nat.reduceLT, Int.toNat_zero, Int.natCast_zero, Int.le_refl, Int.lt_irrefl, Int.reduceAdd, frz, false_or, or_true, hkn, hlt]
          refine ret_weak (Weak.trans (weak_sel [4] [0, 1] (by simp) (by simp) (by simp [hx])) (weak_puF 1 (v := vo) (T := 81) (sz := 2) (sto := true) (rows := (o ++ [(key, vs)]).map cPair) (rows' := (o ++ [(key, vs)]).map cPair) ?_ ?_ ?_)) ?_
          · simp [sel_mk, go_sem, Nat.reduceLT, Nat.reduceAdd, Nat.reduceEqDiff, Nat.reduceLeDiff, Nat.reduceSub, Nat.reduceMul, Int.reduceEq, eq_self, reduceIte, subHeap, renObj, renCell, renLeaf, pos, List.range_succ, cPair, frzAt]
          · simp [cPair, frz]
          · simp [cPair, PV.isPure]
          refine ret_pure hx ?_
          simp [sel_mk, go_sem, Nat.reduceLT, Nat.reduceAdd, Nat.reduceEqDiff, Nat.reduceLeDiff, Nat.reduceSub, Nat.reduceMul, Int.reduceEq, eq_self, reduceIte, L39, R39, frzAt, pos, subHeap]
end Go.Proofs.YtfdolehffjmdmaaGreatDoor
/- The map of a log, and the values of a key (fold.Map, Get). -/
namespace Go.Proofs.YtfdolehffjmdmaaGreatDoor
set_option linter.unusedSimpArgs false
set_option linter.unusedVariables false
open Go.RowKit
def mapErr (l : List Entry) (c : Int) : Int := if checkLog l = 0 then (if wthn c 1 7 = true then 0 else 3) else checkLog l
noncomputable def mapL (l : List Entry) (c : Int) : List KV := if mapErr l c = 0 then rawL l c else []
theorem mapErr_ok {l : List Entry} {c : Int} : mapErr l c = 0 ↔ LogOk l ∧ wthn c 1 7 = true := by
  unfold mapErr
  rw [← log_ok]
  split
  · split <;> simp_all
  · simp_all
def getErr (l : List Entry) (c : Int) (k : ByteArray) : Int := if mapErr l c = 0 then (if wordS k = true then 0 else 1) else mapErr l c
def valsIn (m : List KV) (k : ByteArray) : List ByteArray := match m.find? fun p => decide (p.1 = k) with
  | some p => p.2
  | none => []
noncomputable def getL (l : List Entry) (c : Int) (k : ByteArray) : List ByteArray := if getErr l c k = 0 then valsIn (rawL l c) k else []
theorem log_t {l : List Entry} (h : LogOk l) : ∀ e ∈ l, e.t.size ≤ 12 := fun e he => by
  obtain ⟨k, hk, rfl⟩ := List.getElem_of_mem he
  have := h.chk k hk
  rw [nth_eq _ _ hk] at this
  exact (check_ok_bounds this).2.2.1
theorem map_meets (l : List Entry) (c : Int) (hl : l.length ≤ 9223372036854775806) : Meets Tryz.prog 9 [.list (l.map cE), .int .i64 c] [] (.tup [.list ((mapL l c).map cPair), .int .i64 (mapErr l c)]) [] := by
  refine Meets.of_walk Tryz.func9 Tryz.ntmps9 low9 res9 (by simp) fun x hx => ?_
  simp only [go_sem, Nat.reduceLT, Nat.reduceAdd, Nat.reduceEqDiff, Nat.reduceLeDiff, Nat.reduceSub, Nat.reduceMul, Int.reduceEq, eq_self, reduceIte, L9, R9]
  refine ops_call (.pureE (dagCheck_meets l hl) (by simp [go_sem, Nat.reduceLT, Nat.reduceAdd, Nat.reduceEqDiff, Nat.reduceLeDiff, Nat.reduceSub, Nat.reduceMul, Int.reduceEq, eq_self, reduceIte])) ?_
  by_cases h1 : checkLog l = 0
  · simp only [go_sem, Nat.reduceLT, Nat.reduceAdd, Nat.reduceEqDiff, Nat.reduceLeDiff, Nat.reduceSub, Nat.reduceMul, Int.reduceEq, eq_self, reduceIte, h1]
    refine ops_call (.pureE (colors_meets c) (by simp [go_sem, Nat.reduceLT, Nat.reduceAdd, Nat.reduceEqDiff, Nat.reduceLeDiff, Nat.reduceSub, Nat.reduceMul, Int.reduceEq, eq_self, reduceIte])) ?_
    cases h2 : wthn c 1 7
    · have he : mapErr l c = 3 := by simp [mapErr, h1, h2]
      simp only [go_sem, Nat.reduceLT, Nat.reduceAdd, Nat.reduceEqDiff, Nat.reduceLeDiff, Nat.reduceSub, Nat.reduceMul, Int.reduceEq, eq_self, reduceIte, Int.ofNat_zero, Int.natCast_one, Int.cast_ofNat_Int, Int.reduceLT, Int.reduceLE, Int.reduceToNat, Nat.reduceLT, Int.toNat_zero, Int.natCast_zero, Int.le_refl, Int.lt_irrefl, Int.reduceAdd, frz, false_or, or_true]
      refine ret_pure hx ?_
      simp [go_sem, Nat.reduceLT, Nat.reduceAdd, Nat.reduceEqDiff, Nat.reduceLeDiff, Nat.reduceSub, Nat.reduceMul, Int.reduceEq, eq_self, reduceIte, L9, R9, he, mapL]
    · have he : mapErr l c = 0 := by simp [mapErr, h1, h2]
      have hok := log_ok.1 h1
      simp only [go_sem, Nat.reduceLT, Nat.reduceAdd, Nat.reduceEqDiff, Nat.reduceLeDiff, Nat.reduceSub, Nat.reduceMul, Int.reduceEq, eq_self, reduceIte, Int.ofNat_zero, Int.natCast_one, Int.cast_ofNat_Int, Int.reduceLT, Int.reduceLE, Int.reduceToNat, Nat.reduceLT, Int.toNat_zero, Int.natCast_zero, Int.le_refl, Int.lt_irrefl, Int.reduceAdd, frz, false_or, or_true]
      refine ops_call (.pureE (fraw_meets l c hok h2 (fun e hem => by have := log_t hok e hem; omega)) (by simp [go_sem, Nat.reduceLT, Nat.reduceAdd, Nat.reduceEqDiff, Nat.reduceLeDiff, Nat.reduceSub, Nat.reduceMul, Int.reduceEq, eq_self, reduceIte])) ?_
      simp only [go_sem, Nat.reduceLT, Nat.reduceAdd, Nat.reduceEqDiff, Nat.reduceLeDiff, Nat.reduceSub, Nat.reduceMul, Int.reduceEq, eq_self, reduceIte]
      refine ret_pure hx ?_
      simp [go_sem, Nat.reduceLT, Nat.reduceAdd, Nat.reduceEqDiff, Nat.reduceLeDiff, Nat.reduceSub, Nat.reduceMul, Int.reduceEq, eq_self, reduceIte, L9, R9, he, mapL]
  · have he : mapErr l c = checkLog l := by simp [mapErr, h1]
    simp only [go_sem, Nat.reduceLT, Nat.reduceAdd, Nat.reduceEqDiff, Nat.reduceLeDiff, Nat.reduceSub, Nat.reduceMul, Int.reduceEq, eq_self, reduceIte, h1]
    refine ret_pure hx ?_
    simp [go_sem, Nat.reduceLT, Nat.reduceAdd, Nat.reduceEqDiff, Nat.reduceLeDiff, Nat.reduceSub, Nat.reduceMul, Int.reduceEq, eq_self, reduceIte, L9, R9, he, h1, mapL]
theorem getC_meets (p : KV) (k : ByteArray) : Meets Tryz.prog 42 [.agg (cPair p), .rptr [.str k]] [] (.bool (decide (p.1 = k))) [] := by
  refine Meets.of_walk Tryz.func42 Tryz.ntmps42 low42 res42 (by simp) fun x hx => ?_
  simp only [go_sem, Nat.reduceLT, Nat.reduceAdd, Nat.reduceEqDiff, Nat.reduceLeDiff, Nat.reduceSub, Nat.reduceMul, Int.reduceEq, eq_self, reduceIte, L42, R42, cPair]
  refine ret_pure hx ?_
  simp [go_sem, Nat.reduceLT, Nat.reduceAdd, Nat.reduceEqDiff, Nat.reduceLeDiff, Nat.reduceSub, Nat.reduceMul, Int.reduceEq, eq_self, reduceIte, L42, R42]
instance : Inhabited KV := ⟨(⟨#[]⟩, [])⟩
theorem indexPr_meets (l : List KV) (g : Nat) (caps : List PV) (Hs : List AObj) (p : KV → Bool) (hg : hasBody Tryz.prog g = true) (hl : l.length ≤ 9223372036854775806) (hc : ClosedH Hs caps)
    (hp : ∀ e ∈ l, Meets Tryz.prog g (.agg (cPair e) :: caps) Hs (.bool (p e)) Hs) :
    Meets Tryz.prog 41 [.list (l.map cPair), .clo g caps] Hs (.int .i64 (idxF p l 0)) Hs := by
  refine Meets.of_walk Tryz.func41 Tryz.ntmps41 low41 res41 (by simp) fun x hx => ?_
  simp only [go_sem, Nat.reduceLT, Nat.reduceAdd, Nat.reduceEqDiff, Nat.reduceLeDiff, Nat.reduceSub, Nat.reduceMul, Int.reduceEq, eq_self, reduceIte, L41, R41]
  refine loop_keep [0, 1, 7, 8] (fun n st => ∃ k : Nat, k + n = l.length ∧ idxF p (l.drop k) k = idxF p l 0 ∧
    st = ⟨mkE .top [(0, .list (l.map cPair)), (1, .clo g caps), (7, .int .i64 l.length), (8, .int .i64 k)], Hs⟩) l.length ?_ ?_
  · refine ⟨0, by omega, by simp, ?_⟩
    simp [keep_mk, go_sem, Nat.reduceLT, Nat.reduceAdd, Nat.reduceEqDiff, Nat.reduceLeDiff, Nat.reduceSub, Nat.reduceMul, Int.reduceEq, eq_self, reduceIte]
  · rintro n st ⟨k, hk, hi, rfl⟩
    by_cases hlt : k < l.length
    · have hgt : l[k]? = some (nth l k) := nth_get? _ _ hlt
      have wk := i64_up (k := k) (by omega)
      rw [idxF_drop p l k hlt] at hi
      simp only [go_sem, Nat.reduceLT, Nat.reduceAdd, Nat.reduceEqDiff, Nat.reduceLeDiff, Nat.reduceSub, Nat.reduceMul, Int.reduceEq, eq_self, reduceIte, hlt, hgt, cPair, cId]
      refine ops_callv rfl hg (.whole (hp (nth l k) (by rw [nth_eq _ _ hlt]; exact List.getElem_mem hlt)) rfl ?_ hc.sub hc.back) ?_
      · simp only [go_sem, Nat.reduceLT, Nat.reduceAdd, Nat.reduceEqDiff, Nat.reduceLeDiff, Nat.reduceSub, Nat.reduceMul, Int.reduceEq, eq_self, reduceIte, cPair, cId]
        rw [hc.caps]
      cases hpk : p (nth l k)
      · rw [if_neg (by simp [hpk])] at hi
        simp only [go_sem, Nat.reduceLT, Nat.reduceAdd, Nat.reduceEqDiff, Nat.reduceLeDiff, Nat.reduceSub, Nat.reduceMul, Int.reduceEq, eq_self, reduceIte, wk]
        exact ⟨n - 1, by omega, k + 1, by omega, hi, by simp [keep_mk, go_sem, Nat.reduceLT, Nat.reduceAdd, Nat.reduceEqDiff, Nat.reduceLeDiff, Nat.reduceSub, Nat.reduceMul, Int.reduceEq, eq_self, reduceIte]⟩
      · rw [if_pos hpk] at hi
        simp only [go_sem, Nat.reduceLT, Nat.reduceAdd, Nat.reduceEqDiff, Nat.reduceLeDiff, Nat.reduceSub, Nat.reduceMul, Int.reduceEq, eq_self, reduceIte]
        refine ret_scal hx rfl hc.kept ?_
        simp [go_sem, Nat.reduceLT, Nat.reduceAdd, Nat.reduceEqDiff, Nat.reduceLeDiff, Nat.reduceSub, Nat.reduceMul, Int.reduceEq, eq_self, reduceIte, L41, R41, hi]
    · have : l.drop k = [] := List.drop_eq_nil_of_le (by omega)
      rw [this] at hi
      simp only [go_sem, Nat.reduceLT, Nat.reduceAdd, Nat.reduceEqDiff, Nat.reduceLeDiff, Nat.reduceSub, Nat.reduceMul, Int.reduceEq, eq_self, reduceIte, hlt]
      refine ret_scal hx rfl hc.kept ?_
      simp [go_sem, Nat.reduceLT, Nat.reduceAdd, Nat.reduceEqDiff, Nat.reduceLeDiff, Nat.reduceSub, Nat.reduceMul, Int.reduceEq, eq_self, reduceIte, L41, R41, ← hi, idxF]
theorem idxF_find {α : Type} [Inhabited α] (p : α → Bool) (l : List α) : (idxF p l 0 < 0 ∧ l.find? p = none) ∨ ∃ j, j < l.length ∧ idxF p l 0 = (j : Int) ∧ l.find? p = some (nth l j) := by
  have key : ∀ (l : List α) (k : Nat), (idxF p l k < 0 ∧ l.find? p = none) ∨ ∃ j, j < l.length ∧ idxF p l k = ((k + j : Nat) : Int) ∧ l.find? p = some (nth l j) := by
    intro l
    induction l with
    | nil => intro k; exact .inl ⟨by simp [idxF], rfl⟩
    | cons y l ih =>
      intro k
      cases hy : p y
      · rcases ih (k + 1) with ⟨h1, h2⟩ | ⟨j, h1, h2, h3⟩
        · exact .inl ⟨by rw [idxF, if_neg (by simp [hy])]; exact h1, by rw [List.find?_cons, hy]; exact h2⟩
        · exact .inr ⟨j + 1, by simp; omega, by rw [idxF, if_neg (by simp [hy]), h2]; congr 1; omega, by rw [List.find?_cons, hy]; exact h3⟩
      · exact .inr ⟨0, by simp, by rw [idxF, if_pos hy]; simp, by rw [List.find?_cons, hy]; rfl⟩
  rcases key l 0 with h | ⟨j, h1, h2, h3⟩
  · exact .inl h
  · exact .inr ⟨j, h1, by rw [h2, Nat.zero_add], h3⟩
theorem grp1_len (out : List KV) (o : ByteArray × ByteArray) : (grp1 out o).length ≤ out.length + 1 := by
  unfold grp1
  split
  · split
    · split
      · omega
      · rename_i p hp _ _
        have : out ≠ [] := by intro e; rw [e] at hp; simp at hp
        have := List.length_pos_iff.2 this
        simp
        try omega
    · simp
  · simp
theorem grpL_len (l : List (ByteArray × ByteArray)) : (grpL l).length ≤ l.length := by
  have key : ∀ (l : List (ByteArray × ByteArray)) (out : List KV), (l.foldl grp1 out).length ≤ out.length + l.length := by
    intro l
    induction l with
    | nil => intro out; simp
    | cons o l ih => intro out; have a := ih (grp1 out o); have b := grp1_len out o; simp only [List.foldl_cons, List.length_cons]; omega
  have := key l []
  simpa [grpL] using this
theorem rawL_len (l : List Entry) (c : Int) : (rawL l c).length ≤ l.length := by
  have a := grpL_len ((sortF (standsL l c)).map FOp.kv)
  have b := (sortF_spec (standsL l c)).1.length_eq
  have d := stands_len l c
  rw [List.length_map] at a
  unfold rawL; omega
theorem get_meets (l : List Entry) (c : Int) (k : ByteArray) (hl : l.length ≤ 9223372036854775806) (hk : k.size ≤ 1000000000000000) : Meets Tryz.prog 10 [.list (l.map cE), .int .i64 c, .str k] [] (.tup [.list ((getL l c k).map cStr), .int .i64 (getErr l c k)]) [] := by
  refine Meets.of_walk Tryz.func10 Tryz.ntmps10 low10 res10 (by simp) fun x hx => ?_
  simp only [go_sem, Nat.reduceLT, Nat.reduceAdd, Nat.reduceEqDiff, Nat.reduceLeDiff, Nat.reduceSub, Nat.reduceMul, Int.reduceEq, eq_self, reduceIte, L10, R10]
  refine ops_call (.pureE (map_meets l c hl) (by simp [go_sem, Nat.reduceLT, Nat.reduceAdd, Nat.reduceEqDiff, Nat.reduceLeDiff, Nat.reduceSub, Nat.reduceMul, Int.reduceEq, eq_self, reduceIte])) ?_
  by_cases h1 : mapErr l c = 0
  · simp only [go_sem, Nat.reduceLT, Nat.reduceAdd, Nat.reduceEqDiff, Nat.reduceLeDiff, Nat.reduceSub, Nat.reduceMul, Int.reduceEq, eq_self, reduceIte, h1]
    refine ops_call (.pureE (word_meets k hk) (by simp [go_sem, Nat.reduceLT, Nat.reduceAdd, Nat.reduceEqDiff, Nat.reduceLeDiff, Nat.reduceSub, Nat.reduceMul, Int.reduceEq, eq_self, reduceIte])) ?_
    have hmL : mapL l c = rawL l c := by rw [mapL, if_pos h1]
    cases h2 : wordS k
    · have he : getErr l c k = 1 := by simp [getErr, h1, h2]
      simp only [go_sem, Nat.reduceLT, Nat.reduceAdd, Nat.reduceEqDiff, Nat.reduceLeDiff, Nat.reduceSub, Nat.reduceMul, Int.reduceEq, eq_self, reduceIte, Int.ofNat_zero, Int.natCast_one, Int.cast_ofNat_Int, Int.reduceLT, Int.reduceLE, Int.reduceToNat, Nat.reduceLT, Int.toNat_zero, Int.natCast_zero, Int.le_refl, Int.lt_irrefl, Int.reduceAdd, frz, false_or, or_true]
      refine ret_pure hx ?_
      simp [go_sem, Nat.reduceLT, Nat.reduceAdd, Nat.reduceEqDiff, Nat.reduceLeDiff, Nat.reduceSub, Nat.reduceMul, Int.reduceEq, eq_self, reduceIte, L10, R10, he, getL]
    · have he : getErr l c k = 0 := by simp [getErr, h1, h2]
      have hle := rawL_len l c
      have hix := indexPr_meets (rawL l c) 42 [.rptr [.str k]] [] (fun p => decide (p.1 = k)) (by kernel_rfl) (by omega) (closedCaps (by simp [renLeaf]) (by simp [ren, renT, renCell, renLeaf])) (fun p _ => getC_meets p k)
      simp only [go_sem, Nat.reduceLT, Nat.reduceAdd, Nat.reduceEqDiff, Nat.reduceLeDiff, Nat.reduceSub, Nat.reduceMul, Int.reduceEq, eq_self, reduceIte, Int.ofNat_zero, Int.natCast_one, Int.cast_ofNat_Int, Int.reduceLT, Int.reduceLE, Int.reduceToNat, Nat.reduceLT, Int.toNat_zero, Int.natCast_zero, Int.le_refl, Int.lt_irrefl, Int.reduceAdd, frz, false_or, or_true, hmL]
      refine ops_call (.lookE hix rfl (by simp [go_sem, Nat.reduceLT, Nat.reduceAdd, Nat.reduceEqDiff, Nat.reduceLeDiff, Nat.reduceSub, Nat.reduceMul, Int.reduceEq, eq_self, reduceIte, lookF, lookN])) ?_
      rcases idxF_find (fun p : KV => decide (p.1 = k)) (rawL l c) with ⟨g1, g2⟩ | ⟨j, g1, g2, g3⟩
      · have g1' : (idxF (fun p : KV => decide (p.1 = k)) (rawL l c) 0 < 0) = True := eq_true g1
        simp only [go_sem, Nat.reduceLT, Nat.reduceAdd, Nat.reduceEqDiff, Nat.reduceLeDiff, Nat.reduceSub, Nat.reduceMul, Int.reduceEq, eq_self, reduceIte, Int.ofNat_zero, Int.natCast_one, Int.cast_ofNat_Int, Int.reduceLT, Int.reduceLE, Int.reduceToNat, Nat.reduceLT, Int.toNat_zero, Int.natCast_zero, Int.le_refl, Int.lt_irrefl, Int.reduceAdd, frz, false_or, or_true, g1']
        refine ret_pure hx ?_
        simp [go_sem, Nat.reduceLT, Nat.reduceAdd, Nat.reduceEqDiff, Nat.reduceLeDiff, Nat.reduceSub, Nat.reduceMul, Int.reduceEq, eq_self, reduceIte, L10, R10, he, getL, valsIn, g2]
      · have g4 : ((j : Int) < 0) = False := eq_false (by omega)
        have g5 : (rawL l c)[j]? = some (nth (rawL l c) j) := nth_get? _ _ g1
        simp only [go_sem, Nat.reduceLT, Nat.reduceAdd, Nat.reduceEqDiff, Nat.reduceLeDiff, Nat.reduceSub, Nat.reduceMul, Int.reduceEq, eq_self, reduceIte, Int.ofNat_zero, Int.natCast_one, Int.cast_ofNat_Int, Int.reduceLT, Int.reduceLE, Int.reduceToNat, Nat.reduceLT, Int.toNat_zero, Int.natCast_zero, Int.le_refl, Int.lt_irrefl, Int.reduceAdd, frz, false_or, or_true, g2, g4, g1, g5, cPair, List.getElem?_map, Option.map_some, List.length_map]
        refine ret_pure hx ?_
        simp [go_sem, Nat.reduceLT, Nat.reduceAdd, Nat.reduceEqDiff, Nat.reduceLeDiff, Nat.reduceSub, Nat.reduceMul, Int.reduceEq, eq_self, reduceIte, L10, R10, he, getL, valsIn, g3]
  · have he : getErr l c k = mapErr l c := by simp [getErr, h1]
    simp only [go_sem, Nat.reduceLT, Nat.reduceAdd, Nat.reduceEqDiff, Nat.reduceLeDiff, Nat.reduceSub, Nat.reduceMul, Int.reduceEq, eq_self, reduceIte, h1]
    refine ret_pure hx ?_
    simp [go_sem, Nat.reduceLT, Nat.reduceAdd, Nat.reduceEqDiff, Nat.reduceLeDiff, Nat.reduceSub, Nat.reduceMul, Int.reduceEq, eq_self, reduceIte, L10, R10, he, h1, getL]
end Go.Proofs.YtfdolehffjmdmaaGreatDoor
/- What a text does, told by its pieces: plain laws. -/
namespace Go.Proofs.YtfdolehffjmdmaaGreatDoor
open Go.RowKit
def spL : List UInt8 → List (List UInt8)
  | [] => [[]]
  | c :: l => if c = 32 then [] :: spL l else match spL l with
    | [] => [[c]]
    | p :: ps => (c :: p) :: ps
theorem splitK_sp : ∀ (l : List UInt8), Lib.splitK [32] 0 (l.count 32) l = spL l := by
  intro l
  induction l with
  | nil => rfl
  | cons c l ih =>
    by_cases hc : c = 32
    · subst hc
      rw [List.count_cons_self, spL, if_pos rfl, ← ih]
      have h0 : Lib.index (32 :: l) [32] = 0 := by rw [Lib.index_one]; simp [Lib.indexByte]
      rw [Lib.splitK, h0]
      simp
    · rw [List.count_cons_of_ne (by simpa using hc), spL, if_neg hc, ← ih]
      cases hk : l.count 32 with
      | zero => simp [Lib.splitK]
      | succ k =>
        have hi : Lib.index (c :: l) [32] = if Lib.index l [32] = -1 then -1 else Lib.index l [32] + 1 := by
          rw [Lib.index_one, Lib.index_one]
          conv => lhs; unfold Lib.indexByte
          simp [hc]
        rw [Lib.splitK, Lib.splitK, hi]
        have hge : -1 ≤ Lib.index l [32] := by rw [Lib.index_one]; exact Lib.indexByte_ge _ _
        by_cases hm : Lib.index l [32] = -1
        · simp [hm]
        · obtain ⟨i, hi⟩ : ∃ i : Nat, Lib.index l [32] = i := ⟨(Lib.index l [32]).toNat, by omega⟩
          have h1 : ((i : Int) = -1) = False := eq_false (by omega)
          have h2 : ((i : Int) + 1 = -1) = False := eq_false (by omega)
          have h3 : ((i : Int) + 1).toNat = i + 1 := by omega
          simp [hi, h1, h2, h3]
theorem pieces_data (s : ByteArray) : (piecesS s).map (·.data.toList) = spL s.data.toList := by
  rw [piecesS, Lib.splitB_data, ← splitK_sp]
  have e : Lib.countB s spB = s.data.toList.count 32 := by
    show Lib.count s.data.toList [32] = _
    rw [Lib.count_one]
  rw [e]
  rfl
theorem spL_no {a : List UInt8} (h : (32 : UInt8) ∉ a) : spL a = [a] := by
  induction a with
  | nil => rfl
  | cons c a ih =>
    have hc : c ≠ 32 := fun e => h (by rw [e]; exact List.mem_cons_self)
    rw [spL, if_neg hc, ih (fun q => h (List.mem_cons_of_mem _ q))]
theorem spL_app {a r : List UInt8} (h : (32 : UInt8) ∉ a) : spL (a ++ 32 :: r) = a :: spL r := by
  induction a with
  | nil => simp [spL]
  | cons c a ih =>
    have hc : c ≠ 32 := fun e => h (by rw [e]; exact List.mem_cons_self)
    rw [List.cons_append, spL, if_neg hc, ih (fun q => h (List.mem_cons_of_mem _ q))]
theorem word_no {s : ByteArray} (h : wordS s = true) : (32 : UInt8) ∉ s.data.toList := by
  intro hm
  simp only [wordS, wordL, Bool.and_eq_true, List.all_eq_true] at h
  have := h.1.1 _ hm
  revert this; decide
theorem word_len {s : ByteArray} (h : wordS s = true) : 1 ≤ s.size ∧ s.size ≤ 3 := by
  simp only [wordS, wordL, Bool.and_eq_true, decide_eq_true_eq, sz_list] at h
  exact ⟨h.1.2, h.2⟩
theorem ba_ext {a b : ByteArray} (h : a.data.toList = b.data.toList) : a = b := by
  apply ByteArray.ext
  exact Array.toList_inj.1 h
theorem map_data_inj : ∀ {a b : List ByteArray}, a.map (·.data.toList) = b.map (·.data.toList) → a = b := by
  intro a
  induction a with
  | nil => intro b h; cases b with
    | nil => rfl
    | cons => simp at h
  | cons x a ih => intro b h; cases b with
    | nil => simp at h
    | cons y b =>
      simp only [List.map_cons, List.cons.injEq] at h
      rw [ba_ext h.1, ih h.2]
theorem pieces_of {s : ByteArray} {l : List ByteArray} (h : spL s.data.toList = l.map (·.data.toList)) : piecesS s = l := map_data_inj (by rw [pieces_data, h])
def putSpB : ByteArray := ⟨#[112, 117, 116, 32]⟩
def dropSpB : ByteArray := ⟨#[100, 114, 111, 112, 32]⟩
end Go.Proofs.YtfdolehffjmdmaaGreatDoor
/- What a text does, in the law text's words (OpOf). -/
namespace Go.Proofs.YtfdolehffjmdmaaGreatDoor
set_option linter.unusedSimpArgs false
set_option linter.unusedVariables false
open Go.RowKit
end Go.Proofs.YtfdolehffjmdmaaGreatDoor
/- The law text's own words for maps: SameTexts, SameMap, withText. -/
namespace Go.Proofs.YtfdolehffjmdmaaGreatDoor
set_option linter.unusedSimpArgs false
set_option linter.unusedVariables false
open Go.RowKit
theorem ftexts_meets (a b : List ByteArray) (ha : a.length ≤ 9223372036854775806) : Meets Tryz.prog 19 [.list (a.map cStr), .list (b.map cStr)] [] (.bool (decide (a = b))) [] := by
  refine Meets.of_walk Tryz.func19 Tryz.ntmps19 low19 res19 (by simp) fun x hx => ?_
  by_cases hl : a.length = b.length
  · have hl' : ((a.length : Int) = (b.length : Int)) = True := eq_true (by omega)
    simp only [go_sem, Nat.reduceLT, Nat.reduceAdd, Nat.reduceEqDiff, Nat.reduceLeDiff, Nat.reduceSub, Nat.reduceMul, Int.reduceEq, eq_self, reduceIte, Int.ofNat_zero, Int.natCast_one, Int.cast_ofNat_Int, Int.reduceLT, Int.reduceLE, Int.reduceToNat, Nat.reduceLT, Int.toNat_zero, Int.natCast_zero, Int.le_refl, Int.lt_irrefl, Int.reduceAdd, frz, false_or, or_true, L19, R19, List.length_map, hl']
    refine loop_inv [0, 1, 5] 0 (fun n st => ∃ k : Nat, k + n = a.length ∧ a.take k = b.take k ∧ st = ⟨mkE .top [(0, .list (a.map cStr)), (1, .list (b.map cStr)), (5, .int .i64 k)], []⟩) a.length (by simp [hx]) (by simp) ?_ ?_
    · refine ⟨0, by omega, rfl, ?_⟩
      simp [trim_mk, go_sem, Nat.reduceLT, Nat.reduceAdd, Nat.reduceEqDiff, Nat.reduceLeDiff, Nat.reduceSub, Nat.reduceMul, Int.reduceEq, eq_self, reduceIte, subHeap, renObj, pos, List.range_succ]
    · rintro n st ⟨k, hk, htk, rfl⟩
      by_cases hlt : k < a.length
      · have hlb : k < b.length := by omega
        have hga : a[k]? = some (nth a k) := nth_get? _ _ hlt
        have hgb : b[k]? = some (nth b k) := nth_get? _ _ hlb
        have wk := i64_up (k := k) (by omega)
        by_cases he : nth a k = nth b k
        · simp only [go_sem, Nat.reduceLT, Nat.reduceAdd, Nat.reduceEqDiff, Nat.reduceLeDiff, Nat.reduceSub, Nat.reduceMul, Int.reduceEq, eq_self, reduceIte, Int.ofNat_zero, Int.natCast_one, Int.cast_ofNat_Int, Int.reduceLT, Int.reduceLE, Int.reduceToNat, Nat.reduceLT, Int.toNat_zero, Int.natCast_zero, Int.le_refl, Int.lt_irrefl, Int.reduceAdd, frz, false_or, or_true, hlt, hlb, hga, hgb, cStr, List.getElem?_map, Option.map_some, List.length_map, he, decide_true, wk]
          repeat refine ⟨rfl, ?_⟩
          try simp only [go_sem, Nat.reduceLT, Nat.reduceAdd, Nat.reduceEqDiff, Nat.reduceLeDiff, Nat.reduceSub, Nat.reduceMul, Int.reduceEq, eq_self, reduceIte, Int.ofNat_zero, Int.natCast_one, Int.cast_ofNat_Int, Int.reduceLT, Int.reduceLE, Int.reduceToNat, Nat.reduceLT, Int.toNat_zero, Int.natCast_zero, Int.le_refl, Int.lt_irrefl, Int.reduceAdd, frz, false_or, or_true, wk]
          refine ⟨by simp, n - 1, by omega, k + 1, by omega, ?_, ?_⟩
          · rw [List.take_add_one, List.take_add_one, htk, hga, hgb, he]
          · simp [trim_mk, go_sem, Nat.reduceLT, Nat.reduceAdd, Nat.reduceEqDiff, Nat.reduceLeDiff, Nat.reduceSub, Nat.reduceMul, Int.reduceEq, eq_self, reduceIte, subHeap, renObj, pos, List.range_succ]
        · simp only [go_sem, Nat.reduceLT, Nat.reduceAdd, Nat.reduceEqDiff, Nat.reduceLeDiff, Nat.reduceSub, Nat.reduceMul, Int.reduceEq, eq_self, reduceIte, Int.ofNat_zero, Int.natCast_one, Int.cast_ofNat_Int, Int.reduceLT, Int.reduceLE, Int.reduceToNat, Nat.reduceLT, Int.toNat_zero, Int.natCast_zero, Int.le_refl, Int.lt_irrefl, Int.reduceAdd, frz, false_or, or_true, hlt, hlb, hga, hgb, cStr, List.getElem?_map, Option.map_some, List.length_map, he, decide_false]
          repeat refine ⟨rfl, ?_⟩
          try simp only [go_sem, Nat.reduceLT, Nat.reduceAdd, Nat.reduceEqDiff, Nat.reduceLeDiff, Nat.reduceSub, Nat.reduceMul, Int.reduceEq, eq_self, reduceIte, Int.ofNat_zero, Int.natCast_one, Int.cast_ofNat_Int, Int.reduceLT, Int.reduceLE, Int.reduceToNat, Nat.reduceLT, Int.toNat_zero, Int.natCast_zero, Int.le_refl, Int.lt_irrefl, Int.reduceAdd, frz, false_or, or_true]
          refine ret_pure hx ?_
          have : ¬ a = b := fun e => he (by rw [e])
          simp [go_sem, Nat.reduceLT, Nat.reduceAdd, Nat.reduceEqDiff, Nat.reduceLeDiff, Nat.reduceSub, Nat.reduceMul, Int.reduceEq, eq_self, reduceIte, L19, R19, this]
      · have : a = b := by
          rw [List.take_of_length_le (by omega), List.take_of_length_le (by omega)] at htk
          exact htk
        simp only [go_sem, Nat.reduceLT, Nat.reduceAdd, Nat.reduceEqDiff, Nat.reduceLeDiff, Nat.reduceSub, Nat.reduceMul, Int.reduceEq, eq_self, reduceIte, Int.ofNat_zero, Int.natCast_one, Int.cast_ofNat_Int, Int.reduceLT, Int.reduceLE, Int.reduceToNat, Nat.reduceLT, Int.toNat_zero, Int.natCast_zero, Int.le_refl, Int.lt_irrefl, Int.reduceAdd, frz, false_or, or_true, hlt, List.length_map]
        refine ret_pure hx ?_
        simp [go_sem, Nat.reduceLT, Nat.reduceAdd, Nat.reduceEqDiff, Nat.reduceLeDiff, Nat.reduceSub, Nat.reduceMul, Int.reduceEq, eq_self, reduceIte, L19, R19, this]
  · have hl' : ((a.length : Int) = (b.length : Int)) = False := eq_false (by omega)
    have : ¬ a = b := fun e => hl (by rw [e])
    simp only [go_sem, Nat.reduceLT, Nat.reduceAdd, Nat.reduceEqDiff, Nat.reduceLeDiff, Nat.reduceSub, Nat.reduceMul, Int.reduceEq, eq_self, reduceIte, Int.ofNat_zero, Int.natCast_one, Int.cast_ofNat_Int, Int.reduceLT, Int.reduceLE, Int.reduceToNat, Nat.reduceLT, Int.toNat_zero, Int.natCast_zero, Int.le_refl, Int.lt_irrefl, Int.reduceAdd, frz, false_or, or_true, L19, R19, List.length_map, hl']
    refine ret_pure hx ?_
    simp [go_sem, Nat.reduceLT, Nat.reduceAdd, Nat.reduceEqDiff, Nat.reduceLeDiff, Nat.reduceSub, Nat.reduceMul, Int.reduceEq, eq_self, reduceIte, L19, R19, this]
def wtStep (s : ByteArray) (r : List ByteArray × Bool) (y : ByteArray) : List ByteArray × Bool :=
  ((if r.2 = false ∧ leB s y = true then r.1 ++ [s] else r.1) ++ (if y = s then [] else [y]), r.2 || leB s y)
def wtF (s : ByteArray) (l : List ByteArray) : List ByteArray × Bool := l.foldl (wtStep s) ([], false)
def withT (l : List ByteArray) (s : ByteArray) : List ByteArray := if (wtF s l).2 = true then (wtF s l).1 else (wtF s l).1 ++ [s]
end Go.Proofs.YtfdolehffjmdmaaGreatDoor
/- Ids that are told, rising: a contract. -/
namespace Go.Proofs.YtfdolehffjmdmaaGreatDoor
set_option linter.unusedSimpArgs false
set_option linter.unusedVariables false
open Go.RowKit
def idRow (r n : Nat) : List Id := (List.range n).map fun m => ⟨r, ((m + 1 : Nat) : Int)⟩
def idsUp (r n : Nat) : List Id := (List.range r).flatMap (fun q => idRow q 20) ++ idRow r n
def allIds : List Id := idsUp 2 0
def tellB (l : List Entry) (M : List Bool) (x : Id) : Bool := decide (0 ≤ findE l x) && nth M (findE l x).toNat
def risingI (l : List Entry) (M : List Bool) : List Id := allIds.filter (tellB l M)
end Go.Proofs.YtfdolehffjmdmaaGreatDoor
/- Heads in the law text's words: a contract. -/
namespace Go.Proofs.YtfdolehffjmdmaaGreatDoor
set_option linter.unusedSimpArgs false
set_option linter.unusedVariables false
open Go.RowKit
def cutM (M P : List Bool) : List Bool := List.zipWith (fun a p => a && !p) M P
def meetsL (l : List Entry) (c : Int) : List Bool := l.map fun e => meetB e.c c
def headM (l : List Entry) (c : Int) : Nat → List Bool
  | 0 => meetsL l c
  | k + 1 => if meetB (nth l k).c c then cutM (headM l c k) (marksOf l k) else headM l c k
theorem marksOf_length (l : List Entry) (a : Nat) : (marksOf l a).length = l.length := marks_length l a (a + 1)
theorem headM_length (l : List Entry) (c : Int) : ∀ k, (headM l c k).length = l.length
  | 0 => by simp [headM, meetsL]
  | k + 1 => by
    simp only [headM]
    split
    · simp [cutM, headM_length l c k, marksOf_length]
    · exact headM_length l c k
def headsR (l : List Entry) (c : Int) : List Id := risingI l (headM l c l.length)
end Go.Proofs.YtfdolehffjmdmaaGreatDoor
/- The law text's own words for maps: ValuesOf, MapOf. -/
namespace Go.Proofs.YtfdolehffjmdmaaGreatDoor
set_option linter.unusedSimpArgs false
set_option linter.unusedVariables false
open Go.RowKit
def condR (l : List Entry) (c : Int) (key : ByteArray) (i : Nat) : Bool := decide ((opOf (nth l i).t).1 = 1) && (decide ((opOf (nth l i).t).2.1 = key) && meetB (nth l i).c c)
def blkR (l : List Entry) (c : Int) (key : ByteArray) (i n : Nat) : Bool := decide (¬ (opOf (nth l n).t).1 = 0) && (decide ((opOf (nth l n).t).2.1 = key) && (meetB (nth l n).c c && nth (marksOf l n) i))
def standR (l : List Entry) (c : Int) (key : ByteArray) (i k : Nat) : Bool := (List.range k).all fun n => !blkR l c key i n
def valStep (l : List Entry) (c : Int) (key : ByteArray) (out : List ByteArray) (i : Nat) : List ByteArray := if (condR l c key i && standR l c key i l.length) = true then withT out (opOf (nth l i).t).2.2 else out
def valsTo (l : List Entry) (c : Int) (key : ByteArray) (k : Nat) : List ByteArray := (List.range k).foldl (valStep l c key) []
def valsR (l : List Entry) (c : Int) (key : ByteArray) : List ByteArray := valsTo l c key l.length
theorem valsTo_succ (l : List Entry) (c : Int) (key : ByteArray) (k : Nat) : valsTo l c key (k + 1) = valStep l c key (valsTo l c key k) k := by
  rw [valsTo, List.range_succ, List.foldl_append]; rfl
end Go.Proofs.YtfdolehffjmdmaaGreatDoor
/- Texts put in order: plain laws. -/
namespace Go.Proofs.YtfdolehffjmdmaaGreatDoor
open Go.RowKit
theorem less_cb : ∀ a b : List UInt8, Go.Op.bytesLess a b = decide (Lib.compareBytes a b < 0)
  | [], [] => rfl
  | [], _ :: _ => rfl
  | _ :: _, [] => rfl
  | x :: a, y :: b => by
    rw [Go.Op.bytesLess, Lib.compareBytes]
    by_cases h1 : x < y
    · rw [if_pos h1]; simp [h1]
    · rw [if_neg h1]
      by_cases h2 : y < x
      · have : ¬ x = y := by intro e; rw [e] at h1 h2; exact h1 h2
        rw [if_pos h2]; simp [h1, this]
      · have : x = y := by
          rw [UInt8.lt_iff_toNat_lt] at h1 h2
          exact UInt8.toNat.inj (by omega)
        rw [if_neg h2, less_cb a b]
        simp [h1, this]
theorem leB_cmp (a b : ByteArray) : leB a b = decide (cmpB a b ≤ 0) := by
  have ha : a.toList = a.data.toList := ByteArray.toList_eq a
  have hb : b.toList = b.data.toList := ByteArray.toList_eq b
  rw [leB, ha, hb, less_cb]
  unfold cmpB
  by_cases h : Lib.compareBytes a.data.toList b.data.toList < 0
  · simp [h]; omega
  · by_cases h2 : Lib.compareBytes a.data.toList b.data.toList = 0
    · have := cb_zero h2
      simp [this, cb_refl]
    · have : ¬ a.data.toList = b.data.toList := fun e => h2 (by rw [e]; exact cb_refl _)
      have h3 : ¬ Lib.compareBytes a.data.toList b.data.toList ≤ 0 := by omega
      have h4 : ¬ a.data = b.data := fun e => this (by rw [e])
      simp [h, h4, h3]
def Up (l : List ByteArray) : Prop := l.Pairwise fun a b => cmpB a b < 0
def insT (s : ByteArray) : List ByteArray → List ByteArray
  | [] => [s]
  | y :: l => if cmpB s y < 0 then s :: y :: l else if y = s then s :: l else y :: insT s l
theorem wt_true (s : ByteArray) : ∀ (l r : List ByteArray), l.foldl (wtStep s) (r, true) = (r ++ l.filter (fun y => !decide (y = s)), true)
  | [], r => by simp
  | y :: l, r => by
    rw [List.foldl_cons]
    by_cases h : y = s
    · have : wtStep s (r, true) y = (r, true) := by simp [wtStep, h]
      rw [this, wt_true s l r]; simp [h]
    · have : wtStep s (r, true) y = (r ++ [y], true) := by simp [wtStep, h]
      rw [this, wt_true s l _]; simp [h]
theorem wt_false (s : ByteArray) : ∀ (l r : List ByteArray), Up l → (if (l.foldl (wtStep s) (r, false)).2 = true then (l.foldl (wtStep s) (r, false)).1 else (l.foldl (wtStep s) (r, false)).1 ++ [s]) = r ++ insT s l
  | [], r, _ => by simp [insT]
  | y :: l, r, hu => by
    obtain ⟨h1, h2⟩ := List.pairwise_cons.1 hu
    rw [List.foldl_cons, insT]
    by_cases hle : leB s y = true
    · have hc : cmpB s y ≤ 0 := by rw [leB_cmp] at hle; exact of_decide_eq_true hle
      have hf : l.filter (fun y => !decide (y = s)) = l := List.filter_eq_self.2 fun z hz => by
        have hyz := h1 z hz
        have : z ≠ s := by
          rintro rfl
          have := cmpB_swap z y
          omega
        simp [this]
      by_cases hy : y = s
      · have h0 : ¬ cmpB s y < 0 := by rw [hy, cmpB_refl]; omega
        have : wtStep s (r, false) y = (r ++ [s], true) := by
          rw [wtStep]; simp [hle, hy]
          rw [← hy]; rw [hy] at hle ⊢; simp [hle]
        rw [this, wt_true, hf, if_neg h0, if_pos hy]
        simp
      · have h0 : cmpB s y < 0 := by
          rcases Int.lt_or_eq_of_le hc with h | h
          · exact h
          · exact (hy (cmpB_zero h).symm).elim
        have : wtStep s (r, false) y = (r ++ [s] ++ [y], true) := by rw [wtStep]; simp [hle, hy]
        rw [this, wt_true, hf, if_pos h0]
        simp
    · have hle' : leB s y = false := by simpa using hle
      have hc : ¬ cmpB s y ≤ 0 := by rw [leB_cmp] at hle'; exact of_decide_eq_false hle'
      have hy : ¬ y = s := by rintro rfl; rw [cmpB_refl] at hc; omega
      have : wtStep s (r, false) y = (r ++ [y], false) := by rw [wtStep]; simp [hle', hy]
      rw [this, wt_false s l _ h2, if_neg (by omega), if_neg hy]
      simp
theorem withT_ins {l : List ByteArray} (s : ByteArray) (h : Up l) : withT l s = insT s l := by
  have := wt_false s l [] h
  rw [withT, wtF, this]; simp
theorem ins_mem (s : ByteArray) : ∀ {l : List ByteArray} {z : ByteArray}, z ∈ insT s l ↔ z = s ∨ z ∈ l
  | [], z => by simp [insT]
  | y :: l, z => by
    rw [insT]
    split
    · simp
    · split
      · rename_i h; subst h; simp
      · rw [List.mem_cons, ins_mem s, List.mem_cons]
        constructor
        · rintro (h | h | h)
          · exact .inr (.inl h)
          · exact .inl h
          · exact .inr (.inr h)
        · rintro (h | h | h)
          · exact .inr (.inl h)
          · exact .inl h
          · exact .inr (.inr h)
theorem ins_up (s : ByteArray) : ∀ {l : List ByteArray}, Up l → Up (insT s l)
  | [], _ => by simp [Up, insT]
  | y :: l, hu => by
    obtain ⟨h1, h2⟩ := List.pairwise_cons.1 hu
    rw [insT]
    split
    · rename_i h
      refine List.pairwise_cons.2 ⟨fun z hz => ?_, hu⟩
      rcases List.mem_cons.1 hz with rfl | hz
      · exact h
      · exact cmpB_trans h (h1 z hz)
    · split
      · rename_i h; subst h; exact hu
      · rename_i h0 hy
        refine List.pairwise_cons.2 ⟨fun z hz => ?_, ins_up s h2⟩
        rcases (ins_mem s).1 hz with rfl | hz
        · have a := cmpB_swap y z
          by_cases e : cmpB y z = 0
          · exact (hy (cmpB_zero e)).elim
          · omega
        · exact h1 z hz
theorem insT_len (s : ByteArray) : ∀ l : List ByteArray, (insT s l).length ≤ l.length + 1
  | [] => by simp [insT]
  | y :: l => by
    rw [insT]
    split
    · simp
    · split
      · simp
      · have := insT_len s l
        simp; omega
theorem strict_eq {α : Type} {r : α → α → Prop} (hi : ∀ x, ¬ r x x) (ht : ∀ x y z, r x y → r y z → r x z) : ∀ {a b : List α}, a.Pairwise r → b.Pairwise r → (∀ x, x ∈ a ↔ x ∈ b) → a = b
  | [], [], _, _, _ => rfl
  | [], y :: b, _, _, h => by have := (h y).2 (by simp); simp at this
  | x :: a, [], _, _, h => by have := (h x).1 (by simp); simp at this
  | x :: a, y :: b, h1, h2, h => by
    obtain ⟨a1, a2⟩ := List.pairwise_cons.1 h1
    obtain ⟨b1, b2⟩ := List.pairwise_cons.1 h2
    have e : x = y := by
      rcases List.mem_cons.1 ((h x).1 (by simp)) with e | hx
      · exact e
      · rcases List.mem_cons.1 ((h y).2 (by simp)) with e | hy
        · exact e.symm
        · exact (hi _ (ht _ _ _ (b1 x hx) (a1 y hy))).elim
    subst e
    rw [strict_eq hi ht a2 b2 fun z => ?_]
    constructor
    · intro hz
      rcases List.mem_cons.1 ((h z).1 (List.mem_cons_of_mem _ hz)) with rfl | hz'
      · exact (hi _ (a1 _ hz)).elim
      · exact hz'
    · intro hz
      rcases List.mem_cons.1 ((h z).2 (List.mem_cons_of_mem _ hz)) with rfl | hz'
      · exact (hi _ (b1 _ hz)).elim
      · exact hz'
theorem up_eq {a b : List ByteArray} (h1 : Up a) (h2 : Up b) (h : ∀ x, x ∈ a ↔ x ∈ b) : a = b :=
  strict_eq (r := fun a b => cmpB a b < 0) (fun x => by rw [cmpB_refl]; omega) (fun x y z => cmpB_trans) h1 h2 h
structure GoodM (m : List KV) : Prop where
  keys : m.Pairwise fun p q => cmpB p.1 q.1 < 0
  vals : ∀ p ∈ m, Up p.2 ∧ p.2 ≠ []
def inM (m : List KV) (k v : ByteArray) : Prop := ∃ p ∈ m, p.1 = k ∧ v ∈ p.2
theorem GoodM.one {m : List KV} (h : GoodM m) {p q : KV} (hp : p ∈ m) (hq : q ∈ m) (e : p.1 = q.1) : p = q := by
  obtain ⟨i, hi, rfl⟩ := List.getElem_of_mem hp
  obtain ⟨j, hj, rfl⟩ := List.getElem_of_mem hq
  have hk := List.pairwise_iff_getElem.1 h.keys
  rcases Nat.lt_trichotomy i j with hij | rfl | hij
  · have := hk i j hi hj hij; rw [e, cmpB_refl] at this; omega
  · rfl
  · have := hk j i hj hi hij; rw [e, cmpB_refl] at this; omega
theorem good_eq {a b : List KV} (ha : GoodM a) (hb : GoodM b) (h : ∀ k v, inM a k v ↔ inM b k v) : a = b := by
  have half : ∀ {a b : List KV}, GoodM a → GoodM b → (∀ k v, inM a k v ↔ inM b k v) → ∀ p ∈ a, p ∈ b := by
    intro a b ha hb h p hp
    obtain ⟨hu, hne⟩ := ha.vals p hp
    obtain ⟨v, hv⟩ := List.exists_mem_of_ne_nil _ hne
    obtain ⟨q, hq, hk, -⟩ := (h p.1 v).1 ⟨p, hp, rfl, hv⟩
    have : p.2 = q.2 := up_eq hu (hb.vals q hq).1 fun x => by
      constructor
      · intro hx
        obtain ⟨q', hq', hk', hx'⟩ := (h p.1 x).1 ⟨p, hp, rfl, hx⟩
        rw [hb.one hq hq' (by rw [hk, hk'])]; exact hx'
      · intro hx
        obtain ⟨p', hp', hk', hx'⟩ := (h p.1 x).2 ⟨q, hq, hk, hx⟩
        rw [ha.one hp hp' hk'.symm]; exact hx'
    rw [show p = q from Prod.ext hk.symm this]; exact hq
  refine strict_eq (r := fun p q : KV => cmpB p.1 q.1 < 0) (fun x => by rw [cmpB_refl]; omega) (fun x y z => cmpB_trans) ha.keys hb.keys fun p => ⟨half ha hb h p, half hb ha (fun k v => (h k v).symm) p⟩
end Go.Proofs.YtfdolehffjmdmaaGreatDoor
/- The law text's map (MapOf). -/
namespace Go.Proofs.YtfdolehffjmdmaaGreatDoor
set_option linter.unusedSimpArgs false
set_option linter.unusedVariables false
open Go.RowKit
theorem valsTo_up (l : List Entry) (c : Int) (key : ByteArray) : ∀ k, Up (valsTo l c key k) ∧ (valsTo l c key k).length ≤ k
  | 0 => ⟨by simp [valsTo, Up], by simp [valsTo]⟩
  | k + 1 => by
    obtain ⟨h1, h2⟩ := valsTo_up l c key k
    rw [valsTo_succ, valStep]
    split
    · rw [withT_ins _ h1]
      exact ⟨ins_up _ h1, by have := insT_len (opOf (nth l k).t).2.2 (valsTo l c key k); omega⟩
    · exact ⟨h1, by omega⟩
theorem valsTo_mem {l : List Entry} {c : Int} {key v : ByteArray} : ∀ {k : Nat}, v ∈ valsTo l c key k ↔ ∃ i, i < k ∧ condR l c key i = true ∧ standR l c key i l.length = true ∧ v = (opOf (nth l i).t).2.2
  | 0 => by simp [valsTo]
  | k + 1 => by
    rw [valsTo_succ, valStep]
    split
    · rename_i hc
      rw [Bool.and_eq_true] at hc
      rw [withT_ins _ (valsTo_up l c key k).1, ins_mem, valsTo_mem]
      constructor
      · rintro (h | ⟨i, h1, h2⟩)
        · exact ⟨k, by omega, hc.1, hc.2, h⟩
        · exact ⟨i, by omega, h2⟩
      · rintro ⟨i, h1, h2, h3, h4⟩
        by_cases e : i = k
        · subst e; exact .inl h4
        · exact .inr ⟨i, by omega, h2, h3, h4⟩
    · rename_i hc
      rw [valsTo_mem]
      constructor
      · rintro ⟨i, h1, h2⟩; exact ⟨i, by omega, h2⟩
      · rintro ⟨i, h1, h2, h3, h4⟩
        by_cases e : i = k
        · subst e; exact (hc (by rw [h2, h3]; rfl)).elim
        · exact ⟨i, by omega, h2, h3, h4⟩
def keyStep (ks : List ByteArray) (e : Entry) : List ByteArray := if (opOf e.t).1 = 1 then withT ks (opOf e.t).2.1 else ks
def keysTo (l : List Entry) : List ByteArray := l.foldl keyStep []
theorem keysTo_app (l : List Entry) (e : Entry) : keysTo (l ++ [e]) = keyStep (keysTo l) e := by rw [keysTo, List.foldl_append]; rfl
theorem keysTo_take {l : List Entry} {k : Nat} (h : k < l.length) : keysTo (l.take (k + 1)) = keyStep (keysTo (l.take k)) (nth l k) := by
  rw [List.take_add_one, nth_get? _ _ h, Option.toList_some, keysTo_app]
theorem keysTo_up {l : List Entry} : ∀ k, k ≤ l.length → Up (keysTo (l.take k)) ∧ (keysTo (l.take k)).length ≤ k
  | 0, _ => ⟨by simp [keysTo, Up], by simp [keysTo]⟩
  | k + 1, h => by
    obtain ⟨h1, h2⟩ := keysTo_up (l := l) k (by omega)
    rw [keysTo_take (by omega), keyStep]
    split
    · rw [withT_ins _ h1]
      exact ⟨ins_up _ h1, by have := insT_len (opOf (nth l k).t).2.1 (keysTo (l.take k)); omega⟩
    · exact ⟨h1, by omega⟩
theorem keysTo_mem {l : List Entry} {v : ByteArray} : ∀ {k : Nat}, k ≤ l.length → (v ∈ keysTo (l.take k) ↔ ∃ i, i < k ∧ (opOf (nth l i).t).1 = 1 ∧ v = (opOf (nth l i).t).2.1)
  | 0, _ => by simp [keysTo]
  | k + 1, h => by
    rw [keysTo_take (by omega), keyStep]
    split
    · rename_i hc
      rw [withT_ins _ (keysTo_up k (by omega)).1, ins_mem, keysTo_mem (by omega)]
      constructor
      · rintro (h | ⟨i, h1, h2⟩)
        · exact ⟨k, by omega, hc, h⟩
        · exact ⟨i, by omega, h2⟩
      · rintro ⟨i, h1, h2, h3⟩
        by_cases e : i = k
        · subst e; exact .inl h3
        · exact .inr ⟨i, by omega, h2, h3⟩
    · rename_i hc
      rw [keysTo_mem (by omega)]
      constructor
      · rintro ⟨i, h1, h2⟩; exact ⟨i, by omega, h2⟩
      · rintro ⟨i, h1, h2, h3⟩
        by_cases e : i = k
        · subst e; exact (hc h2).elim
        · exact ⟨i, by omega, h2, h3⟩
def mapOne (l : List Entry) (c : Int) (key : ByteArray) : Option KV := if valsR l c key = [] then none else some (key, valsR l c key)
def mapR (l : List Entry) (c : Int) : List KV := (keysTo l).filterMap (mapOne l c)
end Go.Proofs.YtfdolehffjmdmaaGreatDoor
/- Plain laws of pasts and heads: what the marks tell. No program in sight. -/
namespace Go.Proofs.YtfdolehffjmdmaaGreatDoor
theorem pastOf_trans {l : List Entry} (h : LogOk l) {j : Nat} (hj : j < l.length) : ∀ (a : Nat), a < l.length → (nth l j).id ∈ pastOf l a → ∀ y ∈ pastOf l j, y ∈ pastOf l a := by
  intro a
  induction a using Nat.strongRecOn with
  | _ a ih =>
    intro ha hm y hy
    obtain ⟨x, hx, he⟩ := (mem_pastOf h ha).1 hm
    obtain ⟨f1, f2⟩ := h.link_lt ha hx
    refine (mem_pastOf h ha).2 ⟨x, hx, .inr ?_⟩
    rcases he with rfl | he
    · rw [h.find hj, Int.toNat_natCast]; exact hy
    · exact ih _ (by omega) (by omega) he y hy
theorem nth_set {M : List Bool} {i k : Nat} (hk : k < M.length) : nth (M.set i true) k = (nth M k || decide (i = k)) := by
  rw [nth_eq _ _ (by simpa using hk), nth_eq _ _ hk, List.getElem_set]
  by_cases e : i = k
  · simp [e]
  · simp [e]
theorem nth_markL {l : List Entry} : ∀ (ls : List Id) (M : List Bool) (k : Nat), k < M.length → nth (markL l ls M) k = (nth M k || ls.any fun x => decide ((findE l x).toNat = k))
  | [], M, k, _ => by simp [markL]
  | x :: ls, M, k, h => by
    show nth (markL l ls (M.set (findE l x).toNat true)) k = _
    rw [nth_markL ls _ k (by simpa using h), nth_set h]
    simp [Bool.or_assoc]
theorem markL_link {l : List Entry} (h : LogOk l) {i k : Nat} (hi : i < l.length) (hk : k < l.length) {M : List Bool} (hM : M.length = l.length) :
    nth (markL l (nth l i).ls M) k = true ↔ nth M k = true ∨ (nth l k).id ∈ (nth l i).ls := by
  rw [nth_markL _ _ _ (by omega), Bool.or_eq_true, List.any_eq_true]
  constructor
  · rintro (h1 | ⟨x, hx, hd⟩)
    · exact .inl h1
    · obtain ⟨f1, f2⟩ := h.link_lt hi hx
      obtain ⟨m, g1, g2, g3⟩ := findE_spec f1
      have : m = k := by simpa [g1] using hd
      subst this
      exact .inr (by rw [g3]; exact hx)
  · rintro (h1 | hx)
    · exact .inl h1
    · exact .inr ⟨_, hx, by simp [h.find hk]⟩
theorem nth_repl {n k : Nat} (h : k < n) : nth (List.replicate n false) k = false := by
  rw [nth_eq _ _ (by simpa using h)]; simp
theorem marks_inv {l : List Entry} (h : LogOk l) {a : Nat} (ha : a < l.length) : ∀ s, s ≤ a →
    (∀ k, k < l.length → nth (marks l a (s + 1)) k = true → (nth l k).id ∈ pastOf l a) ∧
    (∀ k, k < l.length → (nth l k).id ∈ pastOf l a → nth (marks l a (s + 1)) k = true ∨ ∃ j, j < a - s ∧ nth (marks l a (s + 1)) j = true ∧ (nth l k).id ∈ pastOf l j)
  | 0, _ => by
    have e : marks l a 1 = markL l (nth l a).ls (List.replicate l.length false) := by simp [marks, markS]
    rw [Nat.zero_add, e]
    have hlk : ∀ k, k < l.length → (nth (markL l (nth l a).ls (List.replicate l.length false)) k = true ↔ (nth l k).id ∈ (nth l a).ls) := fun k hk => by
      rw [markL_link h ha hk (by simp), nth_repl hk]; simp
    refine ⟨fun k hk hm => (mem_pastOf h ha).2 ⟨_, (hlk k hk).1 hm, .inl rfl⟩, fun k hk hp => ?_⟩
    obtain ⟨x, hx, he⟩ := (mem_pastOf h ha).1 hp
    rcases he with rfl | he
    · exact .inl ((hlk k hk).2 hx)
    · obtain ⟨f1, f2⟩ := h.link_lt ha hx
      obtain ⟨m, g1, g2, g3⟩ := findE_spec f1
      rw [g1, Int.toNat_natCast] at he
      exact .inr ⟨m, by omega, (hlk m g2).2 (by rw [g3]; exact hx), he⟩
  | s + 1, hs => by
    obtain ⟨iA, iB⟩ := marks_inv h ha s (by omega)
    have hi : a - (s + 1) < l.length := by omega
    have e : marks l a (s + 1 + 1) = markS l a (a - (s + 1)) (marks l a (s + 1)) := rfl
    rw [e]
    generalize hM : marks l a (s + 1) = M at *
    have hMl : M.length = l.length := by rw [← hM]; exact marks_length l a _
    generalize hid : a - (s + 1) = i at *
    have hne : ¬ i = a := by omega
    unfold markS
    by_cases hm : nth M i = true
    · rw [if_pos (.inr hm)]
      have hlk : ∀ k, k < l.length → (nth (markL l (nth l i).ls M) k = true ↔ nth M k = true ∨ (nth l k).id ∈ (nth l i).ls) := fun k hk => markL_link h hi hk hMl
      refine ⟨fun k hk hkm => ?_, fun k hk hp => ?_⟩
      · rcases (hlk k hk).1 hkm with h1 | h1
        · exact iA k hk h1
        · exact pastOf_trans h hi a ha (iA i hi hm) _ ((mem_pastOf h hi).2 ⟨_, h1, .inl rfl⟩)
      · rcases iB k hk hp with h1 | ⟨j, hj, h2, h3⟩
        · exact .inl ((hlk k hk).2 (.inl h1))
        · by_cases hji : j = i
          · subst hji
            obtain ⟨x, hx, he⟩ := (mem_pastOf h hi).1 h3
            rcases he with rfl | he
            · exact .inl ((hlk k hk).2 (.inr hx))
            · obtain ⟨f1, f2⟩ := h.link_lt hi hx
              obtain ⟨m, g1, g2, g3⟩ := findE_spec f1
              rw [g1, Int.toNat_natCast] at he
              exact .inr ⟨m, by omega, (hlk m g2).2 (.inr (by rw [g3]; exact hx)), he⟩
          · exact .inr ⟨j, by omega, (hlk j (by omega)).2 (.inl h2), h3⟩
    · rw [if_neg (by simp [hne, hm])]
      refine ⟨iA, fun k hk hp => ?_⟩
      rcases iB k hk hp with h1 | ⟨j, hj, h2, h3⟩
      · exact .inl h1
      · have : j ≠ i := fun e => hm (e ▸ h2)
        exact .inr ⟨j, by omega, h2, h3⟩
theorem marksOf_iff {l : List Entry} (h : LogOk l) {a k : Nat} (ha : a < l.length) (hk : k < l.length) : nth (marksOf l a) k = true ↔ (nth l k).id ∈ pastOf l a := by
  obtain ⟨h1, h2⟩ := marks_inv h ha a (Nat.le_refl _)
  refine ⟨h1 k hk, fun hp => ?_⟩
  rcases h2 k hk hp with h3 | ⟨j, hj, -⟩
  · exact h3
  · omega
theorem allIds_asc : Asc allIds := by
  unfold Asc
  have : (allIds.Pairwise fun a b => lessB a b = true) := by decide +kernel
  exact this
theorem mem_allIds {x : Id} : x ∈ allIds ↔ okId x = true := by
  obtain ⟨r, n⟩ := x
  simp only [okId, Bool.and_eq_true, wthn_iff]
  constructor
  · intro h
    have key : ∀ y ∈ allIds, (0 ≤ y.r ∧ y.r ≤ 1) ∧ 1 ≤ y.n ∧ y.n ≤ 20 := by decide +kernel
    exact key _ h
  · rintro ⟨⟨h1, h2⟩, h3, h4⟩
    have key : ∀ (a : Fin 2) (b : Fin 20), (⟨(a.val : Int), (b.val : Int) + 1⟩ : Id) ∈ allIds := by decide +kernel
    have := key ⟨r.toNat, by omega⟩ ⟨(n - 1).toNat, by omega⟩
    simp only [Int.toNat_of_nonneg h1, Int.toNat_of_nonneg (show 0 ≤ n - 1 by omega), Int.sub_add_cancel] at this
    exact this
theorem risingI_asc (l : List Entry) (M : List Bool) : Asc (risingI l M) := allIds_asc.filter _
theorem mem_risingI {l : List Entry} (h : LogOk l) {M : List Bool} {x : Id} : x ∈ risingI l M ↔ ∃ k, k < l.length ∧ (nth l k).id = x ∧ nth M k = true := by
  unfold risingI
  rw [List.mem_filter, mem_allIds, tellB, Bool.and_eq_true, decide_eq_true_eq]
  constructor
  · rintro ⟨h1, h2, h3⟩
    obtain ⟨k, g1, g2, g3⟩ := findE_spec h2
    rw [g1, Int.toNat_natCast] at h3
    exact ⟨k, g2, g3, h3⟩
  · rintro ⟨k, hk, rfl, h3⟩
    rw [h.find hk, Int.toNat_natCast]
    exact ⟨h.id_ok hk, by omega, h3⟩
theorem nth_cut {M P : List Bool} {k : Nat} (h1 : k < M.length) (h2 : k < P.length) : nth (cutM M P) k = (nth M k && !nth P k) := by
  rw [nth_eq _ _ (by simp [cutM]; omega), nth_eq _ _ h1, nth_eq _ _ h2]; simp [cutM]
theorem headM_iff {l : List Entry} (h : LogOk l) {c : Int} {k : Nat} (hk : k < l.length) : ∀ n, n ≤ l.length → (nth (headM l c n) k = true ↔ meetB (nth l k).c c = true ∧ ∀ i, i < n → meetB (nth l i).c c = true → (nth l k).id ∉ pastOf l i)
  | 0, _ => by
    have : nth (headM l c 0) k = meetB (nth l k).c c := by
      simp only [headM, meetsL]
      rw [nth_eq _ _ (by simpa using hk)]; simp [nth_eq _ _ hk]
    rw [this]
    exact ⟨fun e => ⟨e, fun i hi => by omega⟩, fun e => e.1⟩
  | n + 1, hn => by
    have ih := headM_iff h (c := c) hk n (by omega)
    simp only [headM]
    split
    · rename_i hm
      rw [nth_cut (by rw [headM_length]; exact hk) (by rw [marksOf_length]; exact hk), Bool.and_eq_true, ih, Bool.not_eq_true', ← Bool.not_eq_true, marksOf_iff h (by omega) hk]
      constructor
      · rintro ⟨⟨h1, h2⟩, h3⟩
        refine ⟨h1, fun i hi hmi => ?_⟩
        by_cases e : i = n
        · subst e; exact h3
        · exact h2 i (by omega) hmi
      · rintro ⟨h1, h2⟩
        exact ⟨⟨h1, fun i hi => h2 i (by omega)⟩, h2 n (by omega) hm⟩
    · rename_i hm
      rw [ih]
      constructor
      · rintro ⟨h1, h2⟩
        refine ⟨h1, fun i hi hmi => ?_⟩
        by_cases e : i = n
        · subst e; exact (hm hmi).elim
        · exact h2 i (by omega) hmi
      · rintro ⟨h1, h2⟩
        exact ⟨h1, fun i hi => h2 i (by omega)⟩
theorem ids_nodup {l : List Entry} (h : LogOk l) : (l.map (·.id)).Nodup := by
  rw [List.Nodup, List.pairwise_map, List.pairwise_iff_getElem]
  intro i j hi hj hij e
  rw [← nth_eq l i hi, ← nth_eq l j hj] at e
  have := h.inj hi hj e
  omega
theorem headsC_nodup {l : List Entry} (h : LogOk l) (c : Int) : (headsC l c).Nodup := by
  refine List.Nodup.sublist (List.Sublist.map _ ?_) (ids_nodup h)
  exact List.filter_sublist.trans List.filter_sublist
theorem mem_withC {l : List Entry} {c : Int} {e : Entry} : e ∈ withC l c ↔ ∃ k, k < l.length ∧ nth l k = e ∧ meetB e.c c = true := by
  unfold withC
  rw [List.mem_filter]
  constructor
  · rintro ⟨h1, h2⟩
    obtain ⟨k, hk, rfl⟩ := List.getElem_of_mem h1
    exact ⟨k, hk, nth_eq _ _ hk, h2⟩
  · rintro ⟨k, hk, rfl, h2⟩
    exact ⟨by rw [nth_eq _ _ hk]; exact List.getElem_mem hk, h2⟩
theorem mem_headsC {l : List Entry} (h : LogOk l) {c : Int} {x : Id} : x ∈ headsC l c ↔ ∃ k, k < l.length ∧ (nth l k).id = x ∧ meetB (nth l k).c c = true ∧ ∀ i, i < l.length → meetB (nth l i).c c = true → x ∉ pastOf l i := by
  unfold headsC
  rw [List.mem_map]
  constructor
  · rintro ⟨e, he, rfl⟩
    obtain ⟨h1, h2⟩ := List.mem_filter.1 he
    obtain ⟨k, hk, rfl, hm⟩ := mem_withC.1 h1
    refine ⟨k, hk, rfl, hm, fun i hi hmi hp => ?_⟩
    simp only [Bool.not_eq_true', underB, List.any_eq_false] at h2
    have := h2 (nth l i) (mem_withC.2 ⟨i, hi, rfl, hmi⟩)
    rw [pastAt_eq, h.find hi, Int.toNat_natCast] at this
    exact this (hasI_iff.2 hp)
  · rintro ⟨k, hk, rfl, hm, hp⟩
    refine ⟨nth l k, List.mem_filter.2 ⟨mem_withC.2 ⟨k, hk, rfl, hm⟩, ?_⟩, rfl⟩
    simp only [Bool.not_eq_true', underB, List.any_eq_false]
    intro f hf
    obtain ⟨i, hi, rfl, hmi⟩ := mem_withC.1 hf
    rw [pastAt_eq, h.find hi, Int.toNat_natCast]
    exact fun hh => hp i hi hmi (hasI_iff.1 hh)
theorem heads_eq {l : List Entry} (h : LogOk l) (c : Int) : headsR l c = sortI (headsC l c) := by
  refine asc_ext (risingI_asc _ _) (sortI_asc (headsC_nodup h c)) fun x => ?_
  rw [headsR, mem_risingI h, sortI_mem, mem_headsC h]
  constructor
  · rintro ⟨k, hk, rfl, hm⟩
    obtain ⟨h1, h2⟩ := (headM_iff h hk l.length (Nat.le_refl _)).1 hm
    exact ⟨k, hk, rfl, h1, h2⟩
  · rintro ⟨k, hk, rfl, hm, hp⟩
    exact ⟨k, hk, rfl, (headM_iff h hk l.length (Nat.le_refl _)).2 ⟨hm, hp⟩⟩
end Go.Proofs.YtfdolehffjmdmaaGreatDoor
/- The map of a log is the law text's map: plain law. -/
namespace Go.Proofs.YtfdolehffjmdmaaGreatDoor
open Go.RowKit
theorem grp_step {m : List KV} {k v : ByteArray} (h : GoodM m) (hle : ∀ p ∈ m, ∀ y ∈ p.2, cmpP (p.1, y) (k, v) ≤ 0) :
    GoodM (grp1 m (k, v)) ∧ ∀ k' v', inM (grp1 m (k, v)) k' v' ↔ inM m k' v' ∨ (k' = k ∧ v' = v) := by
  cases hl : m.getLast? with
  | none =>
    have hm : m = [] := List.getLast?_eq_none_iff.1 hl
    subst hm
    have e : grp1 [] (k, v) = [(k, [v])] := rfl
    rw [e]
    refine ⟨⟨by simp, fun p hp => ?_⟩, fun k' v' => ?_⟩
    · obtain rfl : p = (k, [v]) := by simpa using hp
      exact ⟨by simp [Up], by simp⟩
    · simp only [inM, List.mem_singleton, List.not_mem_nil, false_and, exists_false, false_or]
      constructor
      · rintro ⟨p, rfl, h1, h2⟩
        exact ⟨h1.symm, by simpa using h2⟩
      · rintro ⟨h1, h2⟩
        exact ⟨_, rfl, h1.symm, by simpa using h2⟩
  | some p =>
    obtain ⟨o, rfl⟩ := List.getLast?_eq_some_iff.1 hl
    obtain ⟨key, vs⟩ := p
    obtain ⟨k1, k2, k3⟩ := List.pairwise_append.1 h.keys
    have hp : (key, vs) ∈ o ++ [(key, vs)] := by simp
    obtain ⟨u1, u2⟩ := h.vals _ hp
    simp only at u1 u2
    by_cases hk : key = k
    · subst hk
      have hvle : ∀ y ∈ vs, cmpB y v ≤ 0 := fun y hy => by
        have := hle _ hp y hy
        rw [cmpP, if_pos (cmpB_refl _)] at this
        exact this
      cases hv : vs.any fun x => decide (v = x)
      · rw [grp1_app hv]
        have hlt : ∀ y ∈ vs, cmpB y v < 0 := fun y hy => by
          have h1 := hvle y hy
          have h2 := List.any_eq_false.1 hv y hy
          have h3 : ¬ cmpB y v = 0 := fun e => h2 (by rw [cmpB_zero e]; simp)
          omega
        refine ⟨⟨?_, fun p hp' => ?_⟩, fun k' v' => ?_⟩
        · refine List.pairwise_append.2 ⟨k1, by simp, fun a ha b hb => ?_⟩
          obtain rfl : b = (key, vs ++ [v]) := by simpa using hb
          exact k3 a ha (key, vs) (by simp)
        · rcases List.mem_append.1 hp' with h1 | h1
          · exact h.vals p (List.mem_append_left _ h1)
          · obtain rfl : p = (key, vs ++ [v]) := by simpa using h1
            refine ⟨List.pairwise_append.2 ⟨u1, by simp, fun a ha b hb => ?_⟩, by simp⟩
            obtain rfl : b = v := by simpa using hb
            exact hlt a ha
        · constructor
          · rintro ⟨p, hp', e1, e2⟩
            rcases List.mem_append.1 hp' with h1 | h1
            · exact .inl ⟨p, List.mem_append_left _ h1, e1, e2⟩
            · obtain rfl : p = (key, vs ++ [v]) := by simpa using h1
              rcases List.mem_append.1 e2 with e2 | e2
              · exact .inl ⟨_, hp, e1, e2⟩
              · exact .inr ⟨e1.symm, by simpa using e2⟩
          · rintro (⟨p, hp', e1, e2⟩ | ⟨rfl, rfl⟩)
            · rcases List.mem_append.1 hp' with h1 | h1
              · exact ⟨p, List.mem_append_left _ h1, e1, e2⟩
              · obtain rfl : p = (key, vs) := by simpa using h1
                exact ⟨(key, vs ++ [v]), by simp, e1, List.mem_append_left _ e2⟩
            · exact ⟨(k', vs ++ [v']), by simp, rfl, by simp⟩
      · rw [grp1_in hv]
        refine ⟨h, fun k' v' => ?_⟩
        constructor
        · exact .inl
        · rintro (h1 | ⟨rfl, rfl⟩)
          · exact h1
          · obtain ⟨y, hy, e⟩ := List.any_eq_true.1 hv
            have e : v' = y := by simpa using e
            exact ⟨_, hp, rfl, by rw [e]; exact hy⟩
    · rw [grp1_new hk]
      have hlast : cmpB key k < 0 := by
        obtain ⟨y, hy⟩ := List.exists_mem_of_ne_nil _ u2
        have := hle _ hp y hy
        have h0 : ¬ cmpB key k = 0 := fun e => hk (cmpB_zero e)
        rw [cmpP, if_neg h0] at this
        simp only at this
        omega
      refine ⟨⟨?_, fun p hp' => ?_⟩, fun k' v' => ?_⟩
      · refine List.pairwise_append.2 ⟨h.keys, by simp, fun a ha b hb => ?_⟩
        obtain rfl : b = (k, [v]) := by simpa using hb
        rcases List.mem_append.1 ha with h1 | h1
        · exact cmpB_trans (k3 a h1 (key, vs) (by simp)) hlast
        · obtain rfl : a = (key, vs) := by simpa using h1
          exact hlast
      · rcases List.mem_append.1 hp' with h1 | h1
        · exact h.vals p h1
        · obtain rfl : p = (k, [v]) := by simpa using h1
          exact ⟨by simp [Up], by simp⟩
      · constructor
        · rintro ⟨p, hp', e1, e2⟩
          rcases List.mem_append.1 hp' with h1 | h1
          · exact .inl ⟨p, h1, e1, e2⟩
          · obtain rfl : p = (k, [v]) := by simpa using h1
            exact .inr ⟨e1.symm, by simpa using e2⟩
        · rintro (⟨p, hp', e1, e2⟩ | ⟨rfl, rfl⟩)
          · exact ⟨p, List.mem_append_left _ hp', e1, e2⟩
          · exact ⟨(k', [v']), by simp, rfl, by simp⟩
theorem grp_good : ∀ (n : Nat) (L : List (ByteArray × ByteArray)), L.length = n → (L.Pairwise fun x y => ¬ cmpP y x < 0) → GoodM (grpL L) ∧ ∀ k v, inM (grpL L) k v ↔ (k, v) ∈ L
  | 0, L, hn, _ => by
    obtain rfl : L = [] := List.length_eq_zero_iff.1 hn
    exact ⟨⟨by simp [grpL], fun p hp => by simp [grpL] at hp⟩, fun k v => by simp [grpL, inM]⟩
  | n + 1, L, hn, hL => by
    have hne : L ≠ [] := by intro e; rw [e] at hn; simp at hn
    obtain ⟨L0, x, rfl⟩ : ∃ L0 x, L = L0 ++ [x] := ⟨L.dropLast, L.getLast hne, (List.dropLast_concat_getLast hne).symm⟩
    obtain ⟨p1, -, p3⟩ := List.pairwise_append.1 hL
    obtain ⟨g1, g2⟩ := grp_good n L0 (by simpa using hn) p1
    obtain ⟨k, v⟩ := x
    have e : grpL (L0 ++ [(k, v)]) = grp1 (grpL L0) (k, v) := by rw [grpL, List.foldl_append]; rfl
    have hst := grp_step (k := k) (v := v) g1 (fun p hp y hy => by
      have hm : (p.1, y) ∈ L0 := (g2 p.1 y).1 ⟨p, hp, rfl, hy⟩
      have := p3 _ hm (k, v) (by simp)
      have h2 := cmpP_swap (p.1, y) (k, v)
      omega)
    rw [e]
    refine ⟨hst.1, fun k' v' => ?_⟩
    rw [hst.2, g2, List.mem_append, List.mem_singleton, Prod.mk.injEq]
theorem raw_good (l : List Entry) (c : Int) : GoodM (rawL l c) ∧ ∀ k v, inM (rawL l c) k v ↔ ∃ o ∈ standsL l c, o.k = k ∧ o.v = v := by
  obtain ⟨h1, h2⟩ := sortF_spec (standsL l c)
  obtain ⟨g1, g2⟩ := grp_good _ ((sortF (standsL l c)).map FOp.kv) rfl (List.pairwise_map.2 h2)
  refine ⟨g1, fun k v => ?_⟩
  rw [rawL, g2, List.mem_map]
  constructor
  · rintro ⟨o, ho, e⟩
    simp only [FOp.kv, Prod.mk.injEq] at e
    exact ⟨o, h1.mem_iff.1 ho, e⟩
  · rintro ⟨o, ho, e⟩
    exact ⟨o, h1.mem_iff.2 ho, by simp only [FOp.kv, Prod.mk.injEq]; exact e⟩
theorem mapR_good (l : List Entry) (c : Int) : GoodM (mapR l c) ∧ ∀ k v, inM (mapR l c) k v ↔ ∃ i, i < l.length ∧ condR l c k i = true ∧ standR l c k i l.length = true ∧ v = (opOf (nth l i).t).2.2 := by
  have hup := (keysTo_up l.length (Nat.le_refl _)).1
  rw [List.take_length] at hup
  refine ⟨⟨?_, fun p hp => ?_⟩, fun k v => ?_⟩
  · refine List.pairwise_filterMap.2 (hup.imp fun {a b} hab x hx y hy => ?_)
    unfold mapOne at hx hy
    split at hx
    · cases hx
    · split at hy
      · cases hy
      · cases hx; cases hy; exact hab
  · obtain ⟨k, -, hk⟩ := List.mem_filterMap.1 hp
    unfold mapOne at hk
    split at hk
    · cases hk
    · rename_i hne
      cases hk
      exact ⟨(valsTo_up l c k l.length).1, hne⟩
  · constructor
    · rintro ⟨p, hp, rfl, hv⟩
      obtain ⟨k, -, hk⟩ := List.mem_filterMap.1 hp
      unfold mapOne at hk
      split at hk
      · cases hk
      · cases hk
        exact valsTo_mem.1 hv
    · rintro ⟨i, h1, h2, h3, h4⟩
      have hv : v ∈ valsR l c k := valsTo_mem.2 ⟨i, h1, h2, h3, h4⟩
      have hne : valsR l c k ≠ [] := List.ne_nil_of_mem hv
      have hcr := h2
      simp only [condR, Bool.and_eq_true, decide_eq_true_eq] at hcr
      have hk : k ∈ keysTo l := by
        have := (keysTo_mem (l := l) (v := k) (Nat.le_refl _)).2 ⟨i, h1, hcr.1, hcr.2.1.symm⟩
        rwa [List.take_length] at this
      exact ⟨(k, valsR l c k), List.mem_filterMap.2 ⟨k, hk, by rw [mapOne, if_neg hne]⟩, rfl, hv⟩
theorem memN {l : List Entry} {e : Entry} : e ∈ l ↔ ∃ k, k < l.length ∧ nth l k = e := by
  constructor
  · intro h
    obtain ⟨k, hk, rfl⟩ := List.getElem_of_mem h
    exact ⟨k, hk, nth_eq _ _ hk⟩
  · rintro ⟨k, hk, rfl⟩
    rw [nth_eq _ _ hk]; exact List.getElem_mem hk
theorem ops_iff {l : List Entry} {c : Int} {o : FOp} : o ∈ opsL l c ↔ ∃ i, i < l.length ∧ meetB (nth l i).c c = true ∧ (opOf (nth l i).t).1 ≠ 0 ∧ o = ⟨(nth l i).id, (opOf (nth l i).t).2.1, (opOf (nth l i).t).2.2, decide ((opOf (nth l i).t).1 = 1)⟩ := by
  constructor
  · intro h
    obtain ⟨e, he, hi, hm, hs⟩ := opsL_mem h
    obtain ⟨i, hi', rfl⟩ := memN.1 he
    unfold opE at hs
    split at hs
    · cases hs
    · rename_i hne; cases hs; exact ⟨i, hi', hm, hne, rfl⟩
  · rintro ⟨i, hi, hm, hne, rfl⟩
    refine List.mem_filterMap.2 ⟨nth l i, List.mem_filter.2 ⟨memN.2 ⟨i, hi, rfl⟩, hm⟩, ?_⟩
    rw [opE, if_neg hne]
theorem past_mark {l : List Entry} (h : LogOk l) {i n : Nat} (hi : i < l.length) (hn : n < l.length) : hasI (pastAt (pasts l) l (nth l n).id) (nth l i).id = nth (marksOf l n) i := by
  rw [pastAt_eq, h.find hn, Int.toNat_natCast, Bool.eq_iff_iff, hasI_iff, marksOf_iff h hn hi]
theorem raw_map {l : List Entry} {c : Int} (h : LogOk l) : mapR l c = rawL l c := by
  obtain ⟨a1, a2⟩ := mapR_good l c
  obtain ⟨b1, b2⟩ := raw_good l c
  refine good_eq a1 b1 fun k v => ?_
  rw [a2, b2]
  constructor
  · rintro ⟨i, hi, hc, hs, rfl⟩
    simp only [condR, Bool.and_eq_true, decide_eq_true_eq] at hc
    obtain ⟨c1, c2, c3⟩ := hc
    refine ⟨⟨(nth l i).id, (opOf (nth l i).t).2.1, (opOf (nth l i).t).2.2, decide ((opOf (nth l i).t).1 = 1)⟩, List.mem_filter.2 ⟨ops_iff.2 ⟨i, hi, c3, by omega, rfl⟩, ?_⟩, c2, rfl⟩
    rw [standB]
    simp only [c1, decide_true, Bool.true_and, Bool.not_eq_true', List.any_eq_false, Bool.and_eq_true, decide_eq_true_eq, not_and, Bool.not_eq_true]
    intro y hy hyk
    obtain ⟨n, hn, m1, m2, rfl⟩ := ops_iff.1 hy
    rw [past_mark h hi hn]
    have := List.all_eq_true.1 hs n (List.mem_range.2 hn)
    simp only at hyk
    have hb : blkR l c k i n = false := by simpa using this
    cases hm : nth (marksOf l n) i
    · rfl
    · simp [blkR, m1, m2, hm, hyk, c2] at hb
  · rintro ⟨o, ho, rfl, rfl⟩
    obtain ⟨ho, hsb⟩ := List.mem_filter.1 ho
    obtain ⟨i, hi, m1, m2, rfl⟩ := ops_iff.1 ho
    rw [standB] at hsb
    simp only [Bool.and_eq_true, decide_eq_true_eq, Bool.not_eq_true', List.any_eq_false, not_and, Bool.not_eq_true] at hsb
    obtain ⟨s1, s2⟩ := hsb
    refine ⟨i, hi, by simp [condR, s1, m1], ?_, rfl⟩
    refine List.all_eq_true.2 fun n hn => ?_
    have hn := List.mem_range.1 hn
    cases hb : blkR l c (opOf (nth l i).t).2.1 i n
    · rfl
    · exfalso
      simp only [blkR, Bool.and_eq_true, decide_eq_true_eq] at hb
      obtain ⟨d1, d2, d3, d4⟩ := hb
      have := s2 _ (ops_iff.2 ⟨n, hn, d3, d1, rfl⟩) d2
      simp only at this
      rw [past_mark h hi hn, d4] at this
      cases this
end Go.Proofs.YtfdolehffjmdmaaGreatDoor
/- slices.Delete of one element of k cells: in memory, and as a contract. -/
namespace Go.Proofs.YtfdolehffjmdmaaGreatDoor
open Go.RowKit Go.Lib Go.Sort
open Go.Shelf
def DelF (k n i : Nat) (cs F : Array Value) : Prop := F.size = cs.size ∧ ∀ t, t < (n - 1) * k → F[t]! = if t < i * k then cs[t]! else cs[t + k]!
def DelOut (k n i : Nat) (w : World) (blk : Nat) (cs : Array Value) (w' : World) : Prop := ∃ (q : Nat) (F : Array Value), DelF k n i cs F ∧ w' = putRow id (Sort.ahead w q) blk 0 F
theorem delF_of {k n i : Nat} {cs : Array Value} (hz : n * k ≤ cs.size) (hi : i < n) (news zs : List Value) (hn : news.length = (n - (i + 1)) * k) (hnew : ∀ t, t < news.length → news[t]! = cs[(i + 1) * k + t]!) :
    DelF k n i cs (setMany (setMany cs (i * k) news) ((n - 1) * k) zs) := by
  refine ⟨by simp, fun t ht => ?_⟩
  obtain ⟨m, rfl⟩ : ∃ m, n = i + 1 + m := ⟨n - (i + 1), by omega⟩
  have e1 : i + 1 + m - (i + 1) = m := by omega
  have e2 : i + 1 + m - 1 = i + m := by omega
  rw [e1] at hn
  rw [e2] at ht ⊢
  have e3 : (i + 1 + m) * k = i * k + k + m * k := by rw [Nat.add_mul, Nat.add_mul, Nat.one_mul]
  have e4 : (i + m) * k = i * k + m * k := Nat.add_mul _ _ _
  have e5 : (i + 1) * k = i * k + k := by rw [Nat.add_mul, Nat.one_mul]
  rw [e3] at hz
  rw [e4] at ht ⊢
  rw [e5] at hnew
  rw [get_setMany _ _ _ t (by simp; omega), if_neg (by omega), get_setMany _ _ _ t (by omega)]
  by_cases h : t < i * k
  · rw [if_neg (by omega), if_pos h]
  · rw [if_pos (by omega), if_neg h, hnew _ (by omega), show i * k + k + (t - i * k) = t + k by omega]
theorem three_args {vs : Array Value} (h : vs.toList.length = 3) : ∃ a b c, vs = #[a, b, c] ∧ vs.toList[0]? = some a ∧ vs.toList[1]? = some b ∧ vs.toList[2]? = some c := by
  obtain ⟨l⟩ := vs
  match l, h with
  | [a, b, c], _ => exact ⟨a, b, c, rfl, rfl, rfl, rfl⟩
theorem del_rep {S : Nat → Nat → Prop} {w : World} {rows : List (List PV)} {cur cur' F : Array Value} {sz n i : Nat} (hn : rows.length = n) (hi : i < n) (hz : ∀ row ∈ rows, row.length = sz) (hcs : n * sz ≤ cur.size) (hF : DelF sz n i cur F)
    (hc' : ∀ t y, t < F.size → cur'[t]? = some y → y = F[t]!)
    (hrow : ∀ (k : Nat) row (j : Nat) p, rows[k]? = some row → row[j]? = some p → ∃ y, cur[k * sz + j]? = some y ∧ y.oneCell' = true ∧ RepP S w p y) :
    ∀ (k : Nat) row (j : Nat) p u, (rows.eraseIdx i)[k]? = some row → row[j]? = some p → cur'[k * sz + j]? = some u → u.oneCell' = true ∧ RepP S w p u := by
  intro k row j p u a b c
  have hk : k < n - 1 := by
    have := (List.getElem?_eq_some_iff.1 a).1
    rw [List.length_eraseIdx, if_pos (by omega)] at this; omega
  have hj : j < sz := by rw [← hz row (List.mem_of_mem_eraseIdx (List.mem_of_getElem? a))]; exact (List.getElem?_eq_some_iff.1 b).1
  have hle : (k + 1) * sz ≤ (n - 1) * sz := Nat.mul_le_mul_right _ (by omega)
  have hle2 : (n - 1) * sz ≤ n * sz := Nat.mul_le_mul_right _ (by omega)
  rw [Nat.add_mul, Nat.one_mul] at hle
  have hu := hc' _ _ (by rw [hF.1]; omega) c
  rw [hF.2 _ (by omega)] at hu
  rw [List.getElem?_eraseIdx] at a
  by_cases hki : k < i
  · rw [if_pos hki] at a
    have : (k + 1) * sz ≤ i * sz := Nat.mul_le_mul_right _ (by omega)
    rw [Nat.add_mul, Nat.one_mul] at this
    rw [if_pos (by omega)] at hu
    obtain ⟨y, y1, y2, y3⟩ := hrow k row j p a b
    obtain ⟨y4, y5⟩ := Array.getElem?_eq_some_iff.1 y1
    rw [getElem!_pos cur _ y4, y5] at hu
    subst hu
    exact ⟨y2, y3⟩
  · rw [if_neg hki] at a
    have : i * sz ≤ k * sz := Nat.mul_le_mul_right _ (by omega)
    rw [if_neg (by omega)] at hu
    obtain ⟨y, y1, y2, y3⟩ := hrow (k + 1) row j p a b
    rw [show (k + 1) * sz + j = k * sz + j + sz by rw [Nat.add_mul, Nat.one_mul]; omega] at y1
    obtain ⟨y4, y5⟩ := Array.getElem?_eq_some_iff.1 y1
    rw [getElem!_pos cur _ y4, y5] at hu
    subst hu
    exact ⟨y2, y3⟩
theorem holds_cur {w : World} {g T : Nat} {cur : Array Value} (hc : w.heap[g]? = some (.cells cur T (0, 0))) : Holds id w g 0 cur := by
  intro t ht
  refine ⟨?_, ?_⟩
  · simp [World.cell?, hc, getElem!_pos cur t ht, ht]
  · simp [World.frozen?, hc]
set_option maxHeartbeats 4000000 in
set_option maxRecDepth 1000000 in
theorem delE_calls (blk off cap n i j : Nat) (cs : Array Value) (w : World) (h0 : off = 0) (hj : j = i + 1) (hH : Holds id w blk off cs) (hz : cs.size = cap * 5) (h1 : ∀ t, t < n * 5 → (cs[t]!).oneCell' = true) (hn : n ≤ cap) (hm : cap ≤ 9223372036854775807) (hi : i < n) :
    Calls Tryz.prog 147 #[.slice (some ⟨blk, off, none⟩) n cap, .int .i64 i, .int .i64 j] w fun e w' => e = .returned (.slice (some ⟨blk, off, none⟩) (n - 1) cap) ∧ DelOut 5 n i w blk cs w' := by
  have mixed : Tryz.prog.follows Departure.mixedOrders = true := rfl
  have hcz : n * 5 ≤ cs.size := by rw [hz]; exact Nat.mul_le_mul_right _ hn
  obtain ⟨news, hnews⟩ : ∃ news : List Value, news = (List.range ((n - j) * 5)).map fun t => cs[j * 5 + t]! := ⟨_, rfl⟩
  have hlen : news.length = (n - j) * 5 := by rw [hnews]; simp
  have hget : ∀ t u, news[t]? = some u → t < (n - j) * 5 ∧ u = cs[j * 5 + t]! := by
    intro t u hu
    have ht : t < news.length := (List.getElem?_eq_some_iff.1 hu).1
    rw [hlen] at ht
    rw [hnews, List.getElem?_map, List.getElem?_range ht] at hu
    exact ⟨ht, (Option.some.inj hu).symm⟩
  obtain ⟨A, hA, hsrc⟩ : ∃ A : Addr, (if cap = j then some (⟨blk, off, none⟩ : Addr) else some ⟨blk, off + j * 5, none⟩) = some A ∧ Hid (∀ t u, news[t]? = some u → w.drew.cell? (A.add t) = some u) := by
    by_cases h : cap = j
    · refine ⟨⟨blk, off, none⟩, by simp [h], fun t u hu => ?_⟩
      have := (hget t u hu).1
      have e : n - j = 0 := by omega
      rw [e] at this; omega
    · refine ⟨⟨blk, off + j * 5, none⟩, by simp [h], fun t u hu => ?_⟩
      obtain ⟨ht, rfl⟩ := hget t u hu
      rw [Addr.add_lit, Nat.add_assoc]
      exact (hH _ (by omega)).1
  have s1 : Hid (news.length = (n - j) * 5) := hlen
  have s2 : Hid (∀ u ∈ news, u.oneCell' = true) := by
    intro u hu
    obtain ⟨t, ht, rfl⟩ := List.getElem_of_mem hu
    obtain ⟨h2, h3⟩ := hget t _ (List.getElem?_eq_getElem ht)
    rw [h3]
    exact h1 _ (by omega)
  have s3 : Hid (∀ t, t < news.length → (w.drew.cell? ⟨blk, off + i * 5 + t, none⟩).isSome = true ∧ w.drew.frozen? ⟨blk, off + i * 5 + t, none⟩ = false) := by
    intro t ht
    rw [hlen] at ht
    rw [Nat.add_assoc]
    exact ⟨by show (w.cell? _).isSome = true; rw [(hH (i * 5 + t) (by omega)).1]; rfl, (hH (i * 5 + t) (by omega)).2⟩
  obtain ⟨W1, hW1⟩ : ∃ W1, W1 = w.drew.setCells blk (off + i * 5) news := ⟨_, rfl⟩
  have hput : W1 = putRow id (Sort.ahead w 1) blk off (setMany cs (i * 5) news) := by
    rw [hW1, ← setCells_putRow _ _ _ _ _ _ (by omega), putRow_self id (Sort.ahead w 1) blk off cs (holds_ahead id w 1 blk off cs hH)]
    rfl
  have hH1 : Holds id W1 blk off (setMany cs (i * 5) news) := by rw [hput]; exact holds_putRow id _ blk off cs _ (holds_ahead id w 1 blk off cs hH) (by simp)
  obtain ⟨zs, hzl, hcl⟩ : ∃ zs : List Value, zs.length = (n - (i + (n - j))) * 5 ∧ ∀ ty, (Builtin.clear_ #[22] ty #[.slice (some ⟨blk, off + (i + (n - j)) * 5, none⟩) (n - (i + (n - j))) (cap - (i + (n - j)))]).run Tryz.prog W1 = .ok (.tuple #[]) (W1.setCells blk (off + (i + (n - j)) * 5) zs) := by
    obtain ⟨zs, e1, e2⟩ := run_clear_cells (P := Tryz.prog) W1 22 46 0 (.agg #[.int .i64 0, .int .i64 0, .int .i64 0, .string ⟨#[]⟩, .slice none 0 0]) rfl (fun _ => by kernel_rfl) (by intro v hv; simp [Value.cells] at hv; first | (rcases hv with rfl | rfl | rfl <;> rfl) | (rcases hv with rfl | rfl | rfl | rfl | rfl <;> rfl)) blk (off + (i + (n - j)) * 5) (n - (i + (n - j))) (cap - (i + (n - j))) (by omega)
      (fun s hs => by
        have hs' : s < (n - (i + (n - j))) * 5 := hs
        have := (hH1 ((i + (n - j)) * 5 + s) (by rw [size_setMany]; omega)).1
        rw [← Nat.add_assoc] at this
        rw [this]; rfl) (fun s hs => by
        have hs' : s < (n - (i + (n - j))) * 5 := hs
        have := (hH1 ((i + (n - j)) * 5 + s) (by rw [size_setMany]; omega)).2
        rwa [← Nat.add_assoc] at this)
    exact ⟨zs, e1, fun ty => e2⟩
  have fin : Aside (DelOut 5 n i w blk cs (W1.setCells blk (off + (i + (n - j)) * 5) zs)) := by
    subst h0 hj
    refine ⟨1, _, delF_of hcz hi news zs hlen (fun t ht => ?_), ?_⟩
    · rw [getElem!_pos news t ht]
      exact (hget t _ (List.getElem?_eq_getElem ht)).2
    · rw [hput, setCells_putRow _ _ _ _ _ _ (by rw [size_setMany, hzl]; omega), show i + (n - (i + 1)) = n - 1 by omega]
  have hW : Hid (W1 = w.drew.setCells blk (off + i * 5) news) := hW1
  have hic : i ≤ cap := by omega
  have hjc : j ≤ cap := by omega
  obtain ⟨i0, hi0, hz0, hz1, hz2⟩ := info_parts (P := Tryz.prog) (e := 46) (z := .agg #[.int .i64 0, .int .i64 0, .int .i64 0, .string ⟨#[]⟩, .slice none 0 0]) (size := 5) (bytes := 64) (by kernel_rfl)
  clear hput hW1 hH1 hH hget hnews hlen h1 hz hcz h0
  have hij : ¬ i = j := by omega
  have hijle : i ≤ j := by omega
  have hjn : j ≤ n := by omega
  have hA' : Hid (j = i + 1) := hj
  clear hj
  go_enter Tryz.func147, Tryz.ntmps147
  go_wp2_with fail
  go_region_law_o (refine step_append_room rfl (.tmp 22) (.tmp 25) 22 rfl 46 i0 5 rfl hi0 hz1 blk off i cap (by simp [Act.eval, Act.put]) A (n - j) (cap - j) news (by simp [Act.eval, Act.put]) s1.out hsrc.out s2.out (by omega) s3.out ?_; rw [← hW.out])
  go_wp2
  go_ret
  have hj := hA'.out
  exact ⟨by rw [show n - 1 = i + (n - j) by omega]; rfl, fin.out⟩
theorem delE_meets (rows : List (List PV)) (v T i : Nat) (hi : i < rows.length) :
    Meets Tryz.prog 147 [.arr 0 v, .int .i64 i, .int .i64 ((i + 1 : Nat) : Int)] [.arr v true false T 5 rows] (.arr 0 (v + 1)) [.arr (v + 1) true false T 5 (rows.eraseIdx i)] := by
  intro x vs hx h0 hp
  obtain ⟨a, b, c, rfl, p1, p2, p3⟩ := three_args hp.1
  have ha := hp.2 0 _ _ rfl p1
  obtain rfl := (hp.2 1 _ _ rfl p2).int_inv
  obtain rfl := (hp.2 2 _ _ rfl p3).int_inv
  obtain ⟨e1, e2, e3⟩ := h0.row (id := 0) rfl ha
  rcases e3 with ⟨rfl, hnil⟩ | ⟨g, cap, cur, rfl, hc, hcap, hm, hz, hrow⟩
  · subst hnil; simp at hi
  · have hH := holds_cur hc
    have hcs : rows.length * 5 ≤ cur.size := by rw [hz]; exact Nat.mul_le_mul_right _ hcap
    have key := delE_calls g 0 cap rows.length i (i + 1) cur x.w0 rfl rfl hH hz (fun t ht => by
      have hk : t / 5 < rows.length := Nat.div_lt_of_lt_mul (by omega)
      have hj : t % 5 < (rows[t / 5]'hk).length := by rw [e2 _ (List.getElem_mem hk)]; exact Nat.mod_lt _ (by omega)
      obtain ⟨y, y1, y2, -⟩ := hrow (t / 5) _ (t % 5) _ (List.getElem?_eq_getElem hk) (List.getElem?_eq_getElem hj)
      rw [show t / 5 * 5 + t % 5 = t by omega] at y1
      obtain ⟨y4, y5⟩ := Array.getElem?_eq_some_iff.1 y1
      rw [getElem!_pos cur _ y4, y5]; exact y2) hcap (by simp [maxLen] at hm; omega) hi
    refine key.mono ?_
    rintro e w' ⟨rfl, q, F, hF, rfl⟩
    obtain ⟨cur', c1, c2, c3, c4⟩ := row_worldF x.w0 g q F hc
    have hown : (x.C0.sv 0).ownBlock = some g := by rw [← e1]; rfl
    have hlen : (rows.eraseIdx i).length = rows.length - 1 := by rw [List.length_eraseIdx, if_pos hi]
    obtain ⟨C', k1, k2, k3⟩ := h0.rerow (id := 0) (v' := v + 1) (g' := g) (cap' := cap) (rows' := rows.eraseIdx i) (cur' := cur') rfl (by
      refine ⟨c4.size, c4.os, c4.tape, c4.output, fun b hb hne => c4.blk b hb fun e => hne (by rw [hown, e])⟩) (.inl hown) (.inr (by omega)) c1 (by rw [hlen]; omega) hm (by rw [c2, hz])
      (fun row hr => e2 row (List.mem_of_mem_eraseIdx hr)) (del_rep rfl hi e2 hcs hF c3 hrow)
    rw [hlen] at k3
    exact ⟨_, C', rfl, k1, k3⟩
end Go.Proofs.YtfdolehffjmdmaaGreatDoor
/- slices.Insert of one element of k cells: in memory. -/
namespace Go.Proofs.YtfdolehffjmdmaaGreatDoor
open Go.RowKit Go.Lib Go.Sort
open Go.Shelf
def InsF (k n i : Nat) (cs : Array Value) (vs : List Value) (F : Array Value) : Prop := ∀ t, t < (n + 1) * k → F[t]! = if t < i * k then cs[t]! else if t < i * k + k then vs[t - i * k]! else cs[t - k]!
theorem run_overlaps_own {P : Program} (w : World) (tS tR e : TypeId) (ht : P.underlying tS = some (.slice e)) (size : Nat) (hz : ∀ w, (Go.sizeOf e).run P w = .ok size w)
    (a b : Addr) (la ca lb cb : Nat) (hne : a.block ≠ b.block) (tA tB : TypeId) (kA kB : Nat)
    (hsa : w.shape? a.block = some (tA, kA)) (hsb : w.shape? b.block = some (tB, kB)) (hkB : kB ≠ 0) (hkA : kA ≠ 0)
    (hfa : w.frozen? b = false) (hfe : w.frozen? { block := b.block, off := kB } = false) :
    (Extern.SlicesOverlaps.overlaps #[tS, tS] #[tR] #[.slice (some a) la ca, .slice (some b) lb cb]).run P w = .ok (.bool false) w := by
  have hnb : (a.block != b.block) = true := by simpa using hne
  have hnb' : (a.block == b.block) = false := by simpa using hne
  change Sem.run P (α := Value) (do
    let some t := (#[tS, tS] : Array TypeId)[0]? | stuck "slices.overlaps: no parameter types"
    let .slice elem ← underlying t | stuck "slices.overlaps: slice type expected"
    let size ← sizeOf elem
    match (some a : Option Addr), (some b : Option Addr) with
    | some a, some b =>
      if la = 0 ∨ lb = 0 ∨ size = 0 then pure (Value.bool false)
      else if a.block != b.block && (← frozen a) && (← frozen b) then unsupported .addressObserved
      else do
        if a.block != b.block then do
          noView a; noView b
          if ← mayBeOne a b then return Value.bool ((← choose (.extern "sameAddr.stringBytes" 2)) == 1)
        pure (Value.bool (a.block == b.block && a.off < b.off + lb * size && b.off < a.off + la * size))
    | _, _ => pure (Value.bool false)) w = _
  by_cases h0 : la = 0 ∨ lb = 0 ∨ size = 0
  · simp [run_underlying ht, hz, h0]
  · cases kB with
    | zero => exact absurd rfl hkB
    | succ kB =>
     cases kA with
     | zero => exact absurd rfl hkA
     | succ kA =>
      cases h1 : w.frozen? a <;> cases h2 : w.frozen? { block := a.block, off := kA + 1 } <;>
        simp [run_underlying ht, hz, h0, hnb, hnb', frozen, noView, viewAt, mayBeOne, stringish, shape, Sem.run, hsa, hsb, hfa, hfe, h1, h2]
theorem run_copy_cellsK {P : Program} (w : World) (dT sT ty elem : TypeId) (k : Nat) (b o dLen dCap : Nat) (a : Addr) (sLen sCap m : Nat) (cs : List Value)
    (hu : P.underlying dT = some (.slice elem)) (hs : (P.info? elem).map (·.size) = some k) (hm : m = Nat.min sLen dLen) (hn : cs.length = m * k)
    (hsrc : ∀ j v, cs[j]? = some v → w.cell? (a.add j) = some v) (hc : ∀ j, j < cs.length → (w.cell? ⟨b, o + j, none⟩).isSome = true) (hf : ∀ j, j < cs.length → w.frozen? ⟨b, o + j, none⟩ = false) (h1 : ∀ v ∈ cs, v.oneCell' = true) :
    (Builtin.copy_ #[dT, sT] ty #[.slice (some ⟨b, o, none⟩) dLen dCap, .slice (some a) sLen sCap]).run P w = .ok (goInt m) (w.setCells b o cs) := by
  have hl := run_loadCells_list (P := P) w a cs hsrc
  have hst := run_storeCells_cells (P := P) b o cs 0 w (by simpa using hc) (by simpa using hf) h1
  cases hq : P.info? elem with
  | none => simp [hq] at hs
  | some i =>
    have hi : i.size = k := by simpa [hq] using hs
    rw [hn] at hl
    simp [Builtin.copy_, run_underlying hu, Builtin.lenOf, Builtin.firstCells, sizeOf, typeInfo, hq, hi, ← hm, hl, hst]
def seg (cs : Array Value) (s m : Nat) : List Value := (List.range m).map fun t => cs[s + t]!
theorem seg_len (cs : Array Value) (s m : Nat) : (seg cs s m).length = m := by simp [seg]
theorem seg_get {cs : Array Value} {s m t : Nat} {u : Value} (h : (seg cs s m)[t]? = some u) : t < m ∧ u = cs[s + t]! := by
  have ht : t < (seg cs s m).length := (List.getElem?_eq_some_iff.1 h).1
  rw [seg_len] at ht
  rw [seg, List.getElem?_map, List.getElem?_range ht] at h
  exact ⟨ht, (Option.some.inj h).symm⟩
theorem seg_get! {cs : Array Value} {s m t : Nat} (h : t < m) : (seg cs s m)[t]! = cs[s + t]! := by
  rw [getElem!_pos _ t (by rw [seg_len]; exact h)]
  simp [seg]
theorem seg_one {cs : Array Value} {s m e : Nat} (h1 : ∀ t, t < e → (cs[t]!).oneCell' = true) (he : s + m ≤ e) : ∀ v ∈ seg cs s m, v.oneCell' = true := by
  intro v hv
  obtain ⟨t, ht, rfl⟩ := List.getElem_of_mem hv
  obtain ⟨h2, h3⟩ := seg_get (List.getElem?_eq_getElem ht)
  rw [h3]; exact h1 _ (by omega)
theorem insF_of {k n i : Nat} {cs : Array Value} {vs : List Value} (hz : (n + 1) * k ≤ cs.size) (hi : i ≤ n) (hv : vs.length = k) :
    InsF k n i cs vs (setMany (setMany cs ((i + 1) * k) (seg cs (i * k) ((n - i) * k))) (i * k) vs) := by
  intro t ht
  obtain ⟨m, rfl⟩ : ∃ m, n = i + m := ⟨n - i, by omega⟩
  have e1 : (i + m + 1) * k = i * k + m * k + k := by rw [Nat.add_mul, Nat.add_mul, Nat.one_mul]
  have e2 : (i + 1) * k = i * k + k := by rw [Nat.add_mul, Nat.one_mul]
  have e3 : i + m - i = m := by omega
  rw [e1] at hz ht
  rw [e2, e3, get_setMany _ _ _ t (by simp; omega), hv]
  by_cases h1 : t < i * k
  · rw [if_neg (by omega), if_pos h1, get_setMany _ _ _ t (by omega), if_neg (by omega)]
  · by_cases h2 : t < i * k + k
    · rw [if_pos (by omega), if_neg h1, if_pos h2]
    · rw [if_neg (by omega), if_neg h1, if_neg h2, get_setMany _ _ _ t (by omega), seg_len, if_pos (by omega), seg_get! (by omega), show i * k + (t - (i * k + k)) = t - k by omega]
theorem wpList_append_room_k {P : Program} (w : World) {ops : Array Oper} {rest : List Oper} {o : Oper} {a : Act} {Q : Exit → Act → World → Prop}
    (hg : o.guard = none) (s x : Operand) (t : TypeId) (hop : o.op = Op.call { callee := Callee.builtin Builtin.append, args := #[s, x], argTypes := #[t, t] })
    (e : TypeId) (i : TypeInfo) (size : Nat) (h1 : P.underlying t = some (.slice e)) (h2 : P.info? e = some i) (h4 : i.size = size)
    (b off n cap : Nat) (hs : a.eval s = .slice (some ⟨b, off, none⟩) n cap) (ad : Addr) (m c : Nat) (news : List Value) (hx : a.eval x = .slice (some ad) m c) (hn : news.length = m * size)
    (hc : ∀ j u, news[j]? = some u → w.cell? (ad.add j) = some u) (h1c : ∀ u ∈ news, u.oneCell' = true) (hroom : n + m ≤ cap)
    (hspare : ∀ j, j < news.length → (w.cell? ⟨b, off + n * size + j, none⟩).isSome = true ∧ w.frozen? ⟨b, off + n * size + j, none⟩ = false)
    (hK : wpList P ops Q rest (a.put o.dst (.slice (some ⟨b, off, none⟩) (n + m) cap)) (w.setCells b (off + n * size) news)) :
    wpList P ops Q (o :: rest) a w := by
  refine wpList_plain hg fun K hK' => ?_
  subst h4
  have hrun := run_append_room_cells (P := P) w t o.type e i h1 h2 b off n cap ad m c news hn hc h1c hroom (fun j hj => (hspare j hj).1) (fun j hj => (hspare j hj).2)
  unfold Oper.wp
  simp [execOp, hop, resolve, invoke, builtin, hs, hx, hrun, Result.andThen]
  exact hK' _ _ hK
set_option maxHeartbeats 4000000 in
set_option maxRecDepth 1000000 in
theorem insE_shift (blk off cap n i m vb voff vc tA kA : Nat) (cs : Array Value) (vs : List Value) (w : World) (h0 : off = 0) (hm1 : m = 1) (hH : Holds id w blk off cs) (hz : cs.size = cap * 5) (h1 : ∀ t, t < n * 5 → (cs[t]!).oneCell' = true)
    (hvl : vs.length = 5) (hvs : ∀ j v, vs[j]? = some v → w.cell? ⟨vb, voff + j, none⟩ = some v) (h1v : ∀ v ∈ vs, v.oneCell' = true) (hvb : vb ≠ blk) (hsa : w.shape? vb = some (tA, kA)) (hkA : kA ≠ 0) (tB : TypeId) (hsb : w.shape? blk = some (tB, cap * 5)) (hfb : ∀ o, w.frozen? ⟨blk, o, none⟩ = false)
    (hm : cap ≤ 9223372036854775807) (hi : i < n) (hroom : n + m ≤ cap) :
    Calls Tryz.prog 144 #[.slice (some ⟨blk, off, none⟩) n cap, .int .i64 i, .slice (some ⟨vb, voff, none⟩) m vc] w fun e w' => e = .returned (.slice (some ⟨blk, off, none⟩) (n + m) cap) ∧ ∃ (q : Nat) (F : Array Value), F.size = cs.size ∧ InsF 5 n i cs vs F ∧ w' = putRow id (Sort.ahead w q) blk 0 F := by
  have mixed : Tryz.prog.follows Departure.mixedOrders = true := rfl
  have hz1 : ¬ ((m : Int) = 0) := by omega
  have hz2 : ¬ ((i : Int) = (n : Int)) := by omega
  have hsz : (Tryz.prog.info? 46).map (·.size) = some 5 := by kernel_rfl
  have hov : ∀ lb cb, (callFunc 173 #[.slice (some ⟨vb, voff, none⟩) m vc, .slice (some ⟨blk, off + (i + m) * 5, none⟩) lb cb]).run Tryz.prog w = .ok (.value (.bool false)) w := fun lb cb => by
    rw [run_callFunc_extern Tryz.func173 (by kernel_rfl) (by kernel_rfl) (by kernel_rfl) (e := Extern.SlicesOverlaps.overlaps #[22, 22] #[4]) (by kernel_rfl),
      run_overlaps_own w 22 4 46 rfl 5 (fun _ => by kernel_rfl) ⟨vb, voff, none⟩ ⟨blk, off + (i + m) * 5, none⟩ m vc lb cb hvb tA tB kA (cap * 5) hsa hsb (by omega) hkA (hfb _) (hfb _)]
    rfl
  have hw1 : IntKind.i64.wrap ((i : Int) + (m : Int)) = (i : Int) + (m : Int) := by rw [IntKind.wrap_i64]; omega
  have hb1 : (0 : Int) ≤ (i : Int) + (m : Int) := by omega
  have hin : i ≤ n := by omega
  have htn : ((i : Int) + (m : Int)).toNat = i + m := by omega
  have hb2 : ¬ (cap = i + m) := by omega
  have hb3 : (i : Int) ≤ (n : Int) + (m : Int) := by omega
  have hb4 : ¬ (cap = i) := by omega
  have hcz : n * 5 ≤ cs.size := by rw [hz]; exact Nat.mul_le_mul_right _ (by omega)
  have hcz1 : (n + m) * 5 ≤ cs.size := by rw [hz]; exact Nat.mul_le_mul_right _ hroom
  obtain ⟨news, hnews⟩ : ∃ news, news = seg cs (i * 5) ((n - i) * 5) := ⟨_, rfl⟩
  have hnl : news.length = (n - i) * 5 := by rw [hnews, seg_len]
  have hcp1 : ∀ ty dc sc, (Builtin.copy_ #[22, 22] ty #[.slice (some ⟨blk, off + (i + m) * 5, none⟩) (n + m - (i + m)) dc, .slice (some ⟨blk, off + i * 5, none⟩) (n + m - i) sc]).run Tryz.prog w.drew = .ok (goInt ((n - i : Nat) : Int)) (w.drew.setCells blk (off + (i + m) * 5) news) := fun ty dc sc =>
    run_copy_cellsK w.drew _ _ ty 46 5 blk (off + (i + m) * 5) (n + m - (i + m)) dc ⟨blk, off + i * 5, none⟩ (n + m - i) sc (n - i) news rfl hsz (by simp only [Nat.min_def]; split <;> omega) hnl
      (fun j v hj => by
        rw [hnews] at hj
        obtain ⟨ht, rfl⟩ := seg_get hj
        rw [Addr.add_lit, Nat.add_assoc]; exact (hH _ (by omega)).1)
      (fun j hj => by rw [hnl] at hj; rw [Nat.add_assoc]; show (w.cell? _).isSome = true; rw [(hH _ (by omega)).1]; rfl) (fun j hj => by exact hfb _)
      (by rw [hnews]; exact seg_one h1 (by omega))
  obtain ⟨W1, hW1⟩ : ∃ W1, W1 = w.drew.setCells blk (off + (i + m) * 5) news := ⟨_, rfl⟩
  have hput : W1 = putRow id (Sort.ahead w 1) blk off (setMany cs ((i + m) * 5) news) := by
    rw [hW1, ← setCells_putRow _ _ _ _ _ _ (by omega), putRow_self id (Sort.ahead w 1) blk off cs (holds_ahead id w 1 blk off cs hH)]
    rfl
  have hH1 : Holds id W1 blk off (setMany cs ((i + m) * 5) news) := by rw [hput]; exact holds_putRow id _ blk off cs _ (holds_ahead id w 1 blk off cs hH) (by simp)
  have hcp2 : ∀ (W : World), W = W1 → ∀ ty dc, (Builtin.copy_ #[22, 22] ty #[.slice (some ⟨blk, off + i * 5, none⟩) (n + m - i) dc, .slice (some ⟨vb, voff, none⟩) m vc]).run Tryz.prog W = .ok (goInt m) (W.setCells blk (off + i * 5) vs) := fun W hWc ty dc => by
    subst hWc
    refine run_copy_cellsK W _ _ ty 46 5 blk (off + i * 5) (n + m - i) dc ⟨vb, voff, none⟩ m vc m vs rfl hsz (by simp only [Nat.min_def]; split <;> omega) (by omega)
      (fun j v hj => by
        rw [Addr.add_lit, hW1, World.cell?_setCells_out blk _ _ _ _ (fun h _ => absurd h hvb)]
        exact hvs j v hj)
      (fun j hj => by rw [Nat.add_assoc, (hH1 _ (by rw [size_setMany]; omega)).1]; rfl) (fun j hj => by rw [Nat.add_assoc]; exact (hH1 _ (by rw [size_setMany]; omega)).2) h1v
  have fin : Aside (∃ (q : Nat) (F : Array Value), F.size = cs.size ∧ InsF 5 n i cs vs F ∧ W1.setCells blk (off + i * 5) vs = putRow id (Sort.ahead w q) blk 0 F) := by
    subst h0 hm1
    refine ⟨1, _, ?_, insF_of hcz1 (by omega) hvl, ?_⟩
    · simp
    · rw [hput, setCells_putRow _ _ _ _ _ _ (by rw [size_setMany]; omega), hnews]
  rw [← hW1] at hcp1
  clear hkA hput hH hH1 hnews hnl hz hcz hcz1 h1 hvs h1v hsa hsb hfb hvl h0 hm1 hvb
  go_enter Tryz.func144, Tryz.ntmps144
  go_wp2_with (simp only [hov])
  go_region_law_o (refine step_copy_runI rfl _ _ 22 22 rfl _ _ (by simp [Act.eval, Act.put]) (by simp [Act.eval, Act.put]) (hcp1 _ _ _) ?_)
  go_wp2_with (at_builtin; refine wpList_copy_runI _ rfl _ _ 22 22 rfl _ _ rfl rfl (hcp2 _ rfl _ _) ?_)
  go_ret
  exact ⟨rfl, by rw [← hW1]; exact fin.out⟩
set_option maxHeartbeats 4000000 in
set_option maxRecDepth 1000000 in
theorem insE_end_room (blk off cap n m vb voff vc : Nat) (cs : Array Value) (vs : List Value) (w : World) (h0 : off = 0) (hm1 : m = 1) (hH : Holds id w blk off cs) (hz : cs.size = cap * 5)
    (hvl : vs.length = 5) (hvs : ∀ j v, vs[j]? = some v → w.cell? ⟨vb, voff + j, none⟩ = some v) (h1v : ∀ v ∈ vs, v.oneCell' = true)
    (hm : cap ≤ 9223372036854775807) (hroom : n + m ≤ cap) :
    Calls Tryz.prog 144 #[.slice (some ⟨blk, off, none⟩) n cap, .int .i64 n, .slice (some ⟨vb, voff, none⟩) m vc] w fun e w' => e = .returned (.slice (some ⟨blk, off, none⟩) (n + m) cap) ∧ ∃ (q : Nat) (F : Array Value), F.size = cs.size ∧ InsF 5 n n cs vs F ∧ w' = putRow id (Sort.ahead w q) blk 0 F := by
  have mixed : Tryz.prog.follows Departure.mixedOrders = true := rfl
  have hz1 : ¬ ((m : Int) = 0) := by omega
  have hcz1 : (n + m) * 5 ≤ cs.size := by rw [hz]; exact Nat.mul_le_mul_right _ hroom
  obtain ⟨i0, hi0, hz0, hzs, hzb⟩ := info_parts (P := Tryz.prog) (e := 46) (z := .agg #[.int .i64 0, .int .i64 0, .int .i64 0, .string ⟨#[]⟩, .slice none 0 0]) (size := 5) (bytes := 64) (by kernel_rfl)
  have s1 : Hid (∀ j u, vs[j]? = some u → w.cell? (Addr.add ⟨vb, voff, none⟩ j) = some u) := fun j u hj => by rw [Addr.add_lit]; exact hvs j u hj
  have s2 : Hid (∀ u ∈ vs, u.oneCell' = true) := h1v
  have s3 : Hid (∀ j, j < vs.length → (w.cell? ⟨blk, off + n * 5 + j, none⟩).isSome = true ∧ w.frozen? ⟨blk, off + n * 5 + j, none⟩ = false) := fun j hj => by
    rw [Nat.add_assoc]; exact ⟨by rw [(hH _ (by omega)).1]; rfl, (hH _ (by omega)).2⟩
  have s5 : Hid (vs.length = m * 5) := by show vs.length = m * 5; omega
  have s6 : Hid (∀ j u, (seg cs 0 (n * 5))[j]? = some u → w.cell? ⟨blk, off + j, none⟩ = some u) := fun j u hj => by
    obtain ⟨ht, rfl⟩ := seg_get hj
    rw [Nat.zero_add]; exact (hH _ (by omega)).1
  have fin : Aside (∃ (q : Nat) (F : Array Value), F.size = cs.size ∧ InsF 5 n n cs vs F ∧ w.setCells blk (off + n * 5) vs = putRow id (Sort.ahead w q) blk 0 F) := by
    subst h0 hm1
    refine ⟨0, setMany cs (n * 5) vs, by simp, fun t ht => ?_, ?_⟩
    · rw [get_setMany _ _ _ t (by omega), hvl]
      by_cases h1 : t < n * 5
      · rw [if_neg (by omega), if_pos h1]
      · rw [if_pos (by omega), if_neg h1, if_pos (by omega)]
    · rw [← setCells_putRow _ _ _ _ _ _ (by omega), putRow_self id (Sort.ahead w 0) blk 0 cs (holds_ahead id w 0 blk 0 cs hH)]
      rfl
  have hml : n + m ≤ maxLen := by unfold maxLen; omega
  clear hH hz hcz1 hvs h1v hvl h0 hm1
  go_enter Tryz.func144, Tryz.ntmps144
  go_wp2_with (at_builtin; refine wpList_append_room_k _ rfl _ _ 22 rfl 46 i0 5 rfl hi0 hzs blk off n cap rfl ⟨vb, voff, none⟩ m vc vs rfl s5.out s1.out s2.out hroom s3.out ?_)
  go_ret
  exact ⟨rfl, fin.out⟩
set_option maxHeartbeats 4000000 in
set_option maxRecDepth 1000000 in
theorem insE_end_grow (ao : Option Addr) (cap n m vb voff vc : Nat) (olds vs : List Value) (w : World) (hm1 : m = 1) (hnone : ao = none → n = 0 ∧ cap = 0) (hlo : olds.length = n * 5) (holds : ∀ b, ao = some b → ∀ j u, olds[j]? = some u → w.cell? (b.add j) = some u)
    (hvl : vs.length = 5) (hvs : ∀ j v, vs[j]? = some v → w.cell? ⟨vb, voff + j, none⟩ = some v) (h1v : ∀ v ∈ vs, v.oneCell' = true)
    (hnc : n ≤ cap) (hfull : cap < n + m) (hbig : (n + m) * 64 ≤ 140737488355328) :
    Calls Tryz.prog 144 #[.slice ao n cap, .int .i64 n, .slice (some ⟨vb, voff, none⟩) m vc] w fun e w' => ∃ v', e = .returned v' ∧ w'.ownsRow w.heap.size 46 5 v' (n + m) (olds ++ vs) ∧ w.grownBy w' none := by
  have mixed : Tryz.prog.follows Departure.mixedOrders = true := rfl
  have hz1 : ¬ ((m : Int) = 0) := by omega
  obtain ⟨i0, hi0, hz0, hzs, hzb⟩ := info_parts (P := Tryz.prog) (e := 46) (z := .agg #[.int .i64 0, .int .i64 0, .int .i64 0, .string ⟨#[]⟩, .slice none 0 0]) (size := 5) (bytes := 64) (by kernel_rfl)
  have s1 : Hid (∀ j u, vs[j]? = some u → w.cell? (Addr.add ⟨vb, voff, none⟩ j) = some u) := fun j u hj => by rw [Addr.add_lit]; exact hvs j u hj
  have s2 : Hid (∀ u ∈ vs, u.oneCell' = true) := h1v
  have s5 : Hid (vs.length = m * 5) := by show vs.length = m * 5; omega
  have s6 : Hid (∀ b, ao = some b → ∀ j u, olds[j]? = some u → w.cell? (b.add j) = some u) := holds
  have s7 : Hid (ao = none → n = 0 ∧ cap = 0) := hnone
  have hml : n + m ≤ maxLen := by unfold maxLen; omega
  clear hvs h1v hvl hm1 holds hnone
  go_enter Tryz.func144, Tryz.ntmps144
  go_wp2_with (at_builtin; refine wpList_append_grows _ rfl _ _ 22 rfl 46 i0 (.agg #[.int .i64 0, .int .i64 0, .int .i64 0, .string ⟨#[]⟩, .slice none 0 0]) 5 64 rfl hi0 hz0 hzs hzb rfl (by omega) ao n cap olds rfl s7.out hlo s6.out ⟨vb, voff, none⟩ m vc vs rfl s5.out s1.out s2.out hfull hml hbig (fun v' w' r1 r2 => ?_))
  all_goals
    go_ret
    exact ⟨_, rfl, by assumption, by assumption⟩
end Go.Proofs.YtfdolehffjmdmaaGreatDoor
/- slices.Insert of one element of k cells where there is no room: in memory. -/
namespace Go.Proofs.YtfdolehffjmdmaaGreatDoor
open Go.RowKit Go.Lib Go.Sort
open Go.Shelf
theorem insF_grow {k n i : Nat} {cs ROW : Array Value} {vs : List Value} (hz : (n + 1) * k ≤ ROW.size) (hi : i ≤ n) (hv : vs.length = k) (hrow : ∀ t, t < i * k → ROW[t]! = cs[t]!) :
    InsF k n i cs vs (setMany (setMany ROW (i * k) vs) ((i + 1) * k) (seg cs (i * k) ((n - i) * k))) := by
  intro t ht
  obtain ⟨m, rfl⟩ : ∃ m, n = i + m := ⟨n - i, by omega⟩
  have e1 : (i + m + 1) * k = i * k + m * k + k := by rw [Nat.add_mul, Nat.add_mul, Nat.one_mul]
  have e2 : (i + 1) * k = i * k + k := by rw [Nat.add_mul, Nat.one_mul]
  have e3 : i + m - i = m := by omega
  rw [e1] at hz ht
  rw [e2, e3, get_setMany _ _ _ t (by simp; omega), seg_len]
  by_cases h1 : t < i * k
  · rw [if_neg (by omega), if_pos h1, get_setMany _ _ _ t (by omega), if_neg (by omega), hrow t h1]
  · by_cases h2 : t < i * k + k
    · rw [if_neg (by omega), if_neg h1, if_pos h2, get_setMany _ _ _ t (by omega), hv, if_pos (by omega)]
    · rw [if_pos (by omega), if_neg h1, if_neg h2, seg_get! (by omega), show i * k + (t - (i * k + k)) = t - k by omega]
set_option maxHeartbeats 4000000 in
set_option maxRecDepth 1000000 in
theorem insE_grow (blk off cap n i m vb voff vc : Nat) (cs : Array Value) (vs : List Value) (w : World) (h0 : off = 0) (hm1 : m = 1) (hH : Holds id w blk off cs) (hz : cs.size = cap * 5) (h1 : ∀ t, t < n * 5 → (cs[t]!).oneCell' = true)
    (hvl : vs.length = 5) (hvs : ∀ j v, vs[j]? = some v → w.cell? ⟨vb, voff + j, none⟩ = some v) (h1v : ∀ v ∈ vs, v.oneCell' = true)
    (hi : i < n) (hnc : n ≤ cap) (hroom : cap < n + m) (hbig : (n + m) * 64 ≤ 140737488355328) :
    Calls Tryz.prog 144 #[.slice (some ⟨blk, off, none⟩) n cap, .int .i64 i, .slice (some ⟨vb, voff, none⟩) m vc] w fun e w' => ∃ (q G : Nat) (ROW F : Array Value), e = .returned (.slice (some ⟨w.heap.size, 0, none⟩) (n + m) G) ∧ n + m ≤ G ∧ G ≤ maxLen ∧ ROW.size = G * 5 ∧ F.size = ROW.size ∧ InsF 5 n i cs vs F ∧ w' = putRow id (Sort.ahead (w.alloc (.cells ROW 46)) q) w.heap.size 0 F := by
  have mixed : Tryz.prog.follows Departure.mixedOrders = true := rfl
  have hz1 : ¬ ((m : Int) = 0) := by omega
  have hz2 : ¬ ((i : Int) = (n : Int)) := by omega
  have hz3 : (cap : Int) < (n : Int) + (m : Int) := by omega
  have hsz : (Tryz.prog.info? 46).map (·.size) = some 5 := by kernel_rfl
  obtain ⟨i0, hi0, hz0, hzs, hzb⟩ := info_parts (P := Tryz.prog) (e := 46) (z := .agg #[.int .i64 0, .int .i64 0, .int .i64 0, .string ⟨#[]⟩, .slice none 0 0]) (size := 5) (bytes := 64) (by kernel_rfl)
  have hcz : n * 5 ≤ cs.size := by rw [hz]; exact Nat.mul_le_mul_right _ hnc
  have hbw : blk < w.heap.size := block_lt_of_cell (hH 0 (by omega)).1
  have hvw : vb < w.heap.size := block_lt_of_cell (hvs 0 _ (List.getElem?_eq_getElem (by omega)))
  have hkk : (n : Int) + (m : Int) - (i : Int) = ((n + m - i : Nat) : Int) := by omega
  have hik : i + (n + m - i) = n + m := by omega
  have hold : (Builtin.firstCells i0.size i (.slice (some ⟨blk, off, none⟩) i cap)).run Tryz.prog w.drew = .ok (seg cs 0 (i * 5)).toArray w.drew := by
    rw [hzs]
    exact run_firstCells_some w.drew 5 i ⟨blk, off, none⟩ i cap (seg cs 0 (i * 5)) (seg_len _ _ _) (fun j v hj => by
      obtain ⟨ht, rfl⟩ := seg_get hj
      rw [Addr.add_lit, Nat.zero_add]
      exact (hH _ (by omega)).1)
  obtain ⟨G, hG⟩ : ∃ G, G = grownCap w (n + m) cap 46 := ⟨_, rfl⟩
  obtain ⟨ROW, hROW⟩ : ∃ ROW : Array Value, ROW = (seg cs 0 (i * 5)).toArray ++ Builtin.zeroCells (Value.cells (.agg #[.int .i64 0, .int .i64 0, .int .i64 0, .string ⟨#[]⟩, .slice none 0 0])) (n + m - i) ++ Builtin.zeroCells (Value.cells (.agg #[.int .i64 0, .int .i64 0, .int .i64 0, .string ⟨#[]⟩, .slice none 0 0])) (G - (n + m)) := ⟨_, rfl⟩
  have hrz : ∀ ty, (Builtin.append_ #[22, 3] ty #[.slice (some ⟨blk, off, none⟩) i cap, .int .i64 ((n : Int) + (m : Int) - (i : Int))]).run Tryz.prog w =
      .ok (.slice (some ⟨w.heap.size, 0, none⟩) (n + m) G) (w.drew.alloc (.cells ROW 46)) := fun ty => by
    have h := Lib.run_append_grow_zeros w 22 3 ty 46 i0 _ .i64 .i64 rfl rfl hi0 hz0 (some ⟨blk, off, none⟩) i cap (seg cs 0 (i * 5)) hold (n + m - i) (by omega) (by omega) (by omega) (by omega) (by rw [hzb]; omega) (by rw [hzb, hik]; exact growslice_fits hroom hbig)
    rw [hik, ← hG, ← hROW] at h
    rw [hkk]
    exact h
  have hGn : n + m ≤ G := by rw [hG]; exact grownCap_ge w _ _ _
  have hGm : G ≤ maxLen := by rw [hG]; exact grownCap_le_maxLen w (n + m) cap 46 (by unfold maxLen; omega)
  have hG63 : G ≤ 9223372036854775807 := by have := hGm; unfold maxLen at this; omega
  have hRs : ROW.size = G * 5 := by
    rw [hROW]
    simp [Builtin.zeroCells, Value.cells, seg_len]
    omega
  have hRow : ∀ t, t < i * 5 → ROW[t]! = cs[t]! := fun t ht => by
    rw [getElem!_pos ROW t (by omega)]
    simp only [hROW]
    rw [Array.getElem_append_left (by simp [seg_len]; omega), Array.getElem_append_left (by simp [seg_len]; omega)]
    have := seg_get! (cs := cs) (s := 0) ht
    rw [getElem!_pos _ t (by rw [seg_len]; exact ht), Nat.zero_add] at this
    simpa using this
  obtain ⟨W1, hW1⟩ : ∃ W1, W1 = w.drew.alloc (.cells ROW 46) := ⟨_, rfl⟩
  have hN : Holds id W1 w.heap.size 0 ROW := fun j hj => by
    rw [Nat.zero_add, hW1]
    refine ⟨?_, World.frozen?_alloc_at (w := w.drew) ROW _ w.heap.size j rfl⟩
    rw [World.cell?_alloc_at (w := w.drew) ROW _ w.heap.size j rfl, Array.getElem?_eq_getElem hj, getElem!_pos ROW j hj]; rfl
  have hOb : ∀ j v, w.cell? ⟨blk, j, none⟩ = some v → W1.cell? ⟨blk, j, none⟩ = some v := fun j v h => by rw [hW1, World.cell?_alloc_past (w := w.drew) _ blk j hbw]; exact h
  have hOv : ∀ j v, w.cell? ⟨vb, j, none⟩ = some v → W1.cell? ⟨vb, j, none⟩ = some v := fun j v h => by rw [hW1, World.cell?_alloc_past (w := w.drew) _ vb j hvw]; exact h
  have hRn : (n + m) * 5 ≤ ROW.size := by rw [hRs]; exact Nat.mul_le_mul_right _ hGn
  have hcpA : ∀ ty dc, (Builtin.copy_ #[22, 22] ty #[.slice (some ⟨w.heap.size, i * 5, none⟩) (n + m - i) dc, .slice (some ⟨vb, voff, none⟩) m vc]).run Tryz.prog W1 = .ok (goInt m) (W1.setCells w.heap.size (i * 5) vs) := fun ty dc =>
    run_copy_cellsK W1 _ _ ty 46 5 w.heap.size (i * 5) (n + m - i) dc ⟨vb, voff, none⟩ m vc m vs rfl hsz (by simp only [Nat.min_def]; split <;> omega) (by omega)
      (fun j v hj => by rw [Addr.add_lit]; exact hOv _ v (hvs j v hj))
      (fun j hj => by have := (hN (i * 5 + j) (by omega)).1; rw [Nat.zero_add] at this; rw [this]; rfl) (fun j hj => by have := (hN (i * 5 + j) (by omega)).2; rwa [Nat.zero_add] at this) h1v
  obtain ⟨news, hnews⟩ : ∃ news, news = seg cs (i * 5) ((n - i) * 5) := ⟨_, rfl⟩
  have hnl : news.length = (n - i) * 5 := by rw [hnews, seg_len]
  obtain ⟨W2, hW2⟩ : ∃ W2, W2 = W1.setCells w.heap.size (i * 5) vs := ⟨_, rfl⟩
  have hself : putRow id W1 w.heap.size 0 ROW = W1 := putRow_self id W1 w.heap.size 0 ROW hN
  have hput : W2 = putRow id W1 w.heap.size 0 (setMany ROW (i * 5) vs) := by
    rw [← setCells_putRow _ _ _ _ _ _ (by omega), hself, hW2, Nat.zero_add]
  have hN2 : Holds id W2 w.heap.size 0 (setMany ROW (i * 5) vs) := by rw [hput]; exact holds_putRow id _ _ _ ROW _ hN (by simp)
  have hbN : blk ≠ w.heap.size := by omega
  have hcpB : ∀ ty dc sc, (Builtin.copy_ #[22, 22] ty #[.slice (some ⟨w.heap.size, (i + m) * 5, none⟩) (n + m - (i + m)) dc, .slice (some ⟨blk, off + i * 5, none⟩) (n - i) sc]).run Tryz.prog W2.drew = .ok (goInt ((n - i : Nat) : Int)) (W2.drew.setCells w.heap.size ((i + m) * 5) news) := fun ty dc sc =>
    run_copy_cellsK W2.drew _ _ ty 46 5 w.heap.size ((i + m) * 5) (n + m - (i + m)) dc ⟨blk, off + i * 5, none⟩ (n - i) sc (n - i) news rfl hsz (by simp only [Nat.min_def]; split <;> omega) hnl
      (fun j v hj => by
        rw [hnews] at hj
        obtain ⟨ht, rfl⟩ := seg_get hj
        rw [Addr.add_lit, Nat.add_assoc]
        show W2.cell? _ = _
        rw [hW2, World.cell?_setCells_out _ _ _ _ _ (fun h _ => absurd h hbN)]
        exact hOb _ _ (hH _ (by omega)).1)
      (fun j hj => by have := (hN2 ((i + m) * 5 + j) (by rw [size_setMany]; omega)).1; rw [Nat.zero_add] at this; show (W2.cell? _).isSome = true; rw [this]; rfl)
      (fun j hj => by have := (hN2 ((i + m) * 5 + j) (by rw [size_setMany]; omega)).2; rw [Nat.zero_add] at this; exact this) (by rw [hnews]; exact seg_one h1 (by omega))
  have fin : Aside (∃ (q : Nat) (F : Array Value), F.size = ROW.size ∧ InsF 5 n i cs vs F ∧ W2.drew.setCells w.heap.size ((i + m) * 5) news = putRow id (Sort.ahead (w.alloc (.cells ROW 46)) q) w.heap.size 0 F) := by
    subst h0 hm1
    refine ⟨2, _, ?_, insF_grow hRn (by omega) hvl hRow, ?_⟩
    · simp
    · have e : W2.drew = putRow id (Sort.ahead (w.alloc (.cells ROW 46)) 2) w.heap.size 0 (setMany ROW (i * 5) vs) := by rw [hput, hW1]; rfl
      rw [← setCells_putRow _ _ _ _ _ _ (by rw [size_setMany, seg_len]; omega), ← e, hnews, Nat.zero_add]
  rw [← hW1] at hrz
  rw [← hW2] at hcpA
  have B : Aside (ROW.size = G * 5 ∧ G ≤ maxLen) := ⟨hRs, hGm⟩
  have hGi : ¬ (G = i) := by omega
  have hGim : ¬ (G = i + m) := by omega
  have hci : ¬ (cap = i) := by omega
  have hw1 : IntKind.i64.wrap ((i : Int) + (m : Int)) = (i : Int) + (m : Int) := by rw [IntKind.wrap_i64]; omega
  have hb1 : (0 : Int) ≤ (i : Int) + (m : Int) := by omega
  have hin : i ≤ n := by omega
  have htn : ((i : Int) + (m : Int)).toNat = i + m := by omega
  have hb3 : (i : Int) ≤ (n : Int) := by omega
  clear hself hput hN2 hW1 hW2 hnews hnl hOb hOv hN hRow hRn hRs hROW hG hold hH hz hcz h1 hvs h1v hvl h0 hm1 hkk hik hGm hbig hzb hzs hz0 hi0
  go_enter Tryz.func144, Tryz.ntmps144
  go_wp2_with (first
    | (at_builtin; refine Lib.wpList_append_run _ rfl _ _ _ _ rfl _ _ rfl rfl _ _ (hrz _) ?_)
    | (at_builtin; refine wpList_copy_runI _ rfl _ _ 22 22 rfl _ _ rfl rfl (hcpA _ _) ?_))
  go_region_law_o (refine step_copy_runI rfl _ _ 22 22 rfl (.slice (some ⟨w.heap.size, (i + m) * 5, none⟩) (n + m - (i + m)) (G - (i + m))) (.slice (some ⟨blk, off + i * 5, none⟩) (n - i) (cap - i)) (by simp [Act.eval, Act.put]) (by simp [Act.eval, Act.put]) (hcpB _ _ _) ?_)
  go_wp2
  go_ret
  obtain ⟨q, F, f1, f2, f3⟩ := fin.out
  exact ⟨q, G, ROW, F, rfl, hGn, B.out.2, B.out.1, f1, f2, f3⟩
end Go.Proofs.YtfdolehffjmdmaaGreatDoor
/- slices.Insert of one element of k cells, as a contract. -/
namespace Go.Proofs.YtfdolehffjmdmaaGreatDoor
open Go.RowKit Go.Lib Go.Sort
open Go.Shelf
theorem ins_rep {S : Nat → Nat → Prop} {w : World} {rows : List (List PV)} {row0 : List PV} {cs cur' : Array Value} {vs : List Value} {sz n i : Nat} (hn : rows.length = n) (hi : i ≤ n) (hz : ∀ row ∈ rows, row.length = sz) (hz0 : row0.length = sz)
    (hget : ∀ t y, t < (n + 1) * sz → cur'[t]? = some y → y = if t < i * sz then cs[t]! else if t < i * sz + sz then vs[t - i * sz]! else cs[t - sz]!)
    (hrow : ∀ (k : Nat) row (j : Nat) p, rows[k]? = some row → row[j]? = some p → ∃ y, cs[k * sz + j]? = some y ∧ y.oneCell' = true ∧ RepP S w p y)
    (hnew : ∀ (j : Nat) p, row0[j]? = some p → ∃ y, vs[j]? = some y ∧ y.oneCell' = true ∧ RepP S w p y) :
    ∀ (k : Nat) row (j : Nat) p u, (rows.insertIdx i row0)[k]? = some row → row[j]? = some p → cur'[k * sz + j]? = some u → u.oneCell' = true ∧ RepP S w p u := by
  intro k row j p u a b c
  have hk : k < n + 1 := by
    have := (List.getElem?_eq_some_iff.1 a).1
    rw [List.length_insertIdx, if_pos (by omega)] at this; omega
  have hrl : row.length = sz := by
    rw [List.getElem?_insertIdx] at a
    split at a
    · exact hz _ (List.mem_of_getElem? a)
    · split at a
      · split at a
        · cases a; exact hz0
        · cases a
      · exact hz _ (List.mem_of_getElem? a)
  have hj : j < sz := by rw [← hrl]; exact (List.getElem?_eq_some_iff.1 b).1
  have hle : (k + 1) * sz ≤ (n + 1) * sz := Nat.mul_le_mul_right _ (by omega)
  rw [Nat.add_mul, Nat.one_mul] at hle
  have hu := hget _ _ (by omega) c
  rw [List.getElem?_insertIdx] at a
  by_cases h1 : k < i
  · rw [if_pos h1] at a
    have : (k + 1) * sz ≤ i * sz := Nat.mul_le_mul_right _ (by omega)
    rw [Nat.add_mul, Nat.one_mul] at this
    rw [if_pos (by omega)] at hu
    obtain ⟨y, y1, y2, y3⟩ := hrow k row j p a b
    obtain ⟨y4, y5⟩ := Array.getElem?_eq_some_iff.1 y1
    rw [getElem!_pos cs _ y4, y5] at hu
    subst hu
    exact ⟨y2, y3⟩
  · rw [if_neg h1] at a
    have hik : i * sz ≤ k * sz := Nat.mul_le_mul_right _ (by omega)
    by_cases h2 : k = i
    · subst h2
      rw [if_pos rfl, if_pos (by omega)] at a
      cases a
      rw [if_neg (by omega), if_pos (by omega), show k * sz + j - k * sz = j by omega] at hu
      obtain ⟨y, y1, y2, y3⟩ := hnew j p b
      obtain ⟨y4, y5⟩ := List.getElem?_eq_some_iff.1 y1
      rw [getElem!_pos vs _ y4, y5] at hu
      subst hu
      exact ⟨y2, y3⟩
    · rw [if_neg h2] at a
      have h3 : (i + 1) * sz ≤ k * sz := Nat.mul_le_mul_right _ (by omega)
      rw [Nat.add_mul, Nat.one_mul] at h3
      rw [if_neg (by omega), if_neg (by omega)] at hu
      obtain ⟨y, y1, y2, y3⟩ := hrow (k - 1) row j p a b
      obtain ⟨k', rfl⟩ : ∃ k', k = k' + 1 := ⟨k - 1, by omega⟩
      rw [Nat.add_sub_cancel] at y1
      rw [show (k' + 1) * sz + j - sz = k' * sz + j by rw [Nat.add_mul, Nat.one_mul]; omega] at hu
      obtain ⟨y4, y5⟩ := Array.getElem?_eq_some_iff.1 y1
      rw [getElem!_pos cs _ y4, y5] at hu
      subst hu
      exact ⟨y2, y3⟩
theorem RepV.list_one {S : Nat → Nat → Prop} {w : World} {C : Conc} {row : List PV} {v : Value} (h : RepV S w C (.list [row]) v) (h0 : 0 < row.length) :
    ∃ (b o c : Nat) (x : Nat → Value), v = .slice (some ⟨b, o, none⟩) 1 c ∧ ∀ (j : Nat) p, row[j]? = some p → S b (o + j) ∧ w.cell? ⟨b, o + j, none⟩ = some (x j) ∧ RepP S w p (x j) := by
  cases h.list_inv with
  | list _ a c sz x hc hm hsz hz hl hr =>
    obtain ⟨b, o, ha, -, -⟩ := hl 0 row 0 row[0] rfl (List.getElem?_eq_getElem h0)
    refine ⟨b, o, c, x 0, by rw [ha]; rfl, fun j p hp => ?_⟩
    obtain ⟨b', o', ha', h1, h2⟩ := hl 0 row j p rfl hp
    rw [ha] at ha'
    cases ha'
    rw [Nat.zero_mul, Nat.add_zero] at h1 h2
    exact ⟨h1, h2, hr 0 row j p rfl hp⟩
theorem insE_meets (rows : List (List PV)) (row0 : List PV) (v i : Nat) (hi : i ≤ rows.length) (hr0 : row0.length = 5) (hbig : (rows.length + 1) * 64 ≤ 140737488355328) :
    Meets Tryz.prog 144 [.arr 0 v, .int .i64 i, .list [row0]] [.arr v true false 46 5 rows] (.arr 0 (v + 1)) [.arr (v + 1) true false 46 5 (rows.insertIdx i row0)] := by
  intro x vs hx h0 hp
  obtain ⟨a, b, c, rfl, p1, p2, p3⟩ := three_args hp.1
  have ha := hp.2 0 _ _ rfl p1
  obtain rfl := (hp.2 1 _ _ rfl p2).int_inv
  obtain ⟨vb, vo, vc, xv, rfl, hxv⟩ := (hp.2 2 _ _ rfl p3).list_one (by omega)
  obtain ⟨e1, e2, e3⟩ := h0.row (id := 0) rfl ha
  have hlen : (rows.insertIdx i row0).length = rows.length + 1 := by rw [List.length_insertIdx, if_pos hi]
  have hrl : ∀ row ∈ rows.insertIdx i row0, row.length = 5 := fun row hr => by
    rcases (List.mem_insertIdx hi).1 hr with rfl | hr
    · exact hr0
    · exact e2 row hr
  obtain ⟨ws, hws⟩ : ∃ ws : List Value, ws = (List.range 5).map xv := ⟨_, rfl⟩
  have hwl : ws.length = 5 := by rw [hws]; simp
  have hwg : ∀ j u, ws[j]? = some u → ∃ p, row0[j]? = some p ∧ u = xv j := fun j u hu => by
    have hj : j < 5 := by rw [← hwl]; exact (List.getElem?_eq_some_iff.1 hu).1
    rw [hws, List.getElem?_map, List.getElem?_range hj] at hu
    exact ⟨_, List.getElem?_eq_getElem (by omega), (Option.some.inj hu).symm⟩
  have hwc : ∀ j u, ws[j]? = some u → x.w0.cell? ⟨vb, vo + j, none⟩ = some u := fun j u hu => by
    obtain ⟨p, hp, rfl⟩ := hwg j u hu
    exact (hxv j p hp).2.1
  have hw1 : ∀ u ∈ ws, u.oneCell' = true := fun u hu => by
    obtain ⟨j, hj, rfl⟩ := List.getElem_of_mem hu
    obtain ⟨p, hp, e⟩ := hwg j _ (List.getElem?_eq_getElem hj)
    rw [e]; exact (hxv j p hp).2.2.one
  have hnew : ∀ (j : Nat) p, row0[j]? = some p → ∃ y, ws[j]? = some y ∧ y.oneCell' = true ∧ RepP (Stab x x.C0 _ x.w0) x.w0 p y := fun j p hp => by
    have hj : j < 5 := by rw [← hr0]; exact (List.getElem?_eq_some_iff.1 hp).1
    refine ⟨xv j, by rw [hws, List.getElem?_map, List.getElem?_range hj]; rfl, (hxv j p hp).2.2.one, (hxv j p hp).2.2⟩
  rcases e3 with ⟨rfl, hnil⟩ | ⟨g, cap, cur, rfl, hc, hcap, hm, hz, hrow⟩
  · subst hnil
    obtain rfl : i = 0 := by simpa using hi
    refine (insE_end_grow none 0 0 1 vb vo vc [] ws x.w0 rfl (fun _ => ⟨rfl, rfl⟩) rfl (fun b h => by cases h) hwl hwc hw1 (by omega) (by omega) (by omega)).mono ?_
    rintro e w' ⟨v', rfl, hown, hgr⟩
    obtain ⟨o1, ⟨-, o2⟩ | ⟨g', cap', cur', rfl, o3, o4, o5, o6, o7, o8⟩⟩ := hown
    · simp at o2
    · obtain ⟨C', k1, k2, k3⟩ := h0.rerow (id := 0) (v' := v + 1) (g' := g') (cap' := cap') (rows' := [row0]) (cur' := cur') rfl
        ⟨hgr.size, hgr.os, hgr.tape, hgr.output, fun b hb _ => hgr.block b hb (by simp)⟩ (.inr o3) (.inr (by omega)) o4 o5 o6 o7 (fun row hr => by simp at hr; subst hr; exact hr0)
        (ins_rep (rows := []) (row0 := row0) (cs := #[]) (vs := ws) (n := 0) (i := 0) rfl (by omega) (fun row hr => by simp at hr) hr0 (fun t y ht hy => by
          rw [if_neg (by omega), if_pos (by omega), Nat.zero_mul, Nat.sub_zero]
          have := congrArg (fun l => l[t]?) o8
          simp only [List.nil_append] at this
          rw [List.getElem?_take, if_pos (by omega), Array.getElem?_toList, hy] at this
          obtain ⟨h1, h2⟩ := List.getElem?_eq_some_iff.1 this.symm
          rw [getElem!_pos ws t h1, h2]) (fun k row j p h => by simp at h) hnew)
      exact ⟨_, C', rfl, k1, k3⟩
  · have hH := holds_cur hc
    have hown : (x.C0.sv 0).ownBlock = some g := by rw [← e1]; rfl
    have hcs : rows.length * 5 ≤ cur.size := by rw [hz]; exact Nat.mul_le_mul_right _ hcap
    have hcap63 : cap ≤ 9223372036854775807 := by simp [maxLen] at hm; omega
    have hone : ∀ t, t < rows.length * 5 → (cur[t]!).oneCell' = true := fun t ht => by
      have hk : t / 5 < rows.length := Nat.div_lt_of_lt_mul (by omega)
      have hj : t % 5 < (rows[t / 5]'hk).length := by rw [e2 _ (List.getElem_mem hk)]; exact Nat.mod_lt _ (by omega)
      obtain ⟨y, y1, y2, -⟩ := hrow (t / 5) _ (t % 5) _ (List.getElem?_eq_getElem hk) (List.getElem?_eq_getElem hj)
      rw [show t / 5 * 5 + t % 5 = t by omega] at y1
      obtain ⟨y4, y5⟩ := Array.getElem?_eq_some_iff.1 y1
      rw [getElem!_pos cur _ y4, y5]; exact y2
    have hcell0 := hwc 0 _ (List.getElem?_eq_getElem (by omega))
    have hvb : vb ≠ g := fun e => by
      have := ((hxv 0 _ (List.getElem?_eq_getElem (by omega))).1.2.2 0 _ rfl) (by rw [hown, e])
      exact absurd this.1 (by decide)
    have hfb : ∀ o, x.w0.frozen? ⟨g, o, none⟩ = false := fun o => by simp [World.frozen?, hc]
    have hsb : x.w0.shape? g = some (46, cap * 5) := by simp [World.shape?, hc, hz]
    obtain ⟨tA, kA, hsa, hkA⟩ : ∃ tA kA, x.w0.shape? vb = some (tA, kA) ∧ kA ≠ 0 := by
      unfold World.cell? at hcell0
      unfold World.shape?
      split at hcell0
      · rename_i cc ee ff hh
        refine ⟨ee, cc.size, by rw [hh], fun e => ?_⟩
        simp at hcell0
        obtain ⟨h1, -⟩ := Array.getElem?_eq_some_iff.1 hcell0
        omega
      · cases hcell0
    -- in place
    have inplace : ∀ (q : Nat) (F : Array Value), F.size = cur.size → InsF 5 rows.length i cur ws F → rows.length + 1 ≤ cap →
        ∃ C', HR x C' [.arr (v + 1) true false 46 5 (rows.insertIdx i row0)] (putRow id (Sort.ahead x.w0 q) g 0 F) ∧ RepV (Stab x C' [.arr (v + 1) true false 46 5 (rows.insertIdx i row0)] (putRow id (Sort.ahead x.w0 q) g 0 F)) (putRow id (Sort.ahead x.w0 q) g 0 F) C' (.arr 0 (v + 1)) (.slice (some ⟨g, 0, none⟩) (rows.length + 1) cap) := fun q F hFs hF hr => by
      obtain ⟨cur', c1, c2, c3, c4⟩ := row_worldF x.w0 g q F hc
      have hcs1 : (rows.length + 1) * 5 ≤ cur.size := by rw [hz]; exact Nat.mul_le_mul_right _ hr
      obtain ⟨C', k1, k2, k3⟩ := h0.rerow (id := 0) (v' := v + 1) (g' := g) (cap' := cap) (rows' := rows.insertIdx i row0) (cur' := cur') rfl
        ⟨c4.size, c4.os, c4.tape, c4.output, fun b hb hne => c4.blk b hb fun e => hne (by rw [hown, e])⟩ (.inl hown) (.inr (by omega)) c1 (by rw [hlen]; omega) hm (by rw [c2, hz]) hrl
        (ins_rep rfl hi e2 hr0 (fun t y ht hy => (c3 t y (by omega) hy).trans (hF t ht)) hrow hnew)
      rw [hlen] at k3
      exact ⟨C', k1, k3⟩
    by_cases hroom : rows.length + 1 ≤ cap
    · by_cases hin : i = rows.length
      · subst hin
        refine Calls.mono (insE_end_room g 0 cap rows.length 1 vb vo vc cur ws x.w0 rfl rfl hH hz hwl hwc hw1 hcap63 hroom) ?_
        rintro e w' ⟨rfl, q, F, f1, f2, rfl⟩
        obtain ⟨C', k1, k3⟩ := inplace q F f1 f2 hroom
        exact ⟨_, C', rfl, k1, k3⟩
      · refine Calls.mono (insE_shift g 0 cap rows.length i 1 vb vo vc tA kA cur ws x.w0 rfl rfl hH hz hone hwl hwc hw1 hvb hsa hkA _ hsb hfb hcap63 (by omega) hroom) ?_
        rintro e w' ⟨rfl, q, F, f1, f2, rfl⟩
        obtain ⟨C', k1, k3⟩ := inplace q F f1 f2 hroom
        exact ⟨_, C', rfl, k1, k3⟩
    · by_cases hin : i = rows.length
      · subst hin
        refine Calls.mono (insE_end_grow (some ⟨g, 0, none⟩) cap rows.length 1 vb vo vc (seg cur 0 (rows.length * 5)) ws x.w0 rfl (fun h => by cases h) (seg_len _ _ _) (fun b hb j u hu => by
          cases hb
          obtain ⟨ht, rfl⟩ := seg_get hu
          rw [Addr.add_lit]
          have := (hH j (by omega)).1
          simp only [Nat.zero_add] at this ⊢
          exact this) hwl hwc hw1 hcap (by omega) hbig) ?_
        rintro e w' ⟨v', rfl, how, hgr⟩
        obtain ⟨o1, ⟨-, o2⟩ | ⟨g', cap', cur', rfl, o3, o4, o5, o6, o7, o8⟩⟩ := how
        · omega
        · obtain ⟨C', k1, k2, k3⟩ := h0.rerow (id := 0) (v' := v + 1) (g' := g') (cap' := cap') (rows' := rows.insertIdx rows.length row0) (cur' := cur') rfl
            ⟨hgr.size, hgr.os, hgr.tape, hgr.output, fun b hb _ => hgr.block b hb (by simp)⟩ (.inr o3) (.inr (by omega)) o4 (by rw [hlen]; exact o5) o6 o7 hrl
            (ins_rep rfl hi e2 hr0 (cs := cur) (vs := ws) (fun t y ht hy => by
              have := congrArg (fun l => l[t]?) o8
              rw [List.getElem?_take, if_pos (by omega), Array.getElem?_toList, hy] at this
              by_cases h1 : t < rows.length * 5
              · rw [if_pos h1]
                rw [List.getElem?_append_left (by rw [seg_len]; exact h1)] at this
                obtain ⟨-, h2⟩ := seg_get this.symm
                rw [h2, Nat.zero_add]
              · rw [if_neg h1, if_pos (by omega)]
                rw [List.getElem?_append_right (by rw [seg_len]; omega), seg_len] at this
                obtain ⟨h3, h2⟩ := List.getElem?_eq_some_iff.1 this.symm
                rw [getElem!_pos ws _ h3, h2]) hrow hnew)
          rw [hlen] at k3
          exact ⟨_, C', rfl, k1, k3⟩
      · refine Calls.mono (insE_grow g 0 cap rows.length i 1 vb vo vc cur ws x.w0 rfl rfl hH hz hone hwl hwc hw1 (by omega) hcap (by omega) hbig) ?_
        rintro e w' ⟨q, G, ROW, F, rfl, f1, f2, f3, f4, f5, rfl⟩
        have hcA : (x.w0.alloc (.cells ROW 46)).heap[x.w0.heap.size]? = some (.cells ROW 46 (0, 0)) := heap_alloc_new _ _
        obtain ⟨cur', c1, c2, c3, c4⟩ := row_worldF (x.w0.alloc (.cells ROW 46)) x.w0.heap.size q F hcA
        have hg1 := World.grownBy_alloc x.w0 (.cells ROW 46) none
        have hFs : (rows.length + 1) * 5 ≤ F.size := by rw [f4, f3]; exact Nat.mul_le_mul_right _ f1
        obtain ⟨C', k1, k2, k3⟩ := h0.rerow (id := 0) (v' := v + 1) (g' := x.w0.heap.size) (cap' := G) (rows' := rows.insertIdx i row0) (cur' := cur') rfl
          ⟨Nat.le_trans hg1.size c4.size, c4.os.trans hg1.os, c4.tape.trans hg1.tape, c4.output.trans hg1.output, fun b hb _ => (c4.blk b (Nat.lt_of_lt_of_le hb hg1.size) (by omega)).trans (hg1.block b hb (by simp))⟩ (.inr (Nat.le_refl _)) (.inr (by omega)) c1 (by rw [hlen]; exact f1) f2 (by rw [c2, f3]) hrl
          (ins_rep rfl hi e2 hr0 (fun t y ht hy => (c3 t y (by omega) hy).trans (f5 t ht)) hrow hnew)
        rw [hlen] at k3
        exact ⟨_, C', rfl, k1, k3⟩
end Go.Proofs.YtfdolehffjmdmaaGreatDoor
/- Players of a log: contracts. -/
namespace Go.Proofs.YtfdolehffjmdmaaGreatDoor
set_option linter.unusedSimpArgs false
set_option linter.unusedVariables false
open Go.RowKit
theorem cloneI_meets (l : List Id) (hb : l.length ≤ 1000000000) : Meets Tryz.prog 148 [.list (l.map cId)] [] (.list (l.map cId)) [] := by
  refine Meets.of_walk Tryz.func148 Tryz.ntmps148 low148 res148 (by simp) fun x hx => ?_
  simp only [go_sem, Nat.reduceLT, Nat.reduceAdd, Nat.reduceEqDiff, Nat.reduceLeDiff, Nat.reduceSub, Nat.reduceMul, Int.reduceEq, eq_self, reduceIte, L148, R148]
  refine ops_isnil rfl fun b hb' => ?_
  cases b
  · simp only [go_sem, Nat.reduceLT, Nat.reduceAdd, Nat.reduceEqDiff, Nat.reduceLeDiff, Nat.reduceSub, Nat.reduceMul, Int.reduceEq, eq_self, reduceIte]
    rw [app_arr rfl rfl (by simp [cId]) (by simp; omega)]
    simp only [go_sem, Nat.reduceLT, Nat.reduceAdd, Nat.reduceEqDiff, Nat.reduceLeDiff, Nat.reduceSub, Nat.reduceMul, Int.reduceEq, eq_self, reduceIte]
    refine ret_pure hx ?_
    simp [go_sem, Nat.reduceLT, Nat.reduceAdd, Nat.reduceEqDiff, Nat.reduceLeDiff, Nat.reduceSub, Nat.reduceMul, Int.reduceEq, eq_self, reduceIte, L148, R148, pos, frzAt]
  · simp only [go_sem, Nat.reduceLT, Nat.reduceAdd, Nat.reduceEqDiff, Nat.reduceLeDiff, Nat.reduceSub, Nat.reduceMul, Int.reduceEq, eq_self, reduceIte]
    have : l = [] := by simpa using hb' rfl
    subst this
    refine ret_pure hx ?_
    simp [go_sem, Nat.reduceLT, Nat.reduceAdd, Nat.reduceEqDiff, Nat.reduceLeDiff, Nat.reduceSub, Nat.reduceMul, Int.reduceEq, eq_self, reduceIte, L148, R148]
end Go.Proofs.YtfdolehffjmdmaaGreatDoor
/- Plain laws of orders: what comes next, and what comes at all. No program in sight. -/
namespace Go.Proofs.YtfdolehffjmdmaaGreatDoor
end Go.Proofs.YtfdolehffjmdmaaGreatDoor
/- Orders: contracts. -/
namespace Go.Proofs.YtfdolehffjmdmaaGreatDoor
set_option linter.unusedSimpArgs false
set_option linter.unusedVariables false
open Go.RowKit
structure SomeOk (l : List Entry) (ids : List Id) : Prop where
  there : ∀ x ∈ ids, 0 ≤ findE l x
  once : ids.Nodup
end Go.Proofs.YtfdolehffjmdmaaGreatDoor
/- order.Begun, Is, More, First: contracts. -/
namespace Go.Proofs.YtfdolehffjmdmaaGreatDoor
set_option linter.unusedSimpArgs false
set_option linter.unusedVariables false
open Go.RowKit
end Go.Proofs.YtfdolehffjmdmaaGreatDoor
/- Orders in the law text's words: contracts. -/
namespace Go.Proofs.YtfdolehffjmdmaaGreatDoor
set_option linter.unusedSimpArgs false
set_option linter.unusedVariables false
open Go.RowKit
theorem nthM {α : Type} [Inhabited α] {l : List α} {k : Nat} (h : k < l.length) : nth l k ∈ l := by rw [nth_eq _ _ h]; exact List.getElem_mem h
end Go.Proofs.YtfdolehffjmdmaaGreatDoor
/- All that comes, in the law text's words: a contract. -/
namespace Go.Proofs.YtfdolehffjmdmaaGreatDoor
set_option linter.unusedSimpArgs false
set_option linter.unusedVariables false
open Go.RowKit
end Go.Proofs.YtfdolehffjmdmaaGreatDoor
