/- Joined texts of this claim: D7 D8 F6 F7 H1 Lt F8 F9 M4 F10 F11 F12 F4 F5 F13 D9 D10 F14 F15 F16 G2 F17 S4 S5 S6 S7 D11 G3 D12 D13 D14 D15 T1 T2 T3 T4 T5 T6 T7 E7 L7 L22 L8 L10 T8 L9 L23 F19 F18 F20 Open Op1 Op2 Op4 Op9 Card. -/
import Derived.Test.YtfdolehffjmdmaaGreatDoorKC
import Derived.Test.YtfdolehffjmdmaaGreatDoorKB
import Derived.Shelf.Small.Strs
import Derived.Deep.RegionLaw
import Derived.Lib.SlicesDelete
import Derived.Shelf.Spec.SlicesInsert
import Derived.ArgAppend
import Derived.Shelf.Spec.SlicesInsertGrow
import Derived.Test.YtfdolehffjmdmaaGreatDoorProg
import Derived.ProofKit
import Derived.OpenShut
import Derived.Carry
import Derived.SizedLaws
import Derived.LaidMore
import Derived.Lay
import Derived.SevenTiedAt
import Derived.Stop.Joined
import Derived.JoinedCond
set_option linter.unusedSimpArgs false
set_option linter.unusedVariables false
set_option linter.unusedSectionVars false
/- dag.Past, dag.Heads, dag.Count: contracts. -/
namespace Go.Proofs.YtfdolehffjmdmaaGreatDoor
set_option linter.unusedSimpArgs false
set_option linter.unusedVariables false
open Go.RowKit
def pastErr (l : List Entry) (y : Id) : Int := if checkLog l ≠ 0 then checkLog l else if findE l y < 0 then 5 else 0
def pastIds (l : List Entry) (y : Id) : List Id := if pastErr l y = 0 then pastOf l (findE l y).toNat else []
theorem dagPast_meets (l : List Entry) (y : Id) (hl : l.length ≤ 9223372036854775806) : Meets Tryz.prog 54 [.list (l.map cE), .agg (cId y)] [] (.tup [.list ((pastIds l y).map cId), .int .i64 (pastErr l y)]) [] := by
  refine Meets.of_walk Tryz.func54 Tryz.ntmps54 low54 res54 (by simp) fun x hx => ?_
  simp only [go_sem, Nat.reduceLT, Nat.reduceAdd, Nat.reduceEqDiff, Nat.reduceLeDiff, Nat.reduceSub, Nat.reduceMul, Int.reduceEq, eq_self, reduceIte, L54, R54, cId]
  refine ops_call (.pureE (dagCheck_meets l hl) (by simp [go_sem, Nat.reduceLT, Nat.reduceAdd, Nat.reduceEqDiff, Nat.reduceLeDiff, Nat.reduceSub, Nat.reduceMul, Int.reduceEq, eq_self, reduceIte])) ?_
  by_cases h0 : checkLog l = 0
  · have hok := log_ok.1 h0
    simp only [go_sem, Nat.reduceLT, Nat.reduceAdd, Nat.reduceEqDiff, Nat.reduceLeDiff, Nat.reduceSub, Nat.reduceMul, Int.reduceEq, eq_self, reduceIte, h0]
    refine ops_call (.pureE (find_meets l y hl) (by simp [go_sem, Nat.reduceLT, Nat.reduceAdd, Nat.reduceEqDiff, Nat.reduceLeDiff, Nat.reduceSub, Nat.reduceMul, Int.reduceEq, eq_self, reduceIte, cId])) ?_
    by_cases h1 : findE l y < 0
    · simp only [go_sem, Nat.reduceLT, Nat.reduceAdd, Nat.reduceEqDiff, Nat.reduceLeDiff, Nat.reduceSub, Nat.reduceMul, Int.reduceEq, eq_self, reduceIte, h1]
      refine ret_pure hx ?_
      simp [go_sem, Nat.reduceLT, Nat.reduceAdd, Nat.reduceEqDiff, Nat.reduceLeDiff, Nat.reduceSub, Nat.reduceMul, Int.reduceEq, eq_self, reduceIte, L54, R54, pastErr, pastIds, h0, h1]
    · obtain ⟨k, f1, f2, f3⟩ := findE_spec (show 0 ≤ findE l y by omega)
      simp only [go_sem, Nat.reduceLT, Nat.reduceAdd, Nat.reduceEqDiff, Nat.reduceLeDiff, Nat.reduceSub, Nat.reduceMul, Int.reduceEq, eq_self, reduceIte, h1]
      refine ops_call (.pureE (before_meets l hok) (by simp [go_sem, Nat.reduceLT, Nat.reduceAdd, Nat.reduceEqDiff, Nat.reduceLeDiff, Nat.reduceSub, Nat.reduceMul, Int.reduceEq, eq_self, reduceIte])) ?_
      simp only [go_sem, Nat.reduceLT, Nat.reduceAdd, Nat.reduceEqDiff, Nat.reduceLeDiff, Nat.reduceSub, Nat.reduceMul, Int.reduceEq, eq_self, reduceIte, pvPasts]
      refine ops_call (.pureE (of_meets l (pasts l) y (by omega) (by omega) (by simp [pasts]; omega)) (by simp [go_sem, Nat.reduceLT, Nat.reduceAdd, Nat.reduceEqDiff, Nat.reduceLeDiff, Nat.reduceSub, Nat.reduceMul, Int.reduceEq, eq_self, reduceIte, cId, pvPasts])) ?_
      simp only [go_sem, Nat.reduceLT, Nat.reduceAdd, Nat.reduceEqDiff, Nat.reduceLeDiff, Nat.reduceSub, Nat.reduceMul, Int.reduceEq, eq_self, reduceIte]
      refine ret_pure hx ?_
      simp [go_sem, Nat.reduceLT, Nat.reduceAdd, Nat.reduceEqDiff, Nat.reduceLeDiff, Nat.reduceSub, Nat.reduceMul, Int.reduceEq, eq_self, reduceIte, L54, R54, pastErr, pastIds, h0, h1, pastAt_eq]
  · simp only [go_sem, Nat.reduceLT, Nat.reduceAdd, Nat.reduceEqDiff, Nat.reduceLeDiff, Nat.reduceSub, Nat.reduceMul, Int.reduceEq, eq_self, reduceIte, h0]
    refine ret_pure hx ?_
    simp [go_sem, Nat.reduceLT, Nat.reduceAdd, Nat.reduceEqDiff, Nat.reduceLeDiff, Nat.reduceSub, Nat.reduceMul, Int.reduceEq, eq_self, reduceIte, L54, R54, pastErr, pastIds, h0]
def headsErr (l : List Entry) (c : Int) : Int := if checkLog l ≠ 0 then checkLog l else if wthn c 1 7 = false then 3 else 0
def headsIds (l : List Entry) (c : Int) : List Id := if headsErr l c = 0 then sortI (headsC l c) else []
theorem dagHeads_meets (l : List Entry) (c : Int) (hl : l.length ≤ 9223372036854775806) : Meets Tryz.prog 56 [.list (l.map cE), .int .i64 c] [] (.tup [.list ((headsIds l c).map cId), .int .i64 (headsErr l c)]) [] := by
  refine Meets.of_walk Tryz.func56 Tryz.ntmps56 low56 res56 (by simp) fun x hx => ?_
  simp only [go_sem, Nat.reduceLT, Nat.reduceAdd, Nat.reduceEqDiff, Nat.reduceLeDiff, Nat.reduceSub, Nat.reduceMul, Int.reduceEq, eq_self, reduceIte, L56, R56]
  refine ops_call (.pureE (dagCheck_meets l hl) (by simp [go_sem, Nat.reduceLT, Nat.reduceAdd, Nat.reduceEqDiff, Nat.reduceLeDiff, Nat.reduceSub, Nat.reduceMul, Int.reduceEq, eq_self, reduceIte])) ?_
  by_cases h0 : checkLog l = 0
  · have hok := log_ok.1 h0
    simp only [go_sem, Nat.reduceLT, Nat.reduceAdd, Nat.reduceEqDiff, Nat.reduceLeDiff, Nat.reduceSub, Nat.reduceMul, Int.reduceEq, eq_self, reduceIte, h0]
    refine ops_call (.pureE (colors_meets c) (by simp [go_sem, Nat.reduceLT, Nat.reduceAdd, Nat.reduceEqDiff, Nat.reduceLeDiff, Nat.reduceSub, Nat.reduceMul, Int.reduceEq, eq_self, reduceIte])) ?_
    cases h1 : wthn c 1 7
    · simp only [go_sem, Nat.reduceLT, Nat.reduceAdd, Nat.reduceEqDiff, Nat.reduceLeDiff, Nat.reduceSub, Nat.reduceMul, Int.reduceEq, eq_self, reduceIte]
      refine ret_pure hx ?_
      simp [go_sem, Nat.reduceLT, Nat.reduceAdd, Nat.reduceEqDiff, Nat.reduceLeDiff, Nat.reduceSub, Nat.reduceMul, Int.reduceEq, eq_self, reduceIte, L56, R56, headsErr, headsIds, h0, h1]
    · simp only [go_sem, Nat.reduceLT, Nat.reduceAdd, Nat.reduceEqDiff, Nat.reduceLeDiff, Nat.reduceSub, Nat.reduceMul, Int.reduceEq, eq_self, reduceIte]
      refine ops_call (.pureE (top_meets l c hok h1) (by simp [go_sem, Nat.reduceLT, Nat.reduceAdd, Nat.reduceEqDiff, Nat.reduceLeDiff, Nat.reduceSub, Nat.reduceMul, Int.reduceEq, eq_self, reduceIte])) ?_
      simp only [go_sem, Nat.reduceLT, Nat.reduceAdd, Nat.reduceEqDiff, Nat.reduceLeDiff, Nat.reduceSub, Nat.reduceMul, Int.reduceEq, eq_self, reduceIte]
      refine ret_pure hx ?_
      simp [go_sem, Nat.reduceLT, Nat.reduceAdd, Nat.reduceEqDiff, Nat.reduceLeDiff, Nat.reduceSub, Nat.reduceMul, Int.reduceEq, eq_self, reduceIte, L56, R56, headsErr, headsIds, h0, h1]
  · simp only [go_sem, Nat.reduceLT, Nat.reduceAdd, Nat.reduceEqDiff, Nat.reduceLeDiff, Nat.reduceSub, Nat.reduceMul, Int.reduceEq, eq_self, reduceIte, h0]
    refine ret_pure hx ?_
    simp [go_sem, Nat.reduceLT, Nat.reduceAdd, Nat.reduceEqDiff, Nat.reduceLeDiff, Nat.reduceSub, Nat.reduceMul, Int.reduceEq, eq_self, reduceIte, L56, R56, headsErr, headsIds, h0]
def countR (l : List Entry) (r : Int) : Int := if checkLog l = 0 then cntR l r else 0
theorem dagCount_meets (l : List Entry) (hl : l.length ≤ 9223372036854775806) : Meets Tryz.prog 57 [.list (l.map cE)] [] (.tup [.agg [.int .i64 (countR l 0), .int .i64 (countR l 1)], .int .i64 (checkLog l)]) [] := by
  refine Meets.of_walk Tryz.func57 Tryz.ntmps57 low57 res57 (by simp) fun x hx => ?_
  simp only [go_sem, Nat.reduceLT, Nat.reduceAdd, Nat.reduceEqDiff, Nat.reduceLeDiff, Nat.reduceSub, Nat.reduceMul, Int.reduceEq, eq_self, reduceIte, L57, R57]
  refine ops_call (.pureE (dagCheck_meets l hl) (by simp [go_sem, Nat.reduceLT, Nat.reduceAdd, Nat.reduceEqDiff, Nat.reduceLeDiff, Nat.reduceSub, Nat.reduceMul, Int.reduceEq, eq_self, reduceIte])) ?_
  by_cases h0 : checkLog l = 0
  · have hok := log_ok.1 h0
    simp only [go_sem, Nat.reduceLT, Nat.reduceAdd, Nat.reduceEqDiff, Nat.reduceLeDiff, Nat.reduceSub, Nat.reduceMul, Int.reduceEq, eq_self, reduceIte, h0]
    refine ops_call (.pureE (many_meets l hok.reg (by have := hok.len; omega)) (by simp [go_sem, Nat.reduceLT, Nat.reduceAdd, Nat.reduceEqDiff, Nat.reduceLeDiff, Nat.reduceSub, Nat.reduceMul, Int.reduceEq, eq_self, reduceIte])) ?_
    simp only [go_sem, Nat.reduceLT, Nat.reduceAdd, Nat.reduceEqDiff, Nat.reduceLeDiff, Nat.reduceSub, Nat.reduceMul, Int.reduceEq, eq_self, reduceIte]
    refine ret_pure hx ?_
    simp [go_sem, Nat.reduceLT, Nat.reduceAdd, Nat.reduceEqDiff, Nat.reduceLeDiff, Nat.reduceSub, Nat.reduceMul, Int.reduceEq, eq_self, reduceIte, L57, R57, countR, h0]
  · simp only [go_sem, Nat.reduceLT, Nat.reduceAdd, Nat.reduceEqDiff, Nat.reduceLeDiff, Nat.reduceSub, Nat.reduceMul, Int.reduceEq, eq_self, reduceIte, h0]
    refine ret_pure hx ?_
    simp [go_sem, Nat.reduceLT, Nat.reduceAdd, Nat.reduceEqDiff, Nat.reduceLeDiff, Nat.reduceSub, Nat.reduceMul, Int.reduceEq, eq_self, reduceIte, L57, R57, countR, h0]
/-! the same in the law text's words -/
end Go.Proofs.YtfdolehffjmdmaaGreatDoor
/- Pasts and heads in the law text's words: contracts. -/
namespace Go.Proofs.YtfdolehffjmdmaaGreatDoor
set_option linter.unusedSimpArgs false
set_option linter.unusedVariables false
open Go.RowKit
def markL (l : List Entry) (ls : List Id) (M : List Bool) : List Bool := ls.foldl (fun M x => M.set (findE l x).toNat true) M
def markS (l : List Entry) (a i : Nat) (M : List Bool) : List Bool := if i = a ∨ nth M i = true then markL l (nth l i).ls M else M
def marks (l : List Entry) (a : Nat) : Nat → List Bool
  | 0 => List.replicate l.length false
  | s + 1 => markS l a (a - s) (marks l a s)
def marksOf (l : List Entry) (a : Nat) : List Bool := marks l a (a + 1)
theorem markL_length (l : List Entry) : ∀ (ls : List Id) (M : List Bool), (markL l ls M).length = M.length
  | [], _ => rfl
  | x :: ls, M => by
    show (markL l ls (M.set _ true)).length = _
    rw [markL_length l ls]; simp
theorem marks_length (l : List Entry) (a : Nat) : ∀ s, (marks l a s).length = l.length
  | 0 => by simp [marks]
  | s + 1 => by
    simp only [marks, markS]
    split
    · rw [markL_length, marks_length l a s]
    · exact marks_length l a s
end Go.Proofs.YtfdolehffjmdmaaGreatDoor
/- What the entries of a log do (fold.ops), and which of it stands. -/
namespace Go.Proofs.YtfdolehffjmdmaaGreatDoor
set_option linter.unusedSimpArgs false
set_option linter.unusedVariables false
open Go.RowKit
structure FOp where
  id : Id
  k : ByteArray
  v : ByteArray
  p : Bool
deriving Inhabited
def cOp (o : FOp) : List PV := [.int .i64 o.id.r, .int .i64 o.id.n, .str o.k, .str o.v, .bool o.p]
def opE (e : Entry) : Option FOp := if (opOf e.t).1 = 0 then none else some ⟨e.id, (opOf e.t).2.1, (opOf e.t).2.2, decide ((opOf e.t).1 = 1)⟩
def opsL (l : List Entry) (c : Int) : List FOp := (withC l c).filterMap opE
theorem opOf_kind (s : ByteArray) : (opOf s).1 = 0 ∨ (opOf s).1 = 1 ∨ (opOf s).1 = 2 := by
  unfold opOf
  split
  · split
    · exact .inr (.inl rfl)
    · exact .inl rfl
  · split
    · exact .inr (.inr rfl)
    · exact .inl rfl
  · exact .inl rfl
theorem opsL_take {l : List Entry} {k : Nat} (h : k < l.length) : (l.take (k + 1)).filterMap opE = (l.take k).filterMap opE ++ (opE (nth l k)).toList := by
  rw [List.take_add_one, nth_get? _ _ h, List.filterMap_append]
  cases h2 : opE (nth l k) <;> simp [h2]
theorem filterMap_len {α β : Type} (f : α → Option β) (l : List α) : (l.filterMap f).length ≤ l.length := List.length_filterMap_le ..
def standB (ps : List (List Id)) (l : List Entry) (all : List FOp) (o : FOp) : Bool := o.p && !(all.any fun x => decide (x.k = o.k) && hasI (pastAt ps l x.id) o.id)
set_option maxRecDepth 10000 in
set_option maxHeartbeats 4000000 in
theorem ops_meets (l : List Entry) (c : Int) (h : LogOk l) (hc : wthn c 1 7 = true) (ht : ∀ e ∈ l, e.t.size ≤ 4294967000) : Meets Tryz.prog 85 [.list (l.map cE), .int .i64 c] [] (.list ((opsL l c).map cOp)) [] := by
  have hm := h.len
  have hwl := withC_len l c
  have htw : ∀ e ∈ withC l c, e.t.size ≤ 4294967000 := fun e he => ht e (List.mem_filter.1 he).1
  refine Meets.of_walk Tryz.func85 Tryz.ntmps85 low85 res85 (by simp) fun x hx => ?_
  simp only [go_sem, Nat.reduceLT, Nat.reduceAdd, Nat.reduceEqDiff, Nat.reduceLeDiff, Nat.reduceSub, Nat.reduceMul, Int.reduceEq, eq_self, reduceIte, L85, R85]
  refine ops_call (.pure (with_meets l c h hc)) ?_
  simp only [go_sem, Nat.reduceLT, Nat.reduceAdd, Nat.reduceEqDiff, Nat.reduceLeDiff, Nat.reduceSub, Nat.reduceMul, Int.reduceEq, eq_self, reduceIte, List.length_map]
  refine W_weak (weak_own 5 0 131 5 false false rfl (by omega)) ?_
  obtain ⟨W, hW⟩ : ∃ W, withC l c = W := ⟨_, rfl⟩
  rw [opsL, hW]
  rw [hW] at hwl htw
  refine loop_inv [5, 14, 15, 16] 1 (fun n st => ∃ k v : Nat, k + n = W.length ∧
    st = ⟨mkE .top [(5, .arr 0 v), (14, .list (W.map cE)), (15, .int .i64 W.length), (16, .int .i64 k)], [.arr v false false 131 5 (((W.take k).filterMap opE).map cOp)]⟩) W.length (by simp [hx]) (by simp [St.put]) ?_ ?_
  · refine ⟨0, 0, by omega, ?_⟩
    simp [trim_mk, go_sem, Nat.reduceLT, Nat.reduceAdd, Nat.reduceEqDiff, Nat.reduceLeDiff, Nat.reduceSub, Nat.reduceMul, Int.reduceEq, eq_self, reduceIte, subHeap, renObj, pos, List.range_succ]
  · rintro n st ⟨k, v, hk, rfl⟩
    by_cases hlt : k < W.length
    · have hg : W[k]? = some (nth W k) := nth_get? _ _ hlt
      have wk := i64_up (k := k) (by omega)
      have hsz := htw (nth W k) (List.mem_of_getElem? hg)
      have htk := opsL_take hlt
      have hlen := filterMap_len opE (W.take k)
      rw [List.length_take] at hlen
      simp only [go_sem, Nat.reduceLT, Nat.reduceAdd, Nat.reduceEqDiff, Nat.reduceLeDiff, Nat.reduceSub, Nat.reduceMul, Int.reduceEq, eq_self, reduceIte, hlt, hg, cE]
      refine ops_call (.pureE (op_meets (nth W k).t (by omega)) (by simp [go_sem, Nat.reduceLT, Nat.reduceAdd, Nat.reduceEqDiff, Nat.reduceLeDiff, Nat.reduceSub, Nat.reduceMul, Int.reduceEq, eq_self, reduceIte])) ?_
      rcases opOf_kind (nth W k).t with h0 | h1 | h2
      · have hoe : opE (nth W k) = none := by simp [opE, h0]
        rw [hoe] at htk
        simp only [go_sem, Nat.reduceLT, Nat.reduceAdd, Nat.reduceEqDiff, Nat.reduceLeDiff, Nat.reduceSub, Nat.reduceMul, Int.reduceEq, eq_self, reduceIte, Int.ofNat_zero, Int.natCast_one, Int.cast_ofNat_Int, Int.reduceLT, Int.reduceLE, Int.reduceToNat, Nat.reduceLT, Int.toNat_zero, Int.natCast_zero, Int.le_refl, Int.lt_irrefl, Int.reduceAdd, frz, false_or, or_true, cOp4, h0, wk]
        refine ⟨by simp, n - 1, by omega, k + 1, v, by omega, ?_⟩
        rw [htk]
        simp [trim_mk, go_sem, Nat.reduceLT, Nat.reduceAdd, Nat.reduceEqDiff, Nat.reduceLeDiff, Nat.reduceSub, Nat.reduceMul, Int.reduceEq, eq_self, reduceIte, subHeap, renObj, pos, List.range_succ]
      · have hoe : opE (nth W k) = some ⟨(nth W k).id, (opOf (nth W k).t).2.1, (opOf (nth W k).t).2.2, true⟩ := by simp [opE, h1]
        rw [hoe] at htk
        simp only [go_sem, Nat.reduceLT, Nat.reduceAdd, Nat.reduceEqDiff, Nat.reduceLeDiff, Nat.reduceSub, Nat.reduceMul, Int.reduceEq, eq_self, reduceIte, Int.ofNat_zero, Int.natCast_one, Int.cast_ofNat_Int, Int.reduceLT, Int.reduceLE, Int.reduceToNat, Nat.reduceLT, Int.toNat_zero, Int.natCast_zero, Int.le_refl, Int.lt_irrefl, Int.reduceAdd, frz, false_or, or_true, cOp4, h1, wk]
        rw [app_arr rfl rfl (by simp) (by simp; omega)]
        simp only [go_sem, Nat.reduceLT, Nat.reduceAdd, Nat.reduceEqDiff, Nat.reduceLeDiff, Nat.reduceSub, Nat.reduceMul, Int.reduceEq, eq_self, reduceIte, wk]
        refine ⟨by simp, n - 1, by omega, k + 1, v + 1, by omega, ?_⟩
        rw [htk]
        simp [trim_mk, go_sem, Nat.reduceLT, Nat.reduceAdd, Nat.reduceEqDiff, Nat.reduceLeDiff, Nat.reduceSub, Nat.reduceMul, Int.reduceEq, eq_self, reduceIte, subHeap, renObj, renCell, renLeaf, pos, List.range_succ, cOp]
      · have hoe : opE (nth W k) = some ⟨(nth W k).id, (opOf (nth W k).t).2.1, (opOf (nth W k).t).2.2, false⟩ := by simp [opE, h2]
        rw [hoe] at htk
        simp only [go_sem, Nat.reduceLT, Nat.reduceAdd, Nat.reduceEqDiff, Nat.reduceLeDiff, Nat.reduceSub, Nat.reduceMul, Int.reduceEq, eq_self, reduceIte, Int.ofNat_zero, Int.natCast_one, Int.cast_ofNat_Int, Int.reduceLT, Int.reduceLE, Int.reduceToNat, Nat.reduceLT, Int.toNat_zero, Int.natCast_zero, Int.le_refl, Int.lt_irrefl, Int.reduceAdd, frz, false_or, or_true, cOp4, h2, wk]
        rw [app_arr rfl rfl (by simp) (by simp; omega)]
        simp only [go_sem, Nat.reduceLT, Nat.reduceAdd, Nat.reduceEqDiff, Nat.reduceLeDiff, Nat.reduceSub, Nat.reduceMul, Int.reduceEq, eq_self, reduceIte, wk]
        refine ⟨by simp, n - 1, by omega, k + 1, v + 1, by omega, ?_⟩
        rw [htk]
        simp [trim_mk, go_sem, Nat.reduceLT, Nat.reduceAdd, Nat.reduceEqDiff, Nat.reduceLeDiff, Nat.reduceSub, Nat.reduceMul, Int.reduceEq, eq_self, reduceIte, subHeap, renObj, renCell, renLeaf, pos, List.range_succ, cOp]
    · have : W.take k = W := List.take_of_length_le (by omega)
      simp only [go_sem, Nat.reduceLT, Nat.reduceAdd, Nat.reduceEqDiff, Nat.reduceLeDiff, Nat.reduceSub, Nat.reduceMul, Int.reduceEq, eq_self, reduceIte, hlt, this]
      refine ret_pure hx ?_
      simp [go_sem, Nat.reduceLT, Nat.reduceAdd, Nat.reduceEqDiff, Nat.reduceLeDiff, Nat.reduceSub, Nat.reduceMul, Int.reduceEq, eq_self, reduceIte, L85, R85, frzAt, pos]
theorem raw11_meets (l : List Entry) (ps : List (List Id)) (o y : FOp) (hl : l.length ≤ 9223372036854775806) (h0 : 0 ≤ findE l y.id) (h1 : findE l y.id < ps.length) (h2 : (pastAt ps l y.id).length ≤ 9223372036854775806) :
    Meets Tryz.prog 90 [.agg (cOp y), .rptr (cOp o), .rptr [pvPasts l ps]] [] (.bool (decide (y.k = o.k) && hasI (pastAt ps l y.id) o.id)) [] := by
  refine Meets.of_walk Tryz.func90 Tryz.ntmps90 low90 res90 (by simp) fun x hx => ?_
  simp only [go_sem, Nat.reduceLT, Nat.reduceAdd, Nat.reduceEqDiff, Nat.reduceLeDiff, Nat.reduceSub, Nat.reduceMul, Int.reduceEq, eq_self, reduceIte, L90, R90, cOp]
  by_cases hk : y.k = o.k
  · simp only [go_sem, Nat.reduceLT, Nat.reduceAdd, Nat.reduceEqDiff, Nat.reduceLeDiff, Nat.reduceSub, Nat.reduceMul, Int.reduceEq, eq_self, reduceIte, hk, decide_true, cOp]
    refine ops_call (.pureE (ahead_meets l ps o.id y.id hl h0 h1 h2) (by simp [go_sem, Nat.reduceLT, Nat.reduceAdd, Nat.reduceEqDiff, Nat.reduceLeDiff, Nat.reduceSub, Nat.reduceMul, Int.reduceEq, eq_self, reduceIte, cId, pvPasts])) ?_
    simp only [go_sem, Nat.reduceLT, Nat.reduceAdd, Nat.reduceEqDiff, Nat.reduceLeDiff, Nat.reduceSub, Nat.reduceMul, Int.reduceEq, eq_self, reduceIte]
    refine ret_pure hx ?_
    simp [go_sem, Nat.reduceLT, Nat.reduceAdd, Nat.reduceEqDiff, Nat.reduceLeDiff, Nat.reduceSub, Nat.reduceMul, Int.reduceEq, eq_self, reduceIte, L90, R90, hk]
  · simp only [go_sem, Nat.reduceLT, Nat.reduceAdd, Nat.reduceEqDiff, Nat.reduceLeDiff, Nat.reduceSub, Nat.reduceMul, Int.reduceEq, eq_self, reduceIte, hk, decide_false, cOp]
    refine ret_pure hx ?_
    simp [go_sem, Nat.reduceLT, Nat.reduceAdd, Nat.reduceEqDiff, Nat.reduceLeDiff, Nat.reduceSub, Nat.reduceMul, Int.reduceEq, eq_self, reduceIte, L90, R90]
end Go.Proofs.YtfdolehffjmdmaaGreatDoor
/- Puts that stand: slices asked by a function at what entries do. -/
namespace Go.Proofs.YtfdolehffjmdmaaGreatDoor
set_option linter.unusedSimpArgs false
set_option linter.unusedVariables false
open Go.RowKit
theorem indexOp_meets (l : List FOp) (g : Nat) (caps : List PV) (Hs : List AObj) (p : FOp → Bool) (hg : hasBody Tryz.prog g = true) (hl : l.length ≤ 9223372036854775806) (hc : ClosedH Hs caps)
    (hp : ∀ e ∈ l, Meets Tryz.prog g (.agg (cOp e) :: caps) Hs (.bool (p e)) Hs) :
    Meets Tryz.prog 130 [.list (l.map cOp), .clo g caps] Hs (.int .i64 (idxF p l 0)) Hs := by
  refine Meets.of_walk Tryz.func130 Tryz.ntmps130 low130 res130 (by simp) fun x hx => ?_
  simp only [go_sem, Nat.reduceLT, Nat.reduceAdd, Nat.reduceEqDiff, Nat.reduceLeDiff, Nat.reduceSub, Nat.reduceMul, Int.reduceEq, eq_self, reduceIte, L130, R130]
  refine loop_keep [0, 1, 7, 8] (fun n st => ∃ k : Nat, k + n = l.length ∧ idxF p (l.drop k) k = idxF p l 0 ∧
    st = ⟨mkE .top [(0, .list (l.map cOp)), (1, .clo g caps), (7, .int .i64 l.length), (8, .int .i64 k)], Hs⟩) l.length ?_ ?_
  · refine ⟨0, by omega, by simp, ?_⟩
    simp [keep_mk, go_sem, Nat.reduceLT, Nat.reduceAdd, Nat.reduceEqDiff, Nat.reduceLeDiff, Nat.reduceSub, Nat.reduceMul, Int.reduceEq, eq_self, reduceIte]
  · rintro n st ⟨k, hk, hi, rfl⟩
    by_cases hlt : k < l.length
    · have hgt : l[k]? = some (nth l k) := nth_get? _ _ hlt
      have wk := i64_up (k := k) (by omega)
      rw [idxF_drop p l k hlt] at hi
      simp only [go_sem, Nat.reduceLT, Nat.reduceAdd, Nat.reduceEqDiff, Nat.reduceLeDiff, Nat.reduceSub, Nat.reduceMul, Int.reduceEq, eq_self, reduceIte, hlt, hgt, cOp, cId]
      refine ops_callv rfl hg (.whole (hp (nth l k) (by rw [nth_eq _ _ hlt]; exact List.getElem_mem hlt)) rfl ?_ hc.sub hc.back) ?_
      · simp only [go_sem, Nat.reduceLT, Nat.reduceAdd, Nat.reduceEqDiff, Nat.reduceLeDiff, Nat.reduceSub, Nat.reduceMul, Int.reduceEq, eq_self, reduceIte, cOp, cId]
        rw [hc.caps]
      cases hpk : p (nth l k)
      · rw [if_neg (by simp [hpk])] at hi
        simp only [go_sem, Nat.reduceLT, Nat.reduceAdd, Nat.reduceEqDiff, Nat.reduceLeDiff, Nat.reduceSub, Nat.reduceMul, Int.reduceEq, eq_self, reduceIte, wk]
        exact ⟨n - 1, by omega, k + 1, by omega, hi, by simp [keep_mk, go_sem, Nat.reduceLT, Nat.reduceAdd, Nat.reduceEqDiff, Nat.reduceLeDiff, Nat.reduceSub, Nat.reduceMul, Int.reduceEq, eq_self, reduceIte]⟩
      · rw [if_pos hpk] at hi
        simp only [go_sem, Nat.reduceLT, Nat.reduceAdd, Nat.reduceEqDiff, Nat.reduceLeDiff, Nat.reduceSub, Nat.reduceMul, Int.reduceEq, eq_self, reduceIte]
        refine ret_scal hx rfl hc.kept ?_
        simp [go_sem, Nat.reduceLT, Nat.reduceAdd, Nat.reduceEqDiff, Nat.reduceLeDiff, Nat.reduceSub, Nat.reduceMul, Int.reduceEq, eq_self, reduceIte, L130, R130, hi]
    · have : l.drop k = [] := List.drop_eq_nil_of_le (by omega)
      rw [this] at hi
      simp only [go_sem, Nat.reduceLT, Nat.reduceAdd, Nat.reduceEqDiff, Nat.reduceLeDiff, Nat.reduceSub, Nat.reduceMul, Int.reduceEq, eq_self, reduceIte, hlt]
      refine ret_scal hx rfl hc.kept ?_
      simp [go_sem, Nat.reduceLT, Nat.reduceAdd, Nat.reduceEqDiff, Nat.reduceLeDiff, Nat.reduceSub, Nat.reduceMul, Int.reduceEq, eq_self, reduceIte, L130, R130, ← hi, idxF]
theorem contFOp_meets (l : List FOp) (g : Nat) (caps : List PV) (Hs : List AObj) (p : FOp → Bool) (hg : hasBody Tryz.prog g = true) (hl : l.length ≤ 9223372036854775806) (hc : ClosedH Hs caps)
    (hp : ∀ e ∈ l, Meets Tryz.prog g (.agg (cOp e) :: caps) Hs (.bool (p e)) Hs) :
    Meets Tryz.prog 89 [.list (l.map cOp), .clo g caps] Hs (.bool (l.any p)) Hs := by
  refine Meets.of_walk Tryz.func89 Tryz.ntmps89 low89 res89 (by simp) fun x hx => ?_
  simp only [go_sem, Nat.reduceLT, Nat.reduceAdd, Nat.reduceEqDiff, Nat.reduceLeDiff, Nat.reduceSub, Nat.reduceMul, Int.reduceEq, eq_self, reduceIte, L89, R89]
  refine ops_call (.whole (indexOp_meets l g caps Hs p hg hl hc hp) rfl ?_ hc.sub hc.back) ?_
  · simp only [go_sem, Nat.reduceLT, Nat.reduceAdd, Nat.reduceEqDiff, Nat.reduceLeDiff, Nat.reduceSub, Nat.reduceMul, Int.reduceEq, eq_self, reduceIte]
    rw [hc.leaf]
  simp only [go_sem, Nat.reduceLT, Nat.reduceAdd, Nat.reduceEqDiff, Nat.reduceLeDiff, Nat.reduceSub, Nat.reduceMul, Int.reduceEq, eq_self, reduceIte]
  refine ret_scal hx rfl hc.kept ?_
  simp [go_sem, Nat.reduceLT, Nat.reduceAdd, Nat.reduceEqDiff, Nat.reduceLeDiff, Nat.reduceSub, Nat.reduceMul, Int.reduceEq, eq_self, reduceIte, L89, R89, idxF_any]
theorem closedCaps {caps : List PV} (h1 : caps.map (renLeaf true (pos (List.range 0)) (frzAt false [])) = caps) (h2 : caps.map (ren true (pos (List.range 0)) (frzAt false [])) = caps) : ClosedH [] caps := ⟨h1, h2, rfl, rfl, rfl⟩
theorem fraw1_meets (l : List Entry) (ps : List (List Id)) (all : List FOp) (o : FOp) (hl : l.length ≤ 9223372036854775806) (ha : all.length ≤ 9223372036854775806)
    (h : ∀ y ∈ all, 0 ≤ findE l y.id ∧ findE l y.id < ps.length ∧ (pastAt ps l y.id).length ≤ 9223372036854775806) :
    Meets Tryz.prog 88 [.agg (cOp o), .rptr [.list (all.map cOp)], .rptr [pvPasts l ps]] [] (.bool (!standB ps l all o)) [] := by
  have hc := contFOp_meets all 90 [.rptr (cOp o), .rptr [pvPasts l ps]] [] (fun y => decide (y.k = o.k) && hasI (pastAt ps l y.id) o.id) (by kernel_rfl) ha
    (closedCaps (by simp [renLeaf, cOp, pvPasts]) (by simp [ren, renT, renCell, renLeaf, cOp, pvPasts])) (fun y hy => raw11_meets l ps o y hl (h y hy).1 (h y hy).2.1 (h y hy).2.2)
  refine Meets.of_walk Tryz.func88 Tryz.ntmps88 low88 res88 (by simp) fun x hx => ?_
  simp only [go_sem, Nat.reduceLT, Nat.reduceAdd, Nat.reduceEqDiff, Nat.reduceLeDiff, Nat.reduceSub, Nat.reduceMul, Int.reduceEq, eq_self, reduceIte, L88, R88, cOp]
  cases hp : o.p
  · simp only [go_sem, Nat.reduceLT, Nat.reduceAdd, Nat.reduceEqDiff, Nat.reduceLeDiff, Nat.reduceSub, Nat.reduceMul, Int.reduceEq, eq_self, reduceIte]
    refine ret_pure hx ?_
    simp [go_sem, Nat.reduceLT, Nat.reduceAdd, Nat.reduceEqDiff, Nat.reduceLeDiff, Nat.reduceSub, Nat.reduceMul, Int.reduceEq, eq_self, reduceIte, L88, R88, standB, hp]
  · simp only [go_sem, Nat.reduceLT, Nat.reduceAdd, Nat.reduceEqDiff, Nat.reduceLeDiff, Nat.reduceSub, Nat.reduceMul, Int.reduceEq, eq_self, reduceIte]
    refine ops_call (.lookE hc rfl (by simp [go_sem, Nat.reduceLT, Nat.reduceAdd, Nat.reduceEqDiff, Nat.reduceLeDiff, Nat.reduceSub, Nat.reduceMul, Int.reduceEq, eq_self, reduceIte, lookF, lookN, cOp, pvPasts, hp])) ?_
    simp only [go_sem, Nat.reduceLT, Nat.reduceAdd, Nat.reduceEqDiff, Nat.reduceLeDiff, Nat.reduceSub, Nat.reduceMul, Int.reduceEq, eq_self, reduceIte]
    refine ret_pure hx ?_
    simp [go_sem, Nat.reduceLT, Nat.reduceAdd, Nat.reduceEqDiff, Nat.reduceLeDiff, Nat.reduceSub, Nat.reduceMul, Int.reduceEq, eq_self, reduceIte, L88, R88, standB, hp]
end Go.Proofs.YtfdolehffjmdmaaGreatDoor
/- Contracts of functions whose last pieces are no lowered code: these are shown by hand. -/
namespace Go.Proofs.YtfdolehffjmdmaaGreatDoor
open Go.RowKit
def flatC : Code → List Code
  | .seq a b => flatC a ++ flatC b
  | c => [c]
def lowAll (P : Program) (nt : Nat) : List Code → Option (List LC)
  | [] => some []
  | c :: l => match lowerCode P nt c, lowAll P nt l with
    | some a, some r => some (a :: r)
    | _, _ => none
def WPL (P : Program) : List Code → (Exit → Act → World → Prop) → Act → World → Prop
  | [], Q, a, w => Q .normal a w
  | c :: l, Q, a, w => c.wp P (Exit.then (WPL P l Q) Q) a w
section
variable {P : Program} {x : Cx} {nt : Nat} {st : St}
theorem then_mono {n n' : Act → World → Prop} {Q Q' : Exit → Act → World → Prop} (hn : ∀ a w, n a w → n' a w) (hq : ∀ e a w, Q e a w → Q' e a w) (e : Exit) (a : Act) (w : World) (h : Exit.then n Q e a w) : Exit.then n' Q' e a w := by
  cases e with
  | normal => exact hn _ _ h
  | _ => exact hq _ _ _ h
theorem WPL_mono : ∀ {l : List Code} {Q Q' : Exit → Act → World → Prop} {a : Act} {w : World}, WPL P l Q a w → (∀ e a w, Q e a w → Q' e a w) → WPL P l Q' a w
  | [], _, _, _, _, h, hq => hq _ _ _ h
  | c :: l, Q, Q', a, w, h, hq => wp_mono (c := c) h fun e a' w' h' => then_mono (fun _ _ h2 => WPL_mono (l := l) h2 hq) hq e a' w' h'
theorem WPL_app : ∀ {l1 l2 : List Code} {Q : Exit → Act → World → Prop} {a : Act} {w : World}, WPL P (l1 ++ l2) Q a w → WPL P l1 (Exit.then (WPL P l2 Q) Q) a w
  | [], _, _, _, _, h => h
  | c :: l1, l2, Q, a, w, h => wp_mono (c := c) h fun e a' w' h' => by
      cases e with
      | normal => exact WPL_app (l1 := l1) h'
      | _ => exact h'
theorem WPL_join : ∀ {l1 l2 : List Code} {Q : Exit → Act → World → Prop} {a : Act} {w : World}, WPL P l1 (Exit.then (WPL P l2 Q) Q) a w → WPL P (l1 ++ l2) Q a w
  | [], _, _, _, _, h => h
  | c :: l1, l2, Q, a, w, h => wp_mono (c := c) h fun e a' w' h' => by
      cases e with
      | normal => exact WPL_join (l1 := l1) h'
      | _ => exact h'
theorem wp_one {c : Code} {Q : Exit → Act → World → Prop} {a : Act} {w : World} (h : WPL P [c] Q a w) : c.wp P Q a w := wp_mono (c := c) h fun e a' w' h' => by cases e <;> exact h'
theorem wp_flat : ∀ {c : Code} {Q : Exit → Act → World → Prop} {a : Act} {w : World}, WPL P (flatC c) Q a w → c.wp P Q a w
  | .seq c1 c2, Q, a, w, h => by
    rw [flatC] at h
    refine wp_seq (wp_flat (c := c1) (WPL_mono (WPL_app h) fun e a' w' h' => ?_))
    cases e with
    | normal => exact wp_flat (c := c2) h'
    | _ => exact h'
  | .skip, _, _, _, h => wp_one h
  | .region .., _, _, _, h => wp_one h
  | .cond .., _, _, _, h => wp_one h
  | .block .., _, _, _, h => wp_one h
  | .loop .., _, _, _, h => wp_one h
  | .exit .., _, _, _, h => wp_one h
  | .ret, _, _, _, h => wp_one h
  | .rangeFunc .., _, _, _, h => wp_one h
  | .scope .., _, _, _, h => wp_one h
  | .label .., _, _, _, h => wp_one h
  | .goto .., _, _, _, h => wp_one h
  | .refuse .., _, _, _, h => wp_one h
theorem WPL_low : ∀ {l : List Code} {ll : List LC} {Q : AE → St → Prop} {st : St} {a : Act} {w : World}, lowAll P nt l = some ll → WL P x nt ll Q st → Rel x nt st a w → WPL P l (postOf x nt Q) a w
  | [], ll, Q, st, a, w, h, hw, hr => by cases h; exact ⟨st, hw, hr⟩
  | c :: l, ll, Q, st, a, w, h, hw, hr => by
    rw [lowAll] at h
    split at h <;> try (cases h; done)
    rename_i lc r h1 h2
    cases h
    refine wp_mono (hw c h1 a w hr) fun e a' w' hq => ?_
    cases e with
    | normal => obtain ⟨st', g1, g2⟩ := hq; exact WPL_low (l := l) h2 g1 g2
    | exit id => exact hq
    | ret => exact hq
    | goto l => exact hq.elim
    | panic ch => exact hq.elim
    | outgrown => exact hq.elim
theorem wl_value {ops : Array Oper} {Q : Exit → Act → World → Prop} {o : Oper} {rest : List Oper} {a : Act} {w w' : World} {v : Value} (hg : o.guard = none) (hex : (execOp a.eval o).run P w = .ok (.value v) w') (h : wpList P ops Q rest (a.put o.dst v) w') : wpList P ops Q (o :: rest) a w := by
  unfold wpList
  rw [if_pos (by simp [Region.wanted, hg])]
  refine .inl ?_
  unfold Oper.wp
  rw [hex]
  exact h
theorem Meets.of_code {f : Nat} {fn : Func} {c : Code} {lrs : List LRes} {args : List PV} {Hs Hs' : List AObj} {r : PV} {nt : Nat} (hf : P.funcs[f]? = some fn) (hnt : fn.ntmps = nt) (hb : fn.body = some c) (hres : lowerRes P fn.results.toList = some lrs)
    (hargs : args.length ≤ nt)
    (h : ∀ x : Cx, x.H0 = Hs → ∀ a w, Rel x nt (St.init args Hs) a w → c.wp P (postOf x nt (retQ x nt lrs r Hs')) a w) : Meets P f args Hs r Hs' := by
  intro x vs hx hr hp
  have hvl : vs.size = args.length := by have := hp.1; simpa using this
  refine calls_of_wp hf hb ?_
  have hrel : Rel x nt (St.init args Hs) { tmps := vs ++ Array.replicate (fn.ntmps - vs.size) Go.undef, defers := [] } x.w0 := by
    refine ⟨⟨x.C0, hr, fun t => ?_⟩, rfl, by simp; omega⟩
    simp only [St.init]
    by_cases ht : t < args.length
    · have e1 : args[t]? = some args[t] := List.getElem?_eq_getElem ht
      have e2 : vs.toList[t]? = some vs[t] := by simp [ht, hvl]
      have := hp.2 t _ _ e1 e2
      simp only [List.getD, e1, Option.getD_some]
      rw [show (vs ++ Array.replicate (fn.ntmps - vs.size) Go.undef).getD t Go.undef = vs[t] by
        simp [Array.getD, Array.getElem_append, hvl, ht]; omega]
      exact this
    · simp only [List.getD, List.getElem?_eq_none (by omega : args.length ≤ t), Option.getD_none]
      rw [show (vs ++ Array.replicate (fn.ntmps - vs.size) Go.undef).getD t Go.undef = Go.undef by
        simp only [Array.getD]
        split
        · rw [Array.getInternal_eq_getElem, Array.getElem_append_right (by omega)]; simp
        · rfl]
      exact .undef
  have fin : ∀ st a w, (∃ st' keep, Weak x nt st st' ∧ Ends x lrs keep r Hs' st') → Rel x nt st a w → a.defers = [] ∧ ∃ v, (results fn a.tmps).run P w = .ok v w ∧ ∃ v1 C', Ending.returned v = .returned v1 ∧ HR x C' Hs' w ∧ RepV (Stab x C' Hs' w) w C' r v1 := by
    intro st a w ⟨st', keep, hwk, ps, h1, h2, h3, h4, h5, h6⟩ hrel
    replace hrel := hwk a w hrel
    obtain ⟨⟨C, hr1, he⟩, hdf, hsz⟩ := hrel
    obtain ⟨us, k1, k2⟩ := evalRes_run hr1 he hres h1
    refine ⟨hdf, if h : us.toArray.size = 1 then us.toArray[0] else .tuple us.toArray, ?_, if h : us.toArray.size = 1 then us.toArray[0] else .tuple us.toArray, C.sub (List.range x.H0.length ++ keep), rfl, ?_⟩
    · have hm : (fn.results.mapM (resVal a.tmps)).run P w = .ok us.toArray w := by
        rw [Array.mapM_eq_mapM_toList]
        simp [k1]
      have hq : results fn a.tmps = (do let vs ← fn.results.mapM (resVal a.tmps); pure (if h : vs.size = 1 then vs[0] else .tuple vs)) := rfl
      rw [hq, Sem.run_bind, hm, Result.andThen_ok, Sem.run_pure]
    · have hlen : (List.range x.H0.length ++ keep).Nodup := by
        refine List.nodup_append.2 ⟨List.nodup_range, h2, fun a ha b hb e => ?_⟩
        have := List.mem_range.1 ha
        have := (h3 b hb).1
        omega
      obtain ⟨q1, q2⟩ := hr1.restrict (ks := List.range x.H0.length ++ keep) hlen (fun k hk => by
          rcases List.mem_append.1 hk with h | h
          · have := List.mem_range.1 h; omega
          · exact (h3 k h).2) (fun i hi => by rw [List.getElem?_append_left (by simpa using hi), List.getElem?_range hi])
      subst h5
      subst h6
      exact ⟨q1, renT_rep q2 (tupOf_rep k2)⟩
  refine wp_mono (h x hx _ _ hrel) fun e a w hq => ?_
  cases e with
  | normal => obtain ⟨st, g1, g2⟩ := hq; exact fin st a w g1 g2
  | ret => obtain ⟨st, g1, g2⟩ := hq; exact fin st a w g1 g2
  | exit id => obtain ⟨st, g1, g2⟩ := hq; exact g1.elim
  | goto l => exact hq.elim
  | panic ch => exact hq.elim
  | outgrown => exact hq.elim
theorem Meets.of_tail {f : Nat} {fn : Func} {c : Code} {l1 l2 : List Code} {ll : List LC} {lrs : List LRes} {args : List PV} {Hs Hs' : List AObj} {r : PV} {nt : Nat} (hf : P.funcs[f]? = some fn) (hnt : fn.ntmps = nt) (hb : fn.body = some c) (hfl : flatC c = l1 ++ l2)
    (hlow : lowAll P nt l1 = some ll) (hres : lowerRes P fn.results.toList = some lrs) (hargs : args.length ≤ nt) (K : Cx → St → Prop)
    (h : ∀ x : Cx, x.H0 = Hs → WL P x nt ll (thenQ (K x) (retQ x nt lrs r Hs')) ⟨mkE .undef (idxE 0 args), Hs⟩)
    (hK : ∀ x : Cx, x.H0 = Hs → ∀ st, K x st → ∀ a w, Rel x nt st a w → WPL P l2 (postOf x nt (retQ x nt lrs r Hs')) a w) : Meets P f args Hs r Hs' :=
  Meets.of_code hf hnt hb hres hargs fun x hx a w hr => wp_flat (by
    rw [hfl]
    refine WPL_join (WPL_mono (WPL_low hlow (h x hx) (by rw [← init_mk]; exact hr)) fun e a' w' hq => ?_)
    cases e with
    | normal => obtain ⟨st, g1, g2⟩ := hq; exact hK x hx st g1 a' w' g2
    | exit id => exact hq
    | ret => exact hq
    | goto l => exact hq
    | panic ch => exact hq
    | outgrown => exact hq)
end
end Go.Proofs.YtfdolehffjmdmaaGreatDoor
/- Lowered pieces of functions whose last pieces are shown by hand (printed by a program). -/
namespace Go.Proofs.YtfdolehffjmdmaaGreatDoor
set_option maxRecDepth 100000 in
def LL86 : List LC := [(.reg none [.q 4 (.mv (.val .nilsl))]), (.reg none [.q 8 (.mv (.tmp 0)), .q 9 (.mv (.tmp 1)), .q 10 (.call 130 [.tmp 8, .tmp 9] 0), .q 5 (.mv (.tmp 10))]), (.reg none [.q 11 (.mv (.tmp 5)), .q 12 (.bin .eql (.tmp 11) (.val (.int .i64 (-1))))]), (.cond (.tmp 12) (.seq (.reg none [.q 13 (.mv (.tmp 0)), .q 4 (.mv (.tmp 13))]) .ret) .skip), (.reg none [.q 14 (.mv (.tmp 5)), .q 15 (.bin .add (.tmp 14) (.val (.int .i64 1))), .q 6 (.mv (.tmp 15))]), (.block 0 (.loop (.seq (.seq (.reg none [.q 16 (.mv (.tmp 6)), .q 17 (.mv (.tmp 0)), .q 18 (.len false (.tmp 17)), .q 19 (.bin .lss (.tmp 16) (.tmp 18))]) (.cond (.tmp 19) .skip (.exit 0))) (.seq (.block 1 (.seq (.reg none [.q 22 (.mv (.tmp 0)), .q 23 (.mv (.tmp 6)), .q 24 (.iaddrS 5 (.tmp 22) (.tmp 23)), .q 25 (.load 5 true (.tmp 24)), .q 7 (.alloc [.int .i64 0, .int .i64 0, .str ⟨#[]⟩, .str ⟨#[]⟩, (.bool false)]), .s (.store 5 (.tmp 7) (.tmp 25))]) (.seq (.reg none [.q 26 (.mv (.tmp 1)), .q 27 (.load 5 true (.tmp 7)), .q 28 (.callv (.tmp 26) [.tmp 27]), .q 29 (.not (.tmp 28))]) (.cond (.tmp 29) (.seq (.reg none [.q 30 (.mv (.tmp 0)), .q 31 (.mv (.tmp 5)), .q 32 (.load 5 true (.tmp 7)), .q 33 (.iaddrS 5 (.tmp 30) (.tmp 31)), .s (.store 5 (.tmp 33) (.tmp 32))]) (.reg none [.q 34 (.mv (.tmp 5)), .q 35 (.bin .add (.tmp 34) (.val (.int .i64 1))), .q 5 (.mv (.tmp 35))])) .skip)))) (.reg none [.q 20 (.mv (.tmp 6)), .q 21 (.bin .add (.tmp 20) (.val (.int .i64 1))), .q 6 (.mv (.tmp 21))])))))]
def R86 : List LRes := [.tmp 4]
theorem lowl86 : lowAll Tryz.prog 42 ((flatC (Tryz.f86.body.getD .skip)).take 6) = some LL86 := by kernel_rfl
theorem body86 : Tryz.f86.body = some (Tryz.f86.body.getD .skip) := by kernel_rfl
theorem res86 : lowerRes Tryz.prog Tryz.f86.results.toList = some R86 := by kernel_rfl
end Go.Proofs.YtfdolehffjmdmaaGreatDoor
/- slices.DeleteFunc at what entries do: what is left stands in the same array. -/
namespace Go.Proofs.YtfdolehffjmdmaaGreatDoor
set_option linter.unusedSimpArgs false
set_option linter.unusedVariables false
open Go.RowKit
theorem filter_take {α : Type} [Inhabited α] {l : List α} {k : Nat} (p : α → Bool) (h : k < l.length) : (l.take (k + 1)).filter p = (l.take k).filter p ++ if p (nth l k) = true then [nth l k] else [] := by
  rw [List.take_add_one, nth_get? _ _ h, List.filter_append]
  by_cases h2 : p (nth l k) = true <;> simp [h2]
def delTail : List Code := [.region 11 #[⟨some 36, .move (.tmp 0), 127, "slices.go:253", #[], none⟩, ⟨some 37, .move (.tmp 5), 3, "slices.go:253", #[], none⟩, ⟨some 38, .slice 127 (.tmp 36) (some (.tmp 37)) none none, 127, "slices.go:253", #[⟨0, .data⟩, ⟨1, .data⟩], none⟩, ⟨none, .call ⟨.builtin .clear, #[.tmp 38], #[127]⟩, 0, "slices.go:253", #[⟨2, .data⟩], none⟩] false,
  .region 12 #[⟨some 39, .move (.tmp 0), 127, "slices.go:254", #[], none⟩, ⟨some 40, .move (.tmp 5), 3, "slices.go:254", #[], none⟩, ⟨some 41, .slice 127 (.tmp 39) none (some (.tmp 40)) none, 127, "slices.go:254", #[⟨0, .data⟩, ⟨1, .data⟩], none⟩, ⟨some 4, .assign (.tmp 41), 127, "slices.go:254", #[⟨2, .data⟩, ⟨0, .phase⟩, ⟨1, .phase⟩, ⟨2, .phase⟩], none⟩] false, .ret]
theorem und_ops : Tryz.prog.underlying 127 = some (.slice 131) := by kernel_rfl
set_option maxHeartbeats 2000000 in
theorem del_tail {x : Cx} {st : St} {rows : List (List PV)} {v i : Nat} (h0 : st.env 0 = .arr 0 v) (h5 : st.env 5 = .int .i64 i) (hh : st.heap = [.arr v true false 131 5 rows]) (hi : i < rows.length)
    {Q : AE → St → Prop} (hQ : ∀ st' : St, st'.env 4 = .arr 0 (v + 1) → st'.heap = [.arr (v + 1) true false 131 5 (rows.take i)] → Q .ret st') : ∀ a w, Rel x 42 st a w → WPL Tryz.prog delTail (postOf x 42 Q) a w := by
  intro a w ⟨⟨C, hr, he⟩, hdf, hsz⟩
  have e0 := he 0
  have e5 := he 5
  rw [h0] at e0
  rw [h5] at e5
  have e5 := e5.int_inv
  rw [hh] at hr
  obtain ⟨q1, q2, q3⟩ := hr.row (id := 0) rfl (by rw [hh] at e0; exact e0)
  rcases q3 with ⟨-, rfl⟩ | ⟨g, cap, cur, r1, r2, r3, r4, r5, r6⟩
  · simp at hi
  have hcell : ∀ t, t < rows.length * 5 → (x.w0 = x.w0) ∧ (w.cell? ⟨g, t, none⟩).isSome = true ∧ w.frozen? ⟨g, t, none⟩ = false := by
    intro t ht
    have : t < cur.size := by rw [r5]; omega
    exact ⟨rfl, by simp [World.cell?, r2, this], by simp [World.frozen?, r2]⟩
  obtain ⟨z, hz1, hz2, hz3⟩ : ∃ z, (∀ w, (zeroValue 131).run Tryz.prog w = .ok z w) ∧ z.cells.size = 5 ∧ ∀ u ∈ z.cells, u.oneCell' = true := ⟨.agg #[.int .i64 0, .int .i64 0, .string ⟨#[]⟩, .string ⟨#[]⟩, .bool false], fun w => by kernel_rfl, rfl, by
    intro u hu
    simp [Value.cells] at hu
    rcases hu with rfl | rfl | rfl | rfl <;> rfl⟩
  obtain ⟨zs, hzl, hcl⟩ := run_clear_cells (P := Tryz.prog) w 127 131 0 z und_ops hz1 hz3 g (i * 5) (rows.length - i) (cap - i) (by omega)
    (fun j hj => (hcell (i * 5 + j) (by rw [hz2] at hj; omega)).2.1) (fun j hj => (hcell (i * 5 + j) (by rw [hz2] at hj; omega)).2.2)
  rw [hz2] at hzl
  obtain ⟨cs', c1, c2, c3⟩ := setCells_heap g zs (i * 5) w cur r2 (by rw [hzl, r5]; omega)
  have hown : (C.sv 0).ownBlock = some g := by rw [← q1, r1]; rfl
  obtain ⟨C', k1, k2, k3⟩ := hr.rerow (id := 0) (v' := v + 1) (g' := g) (cap' := cap) (rows' := rows.take i) (cur' := cs') rfl (setCells_step g zs (i * 5) w hown) (.inl hown) (.inr (by omega)) c1
    (by rw [List.length_take]; omega) r4 (by rw [c2, r5]) (fun row hrow => q2 row (List.mem_of_mem_take hrow)) (fun k row j p u a1 a2 a3 => by
      rw [List.getElem?_take] at a1
      split at a1
      · rename_i hk
        have hj : j < 5 := by rw [← q2 row (List.mem_of_getElem? a1)]; exact (List.getElem?_eq_some_iff.1 a2).1
        rw [c3, if_neg (by omega)] at a3
        obtain ⟨y, y1, y2, y3⟩ := r6 k row j p a1 a2
        rw [y1] at a3; cases a3
        exact ⟨y2, y3⟩
      · cases a1)
  rw [List.length_take, Nat.min_eq_left (by omega)] at k3
  have g0 : ∀ (b : Act), b.tmps.size = 42 → ∀ (d : Nat) (u : Value) (t : Nat), d < 42 → (b.put (some d) u).tmps.getD t Go.undef = if t = d then u else b.tmps.getD t Go.undef := by
    intro b hb d u t hd
    simp only [Act.put]
    by_cases e : t = d
    · subst e; simp [Array.getD, hb, hd]
    · rw [if_neg e]
      by_cases ht : t < b.tmps.size
      · simp [Array.getD, ht, Array.getElem_setIfInBounds_ne, Ne.symm e]
      · simp [Array.getD, ht]
  have gs : ∀ (b : Act), b.tmps.size = 42 → ∀ d u, (b.put d u).tmps.size = 42 := by
    intro b hb d u
    cases d <;> simp [Act.put, hb]
  have hu0 : a.tmps.getD 0 Go.undef = .slice (some ⟨g, 0, none⟩) rows.length cap := r1
  obtain ⟨a1, ha1⟩ : ∃ a1, a.put (some 36) (.slice (some ⟨g, 0, none⟩) rows.length cap) = a1 := ⟨_, rfl⟩
  have s1 : a1.tmps.size = 42 := by rw [← ha1]; exact gs _ hsz _ _
  have t1 : ∀ t, a1.tmps.getD t Go.undef = if t = 36 then .slice (some ⟨g, 0, none⟩) rows.length cap else a.tmps.getD t Go.undef := fun t => by rw [← ha1]; exact g0 _ hsz _ _ _ (by omega)
  obtain ⟨a2, ha2⟩ : ∃ a2, a1.put (some 37) (.int .i64 i) = a2 := ⟨_, rfl⟩
  have s2 : a2.tmps.size = 42 := by rw [← ha2]; exact gs _ s1 _ _
  have t2 : ∀ t, a2.tmps.getD t Go.undef = if t = 37 then .int .i64 i else a1.tmps.getD t Go.undef := fun t => by rw [← ha2]; exact g0 _ s1 _ _ _ (by omega)
  obtain ⟨a3, ha3⟩ : ∃ a3, a2.put (some 38) (.slice (some ⟨g, i * 5, none⟩) (rows.length - i) (cap - i)) = a3 := ⟨_, rfl⟩
  have s3 : a3.tmps.size = 42 := by rw [← ha3]; exact gs _ s2 _ _
  have t3 : ∀ t, a3.tmps.getD t Go.undef = if t = 38 then .slice (some ⟨g, i * 5, none⟩) (rows.length - i) (cap - i) else a2.tmps.getD t Go.undef := fun t => by rw [← ha3]; exact g0 _ s2 _ _ _ (by omega)
  refine wp_region_list ?_
  refine wl_value (w' := w) (v := .slice (some ⟨g, 0, none⟩) rows.length cap) rfl (by simp only [execOp, Act.eval, hu0, Sem.run_pure]) ?_
  rw [ha1]
  refine wl_value (w' := w) (v := .int .i64 i) rfl (by simp only [execOp, Act.eval, t1, e5, Sem.run_pure, Nat.reduceEqDiff, if_false]) ?_
  rw [ha2]
  refine wl_value (w' := w) (v := .slice (some ⟨g, i * 5, none⟩) (rows.length - i) (cap - i)) rfl ?_ ?_
  · have e1 : a2.eval (.tmp 36) = .slice (some ⟨g, 0, none⟩) rows.length cap := by simp only [Act.eval, t2, t1, Nat.reduceEqDiff, if_false, if_true]
    have e2 : a2.eval (.tmp 37) = .int .i64 i := by simp only [Act.eval, t2, if_true]
    have hb : (Instr.sliceBounds true rows.length cap (some (.int .i64 (i : Int))) none none).run Tryz.prog w = .ok (i, rows.length, cap) w := by
      simp [Instr.sliceBounds, Instr.sliceBound, asIntOf]
      omega
    simp only [execOp, Option.map_some, Option.map_none, e1, e2, Instr.sliceAt, Instr.slice, Sem.run_bind, run_underlying und_ops, Result.andThen_ok, hb, sizeOf_run (show sizeP Tryz.prog 131 = some 5 by kernel_rfl), Sem.run_pure]
    rw [if_neg (by omega)]
    simp [Addr.add]
    try omega
  rw [ha3]
  refine wl_value (w' := w.setCells g (i * 5) zs) (v := .tuple #[]) rfl ?_ ?_
  · have e1 : a3.eval (.tmp 38) = .slice (some ⟨g, i * 5, none⟩) (rows.length - i) (cap - i) := by simp only [Act.eval, t3, if_true]
    simp only [execOp, resolve, Sem.run_bind, Sem.run_pure, Result.andThen_ok, invoke, builtin, List.map_toArray, List.map_cons, List.map_nil, e1, hcl]
  obtain ⟨w1, hw1⟩ : ∃ w1, w.setCells g (i * 5) zs = w1 := ⟨_, rfl⟩
  rw [hw1] at k1 k2 k3 ⊢
  have ha4 : a3.put none (.tuple #[]) = a3 := rfl
  rw [ha4]
  have u0 : a3.tmps.getD 0 Go.undef = .slice (some ⟨g, 0, none⟩) rows.length cap := by rw [t3, if_neg (by omega), t2, if_neg (by omega), t1, if_neg (by omega)]; exact hu0
  have u5 : a3.tmps.getD 5 Go.undef = .int .i64 i := by rw [t3, if_neg (by omega), t2, if_neg (by omega), t1, if_neg (by omega)]; exact e5
  obtain ⟨b1, hb1⟩ : ∃ b1, a3.put (some 39) (.slice (some ⟨g, 0, none⟩) rows.length cap) = b1 := ⟨_, rfl⟩
  have s4 : b1.tmps.size = 42 := by rw [← hb1]; exact gs _ s3 _ _
  have t4 : ∀ t, b1.tmps.getD t Go.undef = if t = 39 then .slice (some ⟨g, 0, none⟩) rows.length cap else a3.tmps.getD t Go.undef := fun t => by rw [← hb1]; exact g0 _ s3 _ _ _ (by omega)
  obtain ⟨b2, hb2⟩ : ∃ b2, b1.put (some 40) (.int .i64 i) = b2 := ⟨_, rfl⟩
  have s5 : b2.tmps.size = 42 := by rw [← hb2]; exact gs _ s4 _ _
  have t5 : ∀ t, b2.tmps.getD t Go.undef = if t = 40 then .int .i64 i else b1.tmps.getD t Go.undef := fun t => by rw [← hb2]; exact g0 _ s4 _ _ _ (by omega)
  obtain ⟨b3, hb3⟩ : ∃ b3, b2.put (some 41) (.slice (some ⟨g, 0, none⟩) i cap) = b3 := ⟨_, rfl⟩
  have s6 : b3.tmps.size = 42 := by rw [← hb3]; exact gs _ s5 _ _
  have t6 : ∀ t, b3.tmps.getD t Go.undef = if t = 41 then .slice (some ⟨g, 0, none⟩) i cap else b2.tmps.getD t Go.undef := fun t => by rw [← hb3]; exact g0 _ s5 _ _ _ (by omega)
  show Code.wp Tryz.prog _ _ a3 w1
  refine wp_region_list ?_
  refine wl_value (w' := w1) (v := .slice (some ⟨g, 0, none⟩) rows.length cap) rfl (by simp only [execOp, Act.eval, u0, Sem.run_pure]) ?_
  rw [hb1]
  refine wl_value (w' := w1) (v := .int .i64 i) rfl (by simp only [execOp, Act.eval, t4, u5, Sem.run_pure, Nat.reduceEqDiff, if_false]) ?_
  rw [hb2]
  refine wl_value (w' := w1) (v := .slice (some ⟨g, 0, none⟩) i cap) rfl ?_ ?_
  · have e1 : b2.eval (.tmp 39) = .slice (some ⟨g, 0, none⟩) rows.length cap := by simp only [Act.eval, t5, t4, Nat.reduceEqDiff, if_false, if_true]
    have e2 : b2.eval (.tmp 40) = .int .i64 i := by simp only [Act.eval, t5, if_true]
    have hb : (Instr.sliceBounds true rows.length cap none (some (.int .i64 (i : Int))) none).run Tryz.prog w1 = .ok (0, i, cap) w1 := by
      simp [Instr.sliceBounds, Instr.sliceBound, asIntOf]
      omega
    simp only [execOp, Option.map_some, Option.map_none, e1, e2, Instr.sliceAt, Instr.slice, Sem.run_bind, run_underlying und_ops, Result.andThen_ok, hb, sizeOf_run (show sizeP Tryz.prog 131 = some 5 by kernel_rfl), Sem.run_pure]
    rw [if_neg (by omega)]
    simp [Addr.add]
  rw [hb3]
  refine wl_value (w' := w1) (v := .slice (some ⟨g, 0, none⟩) i cap) rfl (by simp only [execOp, Act.eval, t6, Sem.run_pure, if_true]) ?_
  show Code.wp Tryz.prog .ret _ _ w1
  refine wp_ret ?_
  refine ⟨⟨fun t => if t = 4 then .arr 0 (v + 1) else .top, [.arr (v + 1) true false 131 5 (rows.take i)]⟩, hQ _ rfl rfl, ⟨C', k1, fun t => ?_⟩, ?_, gs _ s6 _ _⟩
  · rw [g0 _ s6 _ _ _ (by omega)]
    by_cases e : t = 4
    · rw [if_pos e]; simp only [e, if_true]; exact k3
    · rw [if_neg e]; simp only [e, if_false]; exact .any
  · have pd : ∀ (b : Act) (d : Option Nat) (u : Value), (b.put d u).defers = b.defers := fun b d u => by cases d <;> rfl
    rw [pd, ← hb3, pd, ← hb2, pd, ← hb1, pd, ← ha3, pd, ← ha2, pd, ← ha1, pd]
    exact hdf
theorem idxF_at {α : Type} [Inhabited α] (p : α → Bool) : ∀ (l : List α) (k : Nat), l.any p = true → ∃ j, j < l.length ∧ idxF p l k = ((k + j : Nat) : Int) ∧ p (nth l j) = true ∧ ∀ q, q ∈ l.take j → p q = false
  | [], k, h => by simp at h
  | y :: l, k, h => by
    cases hy : p y
    · have h' : l.any p = true := by simpa [hy] using h
      obtain ⟨j, h1, h2, h3, h4⟩ := idxF_at p l (k + 1) h'
      refine ⟨j + 1, by simp; omega, by rw [idxF, if_neg (by simp [hy]), h2]; congr 1; omega, h3, fun q hq => ?_⟩
      rw [List.take_succ_cons] at hq
      rcases List.mem_cons.1 hq with rfl | hq
      · exact hy
      · exact h4 q hq
    · exact ⟨0, by simp, by rw [idxF, if_pos hy]; simp, hy, fun q hq => by simp at hq⟩
set_option maxRecDepth 10000 in
set_option maxHeartbeats 4000000 in
theorem delF_meets (l : List FOp) (g : Nat) (caps : List PV) (p : FOp → Bool) (v : Nat) (hg : hasBody Tryz.prog g = true) (hl : l.length ≤ 1000000) (hc : ClosedH [] caps)
    (hcl : ∀ nl f fz, caps.map (renLeaf nl f fz) = caps ∧ caps.map (ren nl f fz) = caps ∧ caps.map (renCell nl f fz) = caps) (hp : ∀ o ∈ l, Meets Tryz.prog g (.agg (cOp o) :: caps) [] (.bool (p o)) []) :
    ∃ v', Meets Tryz.prog 86 [.arr 0 v, .clo g caps] [.arr v true false 131 5 (l.map cOp)] (.arr 0 v') [.arr v' true false 131 5 ((l.filter fun o => !p o).map cOp)] := by
  have hix := indexOp_meets l g caps [] p hg (by omega) hc hp
  cases ha : l.any p
  · have hm1 : idxF p l 0 = -1 := by
      rcases idxF_ge p l 0 with ⟨h1, -⟩ | ⟨-, h2⟩
      · exact h1
      · rw [h2] at ha; cases ha
    have hf : (l.filter fun o => !p o) = l := List.filter_eq_self.2 fun o ho => by
      have := List.any_eq_false.1 ha o ho
      simpa using this
    rw [hf]
    rw [hm1] at hix
    refine ⟨v, ?_⟩
    refine Meets.of_tail Tryz.func86 Tryz.ntmps86 body86 (List.take_append_drop _ _).symm lowl86 res86 (by simp) (fun _ _ => False) (fun x hx => ?_) (fun _ _ _ h => h.elim)
    refine WL_walk ?_
    simp only [go_sem, Nat.reduceLT, Nat.reduceAdd, Nat.reduceEqDiff, Nat.reduceLeDiff, Nat.reduceSub, Nat.reduceMul, Int.reduceEq, eq_self, reduceIte, LL86]
    refine ops_call (.scalarE hix rfl (by simp [go_sem, Nat.reduceLT, Nat.reduceAdd, Nat.reduceEqDiff, Nat.reduceLeDiff, Nat.reduceSub, Nat.reduceMul, Int.reduceEq, eq_self, reduceIte, frzAt, pos, hcl])) ?_
    simp only [go_sem, Nat.reduceLT, Nat.reduceAdd, Nat.reduceEqDiff, Nat.reduceLeDiff, Nat.reduceSub, Nat.reduceMul, Int.reduceEq, eq_self, reduceIte]
    refine ret_keep [] (by simp) (by simp) (by simp [hx]) ?_ ?_
    · simp [go_sem, Nat.reduceLT, Nat.reduceAdd, Nat.reduceEqDiff, Nat.reduceLeDiff, Nat.reduceSub, Nat.reduceMul, Int.reduceEq, eq_self, reduceIte, R86, hx, pos]
    · simp [subHeap, renObj, hx, pos, go_sem, Nat.reduceLT, Nat.reduceAdd, Nat.reduceEqDiff, Nat.reduceLeDiff, Nat.reduceSub, Nat.reduceMul, Int.reduceEq, eq_self, reduceIte, List.range_succ]
  · obtain ⟨k0, d1, d2, d3, d4⟩ := idxF_at p l 0 ha
    rw [Nat.zero_add] at d2
    rw [d2] at hix
    refine ⟨v + 1, ?_⟩
    refine Meets.of_tail Tryz.func86 Tryz.ntmps86 body86 (List.take_append_drop _ _).symm lowl86 res86 (by simp) (fun _ st => ∃ (r : List FOp) (i : Nat), i < r.length ∧ st.env 0 = .arr 0 v ∧ st.env 5 = .int .i64 i ∧ st.heap = [.arr v true false 131 5 (r.map cOp)] ∧ r.take i = l.filter fun o => !p o) (fun x hx => ?_) (fun x hx st ⟨r, i, q1, q2, q3, q4, q5⟩ => ?_)
    · refine WL_walk ?_
      have hk0 : ((k0 : Int) = -1) = False := eq_false (by omega)
      have wk0 := i64_up (k := k0) (by omega)
      simp only [go_sem, Nat.reduceLT, Nat.reduceAdd, Nat.reduceEqDiff, Nat.reduceLeDiff, Nat.reduceSub, Nat.reduceMul, Int.reduceEq, eq_self, reduceIte, LL86]
      refine ops_call (.scalarE hix rfl (by simp [go_sem, Nat.reduceLT, Nat.reduceAdd, Nat.reduceEqDiff, Nat.reduceLeDiff, Nat.reduceSub, Nat.reduceMul, Int.reduceEq, eq_self, reduceIte, frzAt, pos, hcl])) ?_
      simp only [go_sem, Nat.reduceLT, Nat.reduceAdd, Nat.reduceEqDiff, Nat.reduceLeDiff, Nat.reduceSub, Nat.reduceMul, Int.reduceEq, eq_self, reduceIte, hk0, wk0]
      refine loop_inv [0, 1, 5, 6] 1 (fun n st => ∃ (r : List FOp) (i j : Nat), j + n = l.length ∧ i < j ∧ r.length = l.length ∧ r.take i = (l.take j).filter (fun o => !p o) ∧ r.drop j = l.drop j ∧
        st = ⟨mkE .top [(0, .arr 0 v), (1, .clo g caps), (5, .int .i64 i), (6, .int .i64 j)], [.arr v true false 131 5 (r.map cOp)]⟩) (l.length - (k0 + 1)) (by simp [hx]) (by simp) ?_ ?_
      · refine ⟨l, k0, k0 + 1, by omega, by omega, rfl, ?_, rfl, ?_⟩
        · rw [filter_take _ d1, if_neg (by simp [d3]), List.append_nil]
          exact (List.filter_eq_self.2 fun q hq => by simp [d4 q hq]).symm
        · simp [trim_mk, go_sem, Nat.reduceLT, Nat.reduceAdd, Nat.reduceEqDiff, Nat.reduceLeDiff, Nat.reduceSub, Nat.reduceMul, Int.reduceEq, eq_self, reduceIte, subHeap, renObj, renCell, renLeaf, pos, List.range_succ, hcl]
      · rintro n st ⟨r, i, j, hj, hij, hrl, hrt, hrd, rfl⟩
        by_cases hlt : j < l.length
        · have hgj : r[j]? = some (nth l j) := by
            have : (r.drop j)[0]? = (l.drop j)[0]? := by rw [hrd]
            rw [List.getElem?_drop, List.getElem?_drop, Nat.add_zero] at this
            rw [this]; exact nth_get? _ _ hlt
          have hgi : r[i]? = some (nth r i) := nth_get? _ _ (by omega)
          have hjr : j < r.length := by omega
          have hir : i < r.length := by omega
          have wj := i64_up (k := j) (by omega)
          have wi := i64_up (k := i) (by omega)
          have hpe := hp (nth l j) (List.mem_of_getElem? (nth_get? _ _ hlt))
          have hft := filter_take (fun o => !p o) hlt
          have hdd : r.drop (j + 1) = l.drop (j + 1) := by rw [← List.drop_drop, hrd, List.drop_drop]
          simp only [go_sem, Nat.reduceLT, Nat.reduceAdd, Nat.reduceEqDiff, Nat.reduceLeDiff, Nat.reduceSub, Nat.reduceMul, Int.reduceEq, eq_self, reduceIte, List.length_map, hjr, hgj, cOp, List.getElem?_map, Option.map_some]
          refine ops_callv rfl hg (.scalarE hpe rfl (by simp [go_sem, Nat.reduceLT, Nat.reduceAdd, Nat.reduceEqDiff, Nat.reduceLeDiff, Nat.reduceSub, Nat.reduceMul, Int.reduceEq, eq_self, reduceIte, frzAt, pos, hcl, cOp])) ?_
          cases hpk : p (nth l j)
          · simp only [go_sem, Nat.reduceLT, Nat.reduceAdd, Nat.reduceEqDiff, Nat.reduceLeDiff, Nat.reduceSub, Nat.reduceMul, Int.reduceEq, eq_self, reduceIte, Int.ofNat_zero, Int.natCast_one, Int.cast_ofNat_Int, Int.reduceLT, Int.reduceLE, Int.reduceToNat, Nat.reduceLT, Int.toNat_zero, Int.natCast_zero, Int.le_refl, Int.lt_irrefl, Int.reduceAdd, frz, false_or, or_true, frz, PV.isPure, List.length_map, hjr, hir, hgi, cOp, List.getElem?_map, Option.map_some, wj, wi]
            refine ⟨by simp, n - 1, by omega, r.set i (nth l j), i + 1, j + 1, by omega, by omega, by simp [hrl], ?_, ?_, ?_⟩
            · rw [hft, if_pos (by simp [hpk]), ← hrt, List.take_add_one, List.take_set_of_le (Nat.le_refl _), List.getElem?_set_self hir]
              rfl
            · rw [List.drop_set_of_lt (by omega), hdd]
            · simp [trim_mk, go_sem, Nat.reduceLT, Nat.reduceAdd, Nat.reduceEqDiff, Nat.reduceLeDiff, Nat.reduceSub, Nat.reduceMul, Int.reduceEq, eq_self, reduceIte, subHeap, renObj, renCell, renLeaf, pos, List.range_succ, hcl, List.map_set, cOp]
          · simp only [go_sem, Nat.reduceLT, Nat.reduceAdd, Nat.reduceEqDiff, Nat.reduceLeDiff, Nat.reduceSub, Nat.reduceMul, Int.reduceEq, eq_self, reduceIte, wj]
            refine ⟨by simp, n - 1, by omega, r, i, j + 1, by omega, by omega, hrl, ?_, hdd, ?_⟩
            · rw [hft, if_neg (by simp [hpk]), List.append_nil, hrt]
            · simp [trim_mk, go_sem, Nat.reduceLT, Nat.reduceAdd, Nat.reduceEqDiff, Nat.reduceLeDiff, Nat.reduceSub, Nat.reduceMul, Int.reduceEq, eq_self, reduceIte, subHeap, renObj, renCell, renLeaf, pos, List.range_succ, hcl]
        · have hjr : ¬ j < r.length := by omega
          simp only [go_sem, Nat.reduceLT, Nat.reduceAdd, Nat.reduceEqDiff, Nat.reduceLeDiff, Nat.reduceSub, Nat.reduceMul, Int.reduceEq, eq_self, reduceIte, List.length_map, hjr]
          refine ⟨r, i, by omega, rfl, rfl, rfl, ?_⟩
          rw [hrt, List.take_of_length_le (by omega)]
    · rw [← q5]
      refine del_tail (rows := r.map cOp) (i := i) q2 q3 q4 (by simpa using q1) (fun st' g1 g2 => ?_)
      refine ret_keep [] (by simp) (by simp) (by simp [hx, g2]) ?_ ?_
      · simp [go_sem, Nat.reduceLT, Nat.reduceAdd, Nat.reduceEqDiff, Nat.reduceLeDiff, Nat.reduceSub, Nat.reduceMul, Int.reduceEq, eq_self, reduceIte, R86, hx, pos, g1]
      · simp [subHeap, renObj, hx, pos, go_sem, Nat.reduceLT, Nat.reduceAdd, Nat.reduceEqDiff, Nat.reduceLeDiff, Nat.reduceSub, Nat.reduceMul, Int.reduceEq, eq_self, reduceIte, List.range_succ, g2, List.map_take]
end Go.Proofs.YtfdolehffjmdmaaGreatDoor
/- slices.SortFunc at what entries do, by key and value. -/
namespace Go.Proofs.YtfdolehffjmdmaaGreatDoor
open Go.RowKit Go.Shelf
/-! texts in order -/
theorem cb_refl : ∀ l : List UInt8, Lib.compareBytes l l = 0
  | [] => rfl
  | a :: l => by
    have h : ¬ a < a := by rw [UInt8.lt_iff_toNat_lt]; omega
    rw [Lib.compareBytes, if_neg h, if_neg h]
    exact cb_refl l
theorem cb_zero : ∀ {a b : List UInt8}, Lib.compareBytes a b = 0 → a = b
  | [], [], _ => rfl
  | [], _ :: _, h => by simp [Lib.compareBytes] at h
  | _ :: _, [], h => by simp [Lib.compareBytes] at h
  | x :: a, y :: b, h => by
    rw [Lib.compareBytes] at h
    split at h
    · simp at h
    · split at h
      · simp at h
      · rename_i h1 h2
        rw [UInt8.lt_iff_toNat_lt] at h1 h2
        rw [cb_zero h, UInt8.toNat.inj (show x.toNat = y.toNat by omega)]
theorem cb_swap : ∀ (a b : List UInt8), Lib.compareBytes b a = - Lib.compareBytes a b
  | [], [] => rfl
  | [], _ :: _ => rfl
  | _ :: _, [] => rfl
  | x :: a, y :: b => by
    rw [Lib.compareBytes, Lib.compareBytes]
    by_cases h1 : x < y
    · have h2 : ¬ y < x := by rw [UInt8.lt_iff_toNat_lt] at h1 ⊢; omega
      rw [if_neg h2, if_pos h1, if_pos h1]; rfl
    · by_cases h2 : y < x
      · rw [if_pos h2, if_neg h1, if_pos h2]
      · rw [if_neg h2, if_neg h1, if_neg h1, if_neg h2]
        exact cb_swap a b
theorem cb_trans : ∀ {a b c : List UInt8}, Lib.compareBytes a b < 0 → Lib.compareBytes b c < 0 → Lib.compareBytes a c < 0
  | [], [], _, h, _ => by simp [Lib.compareBytes] at h
  | [], _ :: _, [], _, h => by simp [Lib.compareBytes] at h
  | [], _ :: _, _ :: _, _, _ => by simp [Lib.compareBytes]
  | _ :: _, [], _, h, _ => by simp [Lib.compareBytes] at h
  | _ :: _, _ :: _, [], _, h => by simp [Lib.compareBytes] at h
  | x :: a, y :: b, z :: c, h, g => by
    rw [Lib.compareBytes] at h g ⊢
    by_cases h1 : x < y
    · by_cases g1 : y < z
      · have : x < z := by rw [UInt8.lt_iff_toNat_lt] at h1 g1 ⊢; omega
        rw [if_pos this]; decide
      · rw [if_neg g1] at g
        by_cases g2 : z < y
        · rw [if_pos g2] at g; simp at g
        · have : x < z := by rw [UInt8.lt_iff_toNat_lt] at h1 g1 g2 ⊢; omega
          rw [if_pos this]; decide
    · rw [if_neg h1] at h
      by_cases h2 : y < x
      · rw [if_pos h2] at h; simp at h
      · rw [if_neg h2] at h
        have e : x = y := by
          rw [UInt8.lt_iff_toNat_lt] at h1 h2
          exact UInt8.toNat.inj (by omega)
        subst e
        by_cases g1 : x < z
        · rw [if_pos g1]; decide
        · rw [if_neg g1] at g ⊢
          by_cases g2 : z < x
          · rw [if_pos g2] at g; simp at g
          · rw [if_neg g2] at g ⊢
            exact cb_trans h g
def cmpB (a b : ByteArray) : Int := Lib.compareBytes a.data.toList b.data.toList
theorem cmpB_refl (a : ByteArray) : cmpB a a = 0 := cb_refl _
theorem cmpB_zero {a b : ByteArray} (h : cmpB a b = 0) : a = b := by
  apply ByteArray.ext
  exact Array.toList_inj.1 (cb_zero h)
theorem cmpB_swap (a b : ByteArray) : cmpB b a = - cmpB a b := cb_swap _ _
theorem cmpB_trans {a b c : ByteArray} (h : cmpB a b < 0) (g : cmpB b c < 0) : cmpB a c < 0 := cb_trans h g
def cmpP (x y : ByteArray × ByteArray) : Int := if cmpB x.1 y.1 = 0 then cmpB x.2 y.2 else cmpB x.1 y.1
theorem cmpP_zero {x y : ByteArray × ByteArray} (h : cmpP x y = 0) : x = y := by
  unfold cmpP at h
  split at h
  · rename_i h1; exact Prod.ext (cmpB_zero h1) (cmpB_zero h)
  · contradiction
theorem cmpP_swap (x y : ByteArray × ByteArray) : cmpP y x = - cmpP x y := by
  unfold cmpP
  have h1 := cmpB_swap x.1 y.1
  have h2 := cmpB_swap x.2 y.2
  split <;> split <;> omega
theorem cmpP_trans {x y z : ByteArray × ByteArray} (h : cmpP x y < 0) (g : cmpP y z < 0) : cmpP x z < 0 := by
  unfold cmpP at h g ⊢
  by_cases h1 : cmpB x.1 y.1 = 0
  · rw [if_pos h1] at h
    have e1 := cmpB_zero h1
    by_cases g1 : cmpB y.1 z.1 = 0
    · rw [if_pos g1] at g
      rw [e1, if_pos g1]
      exact cmpB_trans h g
    · rw [if_neg g1] at g
      rw [e1, if_neg g1]; exact g
  · rw [if_neg h1] at h
    by_cases g1 : cmpB y.1 z.1 = 0
    · have e1 := cmpB_zero g1
      rw [← e1, if_neg h1]; exact h
    · rw [if_neg g1] at g
      have := cmpB_trans h g
      rw [if_neg (by omega)]; exact this
def FOp.kv (o : FOp) : ByteArray × ByteArray := (o.k, o.v)
def cmpOp (x y : FOp) : Int := cmpP x.kv y.kv
theorem swoOp : Go.Sort.SWO (ltOf cmpOp) where
  irrefl := fun x => by
    have : cmpP x.kv x.kv = 0 := by have := cmpP_swap x.kv x.kv; omega
    simp [ltOf, cmpOp, this]
  trans := fun x y z h1 h2 => by
    unfold ltOf cmpOp at *
    exact decide_eq_true (cmpP_trans (of_decide_eq_true h1) (of_decide_eq_true h2))
  ntrans := fun x y z h1 h2 => by
    unfold ltOf cmpOp at *
    have h1 := of_decide_eq_false h1
    have h2 := of_decide_eq_false h2
    apply decide_eq_false
    have a := cmpP_swap x.kv y.kv
    have b := cmpP_swap y.kv z.kv
    have c := cmpP_swap x.kv z.kv
    intro h
    by_cases e1 : cmpP x.kv y.kv = 0
    · rw [cmpP_zero e1] at h; omega
    · by_cases e2 : cmpP y.kv z.kv = 0
      · rw [← cmpP_zero e2] at h; omega
      · have := cmpP_trans (x := z.kv) (y := y.kv) (z := x.kv) (by omega) (by omega)
        omega
def eOp (o : FOp) : List Value := [.int .i64 o.id.r, .int .i64 o.id.n, .string o.k, .string o.v, .bool o.p]
theorem flat_op : Flat cOp eOp 5 where
  k0 := by omega
  len := fun _ => rfl
  lenp := fun _ => rfl
  one := fun o v hv => by
    simp [eOp] at hv
    rcases hv with rfl | rfl | rfl | rfl | rfl <;> rfl
  fit := fun S w a j p h => by
    rcases j with _ | _ | _ | _ | _ | j
    · cases h; exact .int _ _
    · cases h; exact .int _ _
    · cases h; exact .str _
    · cases h; exact .str _
    · cases h; exact .bool _
    · simp [cOp] at h
  back := fun S w a j p u h hr => by
    rcases j with _ | _ | _ | _ | _ | j
    · cases h; cases hr; rfl
    · cases h; cases hr; rfl
    · cases h; cases hr; rfl
    · cases h; cases hr; rfl
    · cases h; cases hr; rfl
    · simp [cOp] at h
noncomputable def sortF (l : List FOp) : List FOp := (Go.Sort.pdq (ltOf cmpOp) l.toArray 0 l.toArray.size (Lib.bitLen l.toArray.size) true true).toList
theorem sortF_spec (l : List FOp) : (sortF l).Perm l ∧ (sortF l).Pairwise fun x y => ¬ cmpOp y x < 0 := by
  obtain ⟨h1, h2⟩ := Go.Sort.pdq_sorts (ltOf cmpOp) swoOp l.toArray 0 l.toArray.size (Lib.bitLen l.toArray.size) true true (Nat.zero_le _) (Nat.le_refl _) (Or.inl rfl)
  obtain ⟨a1, -, a3⟩ := h1
  have e1 : ∀ d : Array FOp, d.size = l.toArray.size → d.extract 0 l.toArray.size = d := fun d hd => by rw [← hd]; exact Array.extract_size
  rw [e1 _ a1, e1 _ rfl] at a3
  refine ⟨by simpa [sortF] using a3, ?_⟩
  rw [List.pairwise_iff_getElem]
  intro i j hi hj hij
  have hi' : i < (Go.Sort.pdq (ltOf cmpOp) l.toArray 0 l.toArray.size (Lib.bitLen l.toArray.size) true true).size := by simpa [sortF] using hi
  have hj' : j < (Go.Sort.pdq (ltOf cmpOp) l.toArray 0 l.toArray.size (Lib.bitLen l.toArray.size) true true).size := by simpa [sortF] using hj
  have := h2 i j (Nat.zero_le _) hij (by rw [← a1]; exact hj')
  rw [getElem!_pos _ i hi', getElem!_pos _ j hj'] at this
  simpa [ltOf, sortF] using this
theorem compare_calls (a b : ByteArray) (w : World) : Calls Tryz.prog 94 #[.string a, .string b] w fun e w' => e = .returned (.int .i64 (cmpB a b)) ∧ w' = w := Any.strings_Compare cmpL a b w
theorem cmpOp_calls (a b : FOp) (w : World) : Calls Tryz.prog 93 #[.agg (eOp a).toArray, .agg (eOp b).toArray] w fun e w' => e = .returned (.int .i64 (cmpOp a b)) ∧ ∃ q os', w' = Go.Sort.grow (w.drewN q) os' := by
  unfold eOp
  go_enter Tryz.func93, Tryz.ntmps93
  go_wp2_with (go_at_call 94; refine (compare_calls _ _ _).mono ?_; rintro e w' ⟨rfl, rfl⟩)
  · go_ret
    have h : (cmpB a.k b.k != 0) = true := by assumption
    exact ⟨ret_int (by exact (if_neg (show ¬ cmpB a.k b.k = 0 by simpa using h)).symm), 0, _, by rw [Go.Sort.alloc_eq_grow, Go.Sort.alloc_eq_grow, Go.Sort.grow_grow]; rfl⟩
  · go_ret
    have h : (cmpB a.k b.k != 0) = false := by assumption
    exact ⟨ret_int (by exact (if_pos (show cmpB a.k b.k = 0 by simpa using h)).symm), 0, _, by rw [Go.Sort.alloc_eq_grow, Go.Sort.alloc_eq_grow, Go.Sort.grow_grow]; rfl⟩
theorem cmpLaysOp (blk off size : Nat) (w : World) : CmpLays Tryz.prog 93 #[] eOp 5 cmpOp blk off size w := fun _ _ _ _ a b => cmpOp_calls a b _
theorem sortOps_meets (l : List FOp) (v T : Nat) (hl : l.length < 4611686018427387904) :
    Meets Tryz.prog 92 [.arr 0 v, .clo 93 []] [.arr v true false T 5 (l.map cOp)] (.tup []) [.arr v true false T 5 ((sortF l).map cOp)] := by
  intro x vs hx h0 hp
  obtain ⟨a, b, rfl, h1, h2⟩ := two_args hp.1
  have ha := hp.2 0 _ _ rfl h1
  have hb := hp.2 1 _ _ rfl h2
  obtain ⟨ws, rfl, hw, -⟩ := hb.clo_inv
  obtain rfl : ws = [] := List.length_eq_zero_iff.1 hw
  obtain ⟨e1, e2, e3⟩ := h0.row (id := 0) rfl ha
  have hsl : (sortF l).length = l.length := (sortF_spec l).1.length_eq
  rcases e3 with ⟨rfl, hnil⟩ | ⟨g, cap, cur, rfl, hc, hcap, hm, hz, hrow⟩
  · have : l = [] := by simpa using hnil
    subst this
    have hs0 : sortF [] = [] := List.length_eq_zero_iff.1 hsl
    refine (AnyF.slices_SortFunc_none sortOpL none 0 (.func (.func 93) #[] #[]) x.w0).mono ?_
    rintro e w' ⟨rfl, rfl⟩
    exact ⟨_, x.C0, rfl, by simpa [hs0] using h0, .tup [] [] rfl (fun j p u h => by simp at h)⟩
  · have eg : ∀ args w, (callFunc 93 args).run Tryz.prog w = .ok (.enter 93 args) w := enters_of Tryz.func93 (by kernel_rfl) rfl
    have hH := flat_op.holds l hc hrow
    have hlt : g < x.w0.heap.size := (Array.getElem?_eq_some_iff.1 hc).1
    have key := AnyQ.slices_SortFunc_eq sortOpL 5 (fun _ => by kernel_rfl) (fun _ => by kernel_rfl) eOp flat_op.len flat_op.one cmpOp swoOp 93 #[] g 0 cap l.toArray x.w0 eg (cmpLaysOp g 0 _ x.w0) hH hlt (by simpa using hl)
    rw [List.length_map] at *
    refine key.mono ?_
    rintro e w' ⟨rfl, n, os, rfl⟩
    have hd : Go.Sort.pdq (ltOf cmpOp) l.toArray 0 l.toArray.size (Lib.bitLen l.toArray.size) true true = (sortF l).toArray := by simp [sortF]
    rw [hd]
    obtain ⟨cur', c1, c2, c3, c4⟩ := row_world eOp 5 x.w0 g n (sortF l).toArray os hc
    have hown : (x.C0.sv 0).ownBlock = some g := by rw [← e1]; rfl
    obtain ⟨C', k1, k2, k3⟩ := h0.rerow (id := 0) (v' := v) (g' := g) (cap' := cap) (rows' := (sortF l).map cOp) (cur' := cur') rfl (by
      refine ⟨c4.size, c4.os, c4.tape, c4.output, fun b hb hne => c4.blk b hb fun e => hne (by rw [hown, e])⟩) (.inl hown) (.inl ⟨rfl, by rw [← e1, List.length_map, hsl]⟩) c1 (by rw [List.length_map, hsl]; exact hcap) hm (by rw [c2, hz])
      (fun row hr => by obtain ⟨y, -, rfl⟩ := List.mem_map.1 hr; rfl) (flat_op.rep c3 (l := sortF l) (sortF l).length (fun i hi => by
        rw [List.getElem?_eq_getElem hi]
        simp [hi]) rfl (by simp))
    exact ⟨_, C', rfl, k1, .tup [] [] rfl (fun j p u h => by simp at h)⟩
end Go.Proofs.YtfdolehffjmdmaaGreatDoor
/- A loop whose objects change places: what stays is chosen anew in each round. -/
namespace Go.Proofs.YtfdolehffjmdmaaGreatDoor
open Go.RowKit
section
variable {P : Program} {x : Cx} {nt : Nat} {st : St}
def St.sel (st : St) (live ks : List Nat) : St :=
  ⟨fun t => if t ∈ live then renT false (pos ks) (frzAt true st.heap) (st.env t) else .top, subHeap (pos ks) (frzAt true st.heap) st.heap ks⟩
theorem weak_sel (live ks : List Nat) (hnd : ks.Nodup) (hlt : ∀ k ∈ ks, k < st.heap.length) (hpre : ∀ i, i < x.H0.length → ks[i]? = some i) : Weak x nt st (st.sel live ks) := by
  intro a w ⟨⟨C, hr, he⟩, hdf, hsz⟩
  obtain ⟨k1, k2⟩ := hr.restrict hnd hlt hpre
  refine ⟨⟨_, k1, fun t => ?_⟩, hdf, hsz⟩
  simp only [St.sel]
  split
  · exact renT_rep k2 (he t)
  · exact .any
theorem sel_mk (d : PV) (l : List (Nat × PV)) (H : List AObj) (live ks : List Nat) : (St.mk (mkE d l) H).sel live ks = ⟨mkE .top (live.map fun t => (t, renT false (pos ks) (frzAt true H) (mkE d l t))), subHeap (pos ks) (frzAt true H) H ks⟩ := by
  simp only [St.sel, St.mk.injEq, and_true]
  funext t
  induction live with
  | nil => simp [mkE]
  | cons k live ih =>
    simp only [List.map_cons, mkE]
    by_cases e : k = t
    · subst e; simp
    · rw [if_neg e, ← ih]
      simp [Ne.symm e]
def againS (x : Cx) (nt : Nat) (I : Nat → St → Prop) (n : Nat) (st : St) : Prop := ∃ n' st', n' < n ∧ Weak x nt st st' ∧ I n' st'
theorem loop_sel {b : LC} {Q : AE → St → Prop} (I : Nat → St → Prop) (n : Nat) (h0 : ∃ st', Weak x nt st st' ∧ I n st')
    (hstep : ∀ n st, I n st → walk P x nt b (@thenB ⟨againS x nt I n⟩ Q) st) : W P x nt (.loop b) Q st := by
  refine W_loop (fun n st => ∃ st', Weak x nt st st' ∧ I n st') n h0 ?_
  rintro n st ⟨st', hw, hI⟩
  refine W_weaken hw ((W_walk (hstep n st' hI)).mono fun e st2 hq => ?_)
  cases e with
  | normal => obtain ⟨n', st3, g2, g3, g4⟩ := hq; exact ⟨n', g2, st3, g3, g4⟩
  | exit id => exact hq
  | ret => exact hq
end
end Go.Proofs.YtfdolehffjmdmaaGreatDoor
/- The map of a log (fold.Raw). -/
namespace Go.Proofs.YtfdolehffjmdmaaGreatDoor
set_option linter.unusedSimpArgs false
set_option linter.unusedVariables false
open Go.RowKit
theorem weak_puF {x : Cx} {nt : Nat} {st : St} (id : Nat) {v T sz : Nat} {sto : Bool} {rows rows' : List (List PV)} (h : st.heap[id]? = some (.arr v sto true T sz rows)) (hf : rows.map (·.map (frz st.heap)) = rows') (hp : rows'.all (fun r => r.all PV.isPure) = true) :
    Weak x nt st ⟨st.env, st.heap.set id (.arr v false false T sz rows')⟩ := by
  subst hf
  intro a w ⟨⟨C, hr, he⟩, hdf, hs⟩
  obtain ⟨k1, k2⟩ := hr.change (C' := C) (ob' := .arr v false false T sz (rows.map (·.map (frz st.heap)))) h (step_refl w) rfl (fun _ => rfl) (fun _ _ => ⟨rfl, rfl⟩) (.inl ⟨rfl, rfl⟩)
    (fun b o _ hf hb => by have := hf hb; simp at this) (fun b o _ _ => rfl) (fun b h => .inl h)
    (fun hm hmp => by
      obtain ⟨o1, o2, o3, xs, o4, o5⟩ := hr.obj id _ h
      refine ⟨o1, o2, fun row hrow => ?_, xs, by simpa using o4, fun k row j p u a b c => ?_⟩
      · obtain ⟨r, hr1, rfl⟩ := List.mem_map.1 hrow
        simpa using o3 r hr1
      · obtain ⟨r, hr1, rfl⟩ := map_get a
        obtain ⟨q, hq1, rfl⟩ := map_get b
        obtain ⟨e1, e2⟩ := o5 k r j q u hr1 hq1 c
        refine ⟨e1, ?_⟩
        simp only [Bool.false_eq_true, if_false, if_true] at e2 ⊢
        refine hmp _ _ ((frz_rep hr e2).pureOf ?_)
        have h1 := List.all_eq_true.1 hp _ (List.mem_map.2 ⟨r, List.mem_of_getElem? hr1, rfl⟩)
        exact List.all_eq_true.1 h1 _ (List.mem_map.2 ⟨q, List.mem_of_getElem? hq1, rfl⟩))
  exact ⟨⟨C, k1, fun u => k2 _ _ (he u)⟩, hdf, hs⟩
abbrev KV := ByteArray × List ByteArray
def cPair (p : KV) : List PV := [.str p.1, .list (p.2.map cStr)]
def grp1 (out : List KV) (o : ByteArray × ByteArray) : List KV := match out.getLast? with
  | some p => if p.1 = o.1 then (if p.2.any (fun s => decide (o.2 = s)) = true then out else out.dropLast ++ [(p.1, p.2 ++ [o.2])]) else out ++ [(o.1, [o.2])]
  | none => [(o.1, [o.2])]
theorem grp1_in {o : List KV} {key v : ByteArray} {vs : List ByteArray} (h : (vs.any fun x => decide (v = x)) = true) : grp1 (o ++ [(key, vs)]) (key, v) = o ++ [(key, vs)] := by
  rw [grp1, List.getLast?_concat]
  simp only [if_true]
  rw [if_pos h]
theorem grp1_app {o : List KV} {key v : ByteArray} {vs : List ByteArray} (h : (vs.any fun x => decide (v = x)) = false) : grp1 (o ++ [(key, vs)]) (key, v) = o ++ [(key, vs ++ [v])] := by
  rw [grp1, List.getLast?_concat]
  simp only [if_true]
  rw [if_neg (by simp [h]), List.dropLast_concat]
theorem grp1_new {o : List KV} {key k v : ByteArray} {vs : List ByteArray} (h : ¬ key = k) : grp1 (o ++ [(key, vs)]) (k, v) = (o ++ [(key, vs)]) ++ [(k, [v])] := by
  rw [grp1, List.getLast?_concat]
  simp only [if_neg h]
def grpL (l : List (ByteArray × ByteArray)) : List KV := l.foldl grp1 []
def standsL (l : List Entry) (c : Int) : List FOp := (opsL l c).filter (standB (pasts l) l (opsL l c))
noncomputable def rawL (l : List Entry) (c : Int) : List KV := grpL ((sortF (standsL l c)).map FOp.kv)
theorem grpL_take {l : List FOp} {k : Nat} (h : k < l.length) : grpL ((l.take (k + 1)).map FOp.kv) = grp1 (grpL ((l.take k).map FOp.kv)) (nth l k).kv := by
  rw [grpL, List.take_add_one, nth_get? _ _ h, Option.toList_some, List.map_append, List.foldl_append]
  rfl
theorem indexStr_meets (l : List ByteArray) (y : ByteArray) (hl : l.length ≤ 9223372036854775806) : Meets Tryz.prog 135 [.list (l.map cStr), .str y] [] (.int .i64 (idxF (fun x => decide (y = x)) l 0)) [] := by
  refine Meets.of_walk Tryz.func135 Tryz.ntmps135 low135 res135 (by simp) fun x hx => ?_
  simp only [go_sem, Nat.reduceLT, Nat.reduceAdd, Nat.reduceEqDiff, Nat.reduceLeDiff, Nat.reduceSub, Nat.reduceMul, Int.reduceEq, eq_self, reduceIte, L135, R135]
  refine loop_inv [0, 1, 7, 8] 0 (fun n st => ∃ k : Nat, k + n = l.length ∧ idxF (fun x => decide (y = x)) (l.drop k) k = idxF (fun x => decide (y = x)) l 0 ∧
    st = ⟨mkE .top [(0, .list (l.map cStr)), (1, .str y), (7, .int .i64 l.length), (8, .int .i64 k)], []⟩) l.length (by simp [hx]) (by simp) ?_ ?_
  · refine ⟨0, by omega, by simp, ?_⟩
    simp [trim_mk, go_sem, Nat.reduceLT, Nat.reduceAdd, Nat.reduceEqDiff, Nat.reduceLeDiff, Nat.reduceSub, Nat.reduceMul, Int.reduceEq, eq_self, reduceIte, subHeap, renObj, pos, List.range_succ]
  · rintro n st ⟨k, hk, hi, rfl⟩
    by_cases hlt : k < l.length
    · have hg : l[k]? = some (nth l k) := nth_get? _ _ hlt
      have wk := i64_up (k := k) (by omega)
      rw [idxF_drop _ l k hlt] at hi
      by_cases he : y = nth l k
      · simp only [go_sem, Nat.reduceLT, Nat.reduceAdd, Nat.reduceEqDiff, Nat.reduceLeDiff, Nat.reduceSub, Nat.reduceMul, Int.reduceEq, eq_self, reduceIte, hlt, hg, cStr, he, decide_true]
        refine ret_pure hx ?_
        simp [he] at hi
        simp [go_sem, Nat.reduceLT, Nat.reduceAdd, Nat.reduceEqDiff, Nat.reduceLeDiff, Nat.reduceSub, Nat.reduceMul, Int.reduceEq, eq_self, reduceIte, L135, R135, hi, he]
      · simp only [go_sem, Nat.reduceLT, Nat.reduceAdd, Nat.reduceEqDiff, Nat.reduceLeDiff, Nat.reduceSub, Nat.reduceMul, Int.reduceEq, eq_self, reduceIte, hlt, hg, cStr, he, wk, decide_false]
        refine ⟨by simp, n - 1, by omega, k + 1, by omega, by simpa [he] using hi, ?_⟩
        simp [trim_mk, go_sem, Nat.reduceLT, Nat.reduceAdd, Nat.reduceEqDiff, Nat.reduceLeDiff, Nat.reduceSub, Nat.reduceMul, Int.reduceEq, eq_self, reduceIte, subHeap, renObj, pos, List.range_succ]
    · have : l.drop k = [] := List.drop_eq_nil_of_le (by omega)
      rw [this] at hi
      simp only [go_sem, Nat.reduceLT, Nat.reduceAdd, Nat.reduceEqDiff, Nat.reduceLeDiff, Nat.reduceSub, Nat.reduceMul, Int.reduceEq, eq_self, reduceIte, hlt]
      refine ret_pure hx ?_
      simp [go_sem, Nat.reduceLT, Nat.reduceAdd, Nat.reduceEqDiff, Nat.reduceLeDiff, Nat.reduceSub, Nat.reduceMul, Int.reduceEq, eq_self, reduceIte, L135, R135, ← hi, idxF]
theorem containsStr_meets (l : List ByteArray) (y : ByteArray) (hl : l.length ≤ 9223372036854775806) : Meets Tryz.prog 95 [.list (l.map cStr), .str y] [] (.bool (l.any fun x => decide (y = x))) [] := by
  refine Meets.of_walk Tryz.func95 Tryz.ntmps95 low95 res95 (by simp) fun x hx => ?_
  simp only [go_sem, Nat.reduceLT, Nat.reduceAdd, Nat.reduceEqDiff, Nat.reduceLeDiff, Nat.reduceSub, Nat.reduceMul, Int.reduceEq, eq_self, reduceIte, L95, R95]
  refine ops_call (.pureE (indexStr_meets l y hl) (by simp [go_sem, Nat.reduceLT, Nat.reduceAdd, Nat.reduceEqDiff, Nat.reduceLeDiff, Nat.reduceSub, Nat.reduceMul, Int.reduceEq, eq_self, reduceIte])) ?_
  simp only [go_sem, Nat.reduceLT, Nat.reduceAdd, Nat.reduceEqDiff, Nat.reduceLeDiff, Nat.reduceSub, Nat.reduceMul, Int.reduceEq, eq_self, reduceIte]
  refine ret_pure hx ?_
  simp [go_sem, Nat.reduceLT, Nat.reduceAdd, Nat.reduceEqDiff, Nat.reduceLeDiff, Nat.reduceSub, Nat.reduceMul, Int.reduceEq, eq_self, reduceIte, L95, R95, idxF_any]
theorem cloneOps_meets (rows : List (List PV)) (hz : ∀ row ∈ rows, row.length = 5) (hb : rows.length * 56 ≤ 140737488355328) : Meets Tryz.prog 87 [.list rows] [] (.arr 0 1) [.arr 1 true false 131 5 rows] := by
  refine Meets.of_walk Tryz.func87 Tryz.ntmps87 low87 res87 (by simp) fun x hx => ?_
  simp only [go_sem, Nat.reduceLT, Nat.reduceAdd, Nat.reduceEqDiff, Nat.reduceLeDiff, Nat.reduceSub, Nat.reduceMul, Int.reduceEq, eq_self, reduceIte, L87, R87]
  refine ops_isnil rfl fun b hb' => ?_
  cases b
  · simp only [go_sem, Nat.reduceLT, Nat.reduceAdd, Nat.reduceEqDiff, Nat.reduceLeDiff, Nat.reduceSub, Nat.reduceMul, Int.reduceEq, eq_self, reduceIte]
    rw [app_arr rfl rfl hz (by simpa using hb)]
    simp only [go_sem, Nat.reduceLT, Nat.reduceAdd, Nat.reduceEqDiff, Nat.reduceLeDiff, Nat.reduceSub, Nat.reduceMul, Int.reduceEq, eq_self, reduceIte]
    refine ret_keep [0] (by simp) (by simp [hx]) (by simp [hx]) ?_ ?_
    · simp [go_sem, Nat.reduceLT, Nat.reduceAdd, Nat.reduceEqDiff, Nat.reduceLeDiff, Nat.reduceSub, Nat.reduceMul, Int.reduceEq, eq_self, reduceIte, L87, R87, hx, pos]
    · simp [subHeap, renObj, hx]
  · simp only [go_sem, Nat.reduceLT, Nat.reduceAdd, Nat.reduceEqDiff, Nat.reduceLeDiff, Nat.reduceSub, Nat.reduceMul, Int.reduceEq, eq_self, reduceIte]
    refine ret_weak (weak_own 2 1 131 5 true false rfl (by omega)) ?_
    have : rows = [] := hb' rfl
    subst this
    rw [put_mk]
    refine ret_keep [0] (by simp) (by simp [hx]) (by simp [hx]) ?_ ?_
    · simp [go_sem, Nat.reduceLT, Nat.reduceAdd, Nat.reduceEqDiff, Nat.reduceLeDiff, Nat.reduceSub, Nat.reduceMul, Int.reduceEq, eq_self, reduceIte, L87, R87, hx, pos]
    · simp [subHeap, renObj, hx]
end Go.Proofs.YtfdolehffjmdmaaGreatDoor
/- The map of a log (fold.Raw), the walk. -/
namespace Go.Proofs.YtfdolehffjmdmaaGreatDoor
set_option linter.unusedSimpArgs false
set_option linter.unusedVariables false
open Go.RowKit
theorem weak_eqF {x : Cx} {nt : Nat} {st st1 st2 : St} (h : st = st1) (hw : Weak x nt st1 st2) : Weak x nt st st2 := h ▸ hw
theorem opsL_mem {l : List Entry} {c : Int} {y : FOp} (h : y ∈ opsL l c) : ∃ e ∈ l, y.id = e.id ∧ meetB e.c c = true ∧ opE e = some y := by
  obtain ⟨e, he, hs⟩ := List.mem_filterMap.1 h
  refine ⟨e, (List.mem_filter.1 he).1, ?_, (List.mem_filter.1 he).2, hs⟩
  unfold opE at hs
  split at hs
  · cases hs
  · cases hs; rfl
theorem opsL_len (l : List Entry) (c : Int) : (opsL l c).length ≤ l.length := by
  have a := filterMap_len opE (withC l c)
  have b := withC_len l c
  unfold opsL; omega
theorem stands_len (l : List Entry) (c : Int) : (standsL l c).length ≤ l.length := by
  have a := opsL_len l c
  have : (standsL l c).length ≤ (opsL l c).length := List.length_filter_le ..
  omega
theorem findE_mem {l : List Entry} {e : Entry} (h : e ∈ l) : 0 ≤ findE l e.id := Int.not_lt.1 fun hlt => findE_neg.1 hlt e h rfl
theorem stand_of {l : List Entry} {c : Int} (h : LogOk l) {y : FOp} (hy : y ∈ opsL l c) : 0 ≤ findE l y.id ∧ findE l y.id < (pasts l).length ∧ (pastAt (pasts l) l y.id).length ≤ 9223372036854775806 := by
  have hm := h.len
  obtain ⟨e, he, hi, -⟩ := opsL_mem hy
  have h0 : 0 ≤ findE l y.id := by rw [hi]; exact findE_mem he
  obtain ⟨k, f1, f2, f3⟩ := findE_spec h0
  have hpl : (pastAt (pasts l) l y.id).length ≤ 40 := by rw [pastAt_eq, f1, Int.toNat_natCast]; exact pastOf_len h f2
  exact ⟨h0, by simp [pasts]; omega, by omega⟩
set_option maxRecDepth 20000 in
set_option maxHeartbeats 8000000 in
theorem fraw_meets (l : List Entry) (c : Int) (h : LogOk l) (hc : wthn c 1 7 = true) (ht : ∀ e ∈ l, e.t.size ≤ 4294967000) : Meets Tryz.prog 39 [.list (l.map cE), .int .i64 c] [] (.list ((rawL l c).map cPair)) [] := by
  have hm := h.len
  have hol := opsL_len l c
  have hsl := stands_len l c
  obtain ⟨v1, hdel⟩ := delF_meets (opsL l c) 88 [.rptr [.list ((opsL l c).map cOp)], .rptr [pvPasts l (pasts l)]] (fun o => !standB (pasts l) l (opsL l c) o) 1 (by kernel_rfl) (by omega)
    (closedCaps (by simp [renLeaf, pvPasts]) (by simp [ren, renT, renCell, renLeaf, pvPasts])) (fun nl f fz => ⟨by simp [renLeaf, pvPasts], by simp [ren, renT, renCell, renLeaf, pvPasts], by simp [renCell, renLeaf, pvPasts]⟩)
    (fun o ho => fraw1_meets l (pasts l) (opsL l c) o (by omega) (by omega) (fun y hy => stand_of h hy))
  have hff : ((opsL l c).filter fun o => !!standB (pasts l) l (opsL l c) o) = standsL l c := by
    rw [standsL]; congr 1; funext o; simp
  rw [hff] at hdel
  have hsort := sortOps_meets (standsL l c) v1 131 (by omega)
  have hfl : (sortF (standsL l c)).length = (standsL l c).length := (sortF_spec _).1.length_eq
  have hcl := cloneOps_meets ((opsL l c).map cOp) (fun row hr => by obtain ⟨o, -, rfl⟩ := List.mem_map.1 hr; rfl) (by rw [List.length_map]; omega)
  refine Meets.of_parts Tryz.func39 Tryz.ntmps39 low39 res39 (by simp) fun x hx => ?_
  simp only [LC.flat, L39, R39, List.cons_append, List.nil_append]
  refine WL_join 3 [5, 6] 2 (fun st => st = ⟨mkE .top [(6, .rptr [.list ((opsL l c).map cOp)]), (5, .rptr [pvPasts l (pasts l)]), (5, .ptr 0 0), (6, .ptr 1 0)], [.gone, .gone]⟩) (by simp [hx]) (by simp) ?_ ?_
  · simp only [go_sem, Nat.reduceLT, Nat.reduceAdd, Nat.reduceEqDiff, Nat.reduceLeDiff, Nat.reduceSub, Nat.reduceMul, Int.reduceEq, eq_self, reduceIte, L39, R39, List.take_succ_cons, List.take_zero]
    refine ops_call (.pureE (before_meets l h) (by simp [go_sem, Nat.reduceLT, Nat.reduceAdd, Nat.reduceEqDiff, Nat.reduceLeDiff, Nat.reduceSub, Nat.reduceMul, Int.reduceEq, eq_self, reduceIte])) ?_
    simp only [go_sem, Nat.reduceLT, Nat.reduceAdd, Nat.reduceEqDiff, Nat.reduceLeDiff, Nat.reduceSub, Nat.reduceMul, Int.reduceEq, eq_self, reduceIte, pvPasts]
    refine ops_call (.pureE (ops_meets l c h hc ht) (by simp [go_sem, Nat.reduceLT, Nat.reduceAdd, Nat.reduceEqDiff, Nat.reduceLeDiff, Nat.reduceSub, Nat.reduceMul, Int.reduceEq, eq_self, reduceIte])) ?_
    simp only [go_sem, Nat.reduceLT, Nat.reduceAdd, Nat.reduceEqDiff, Nat.reduceLeDiff, Nat.reduceSub, Nat.reduceMul, Int.reduceEq, eq_self, reduceIte, pvPasts]
    rw [join_normal]
    refine ⟨by simp, _, ?_, rfl⟩
    have e := weak_rptr (x := x) (nt := 79) (st := ⟨mkE .top [(5, .ptr 0 0), (6, .ptr 1 0)], [.box [pvPasts l (pasts l)], .box [.list ((opsL l c).map cOp)]]⟩) (cells' := [pvPasts l (pasts l)]) (H' := [.gone, .box [.list ((opsL l c).map cOp)]]) 5 0 rfl rfl (by simp [frz, pvPasts]) (by simp [PV.isPure, pvPasts]) rfl
    have e2 := weak_rptr (x := x) (nt := 79) (st := ⟨mkE .top [(5, .rptr [pvPasts l (pasts l)]), (5, .ptr 0 0), (6, .ptr 1 0)], [.gone, .box [.list ((opsL l c).map cOp)]]⟩) (cells' := [.list ((opsL l c).map cOp)]) (H' := [.gone, .gone]) 6 1 rfl rfl (by simp [frz]) (by simp [PV.isPure]) rfl
    rw [put_mk] at e e2
    refine Weak.trans (weak_eqF ?_ e) e2
    simp [trim_mk, go_sem, Nat.reduceLT, Nat.reduceAdd, Nat.reduceEqDiff, Nat.reduceLeDiff, Nat.reduceSub, Nat.reduceMul, Int.reduceEq, eq_self, reduceIte, subHeap, renObj, renCell, renLeaf, pos, List.range_succ, pvPasts]
  · rintro st rfl
    refine WL_walk ?_
    simp only [go_sem, Nat.reduceLT, Nat.reduceAdd, Nat.reduceEqDiff, Nat.reduceLeDiff, Nat.reduceSub, Nat.reduceMul, Int.reduceEq, eq_self, reduceIte, L39, R39, List.drop_succ_cons, List.drop_zero]
    refine ops_call (.heapE [] (r' := .arr 2 1) (H' := [.gone, .gone, .arr 1 true false 131 5 ((opsL l c).map cOp)]) hcl (by simp) (by simp) (by simp [go_sem, Nat.reduceLT, Nat.reduceAdd, Nat.reduceEqDiff, Nat.reduceLeDiff, Nat.reduceSub, Nat.reduceMul, Int.reduceEq, eq_self, reduceIte]) rfl rfl rfl) ?_
    simp only [go_sem, Nat.reduceLT, Nat.reduceAdd, Nat.reduceEqDiff, Nat.reduceLeDiff, Nat.reduceSub, Nat.reduceMul, Int.reduceEq, eq_self, reduceIte]
    refine ops_call (.heapE [2] (r' := .arr 2 v1) (H' := [.gone, .gone, .arr v1 true false 131 5 ((standsL l c).map cOp)]) hdel (by simp) (by simp) (by simp [go_sem, Nat.reduceLT, Nat.reduceAdd, Nat.reduceEqDiff, Nat.reduceLeDiff, Nat.reduceSub, Nat.reduceMul, Int.reduceEq, eq_self, reduceIte, pos, pvPasts]) (by simp [subHeap, renObj, go_sem, Nat.reduceLT, Nat.reduceAdd, Nat.reduceEqDiff, Nat.reduceLeDiff, Nat.reduceSub, Nat.reduceMul, Int.reduceEq, eq_self, reduceIte, pos]) (by simp [renT, ren, renCell, renLeaf, backF, backId]) (by simp [merge, mergeObj, callId, renObj, pos, go_sem, Nat.reduceLT, Nat.reduceAdd, Nat.reduceEqDiff, Nat.reduceLeDiff, Nat.reduceSub, Nat.reduceMul, Int.reduceEq, eq_self, reduceIte, List.range_succ, backF, backId])) ?_
    simp only [go_sem, Nat.reduceLT, Nat.reduceAdd, Nat.reduceEqDiff, Nat.reduceLeDiff, Nat.reduceSub, Nat.reduceMul, Int.reduceEq, eq_self, reduceIte]
    refine ops_call (.heapE [2] (r' := .tup []) (H' := [.gone, .gone, .arr v1 true false 131 5 ((sortF (standsL l c)).map cOp)]) hsort (by simp) (by simp) (by simp [go_sem, Nat.reduceLT, Nat.reduceAdd, Nat.reduceEqDiff, Nat.reduceLeDiff, Nat.reduceSub, Nat.reduceMul, Int.reduceEq, eq_self, reduceIte, pos]) (by simp [subHeap, renObj, go_sem, Nat.reduceLT, Nat.reduceAdd, Nat.reduceEqDiff, Nat.reduceLeDiff, Nat.reduceSub, Nat.reduceMul, Int.reduceEq, eq_self, reduceIte, pos]) rfl (by simp [merge, mergeObj, callId, renObj, pos, go_sem, Nat.reduceLT, Nat.reduceAdd, Nat.reduceEqDiff, Nat.reduceLeDiff, Nat.reduceSub, Nat.reduceMul, Int.reduceEq, eq_self, reduceIte, List.range_succ, backF, backId])) ?_
    simp only [go_sem, Nat.reduceLT, Nat.reduceAdd, Nat.reduceEqDiff, Nat.reduceLeDiff, Nat.reduceSub, Nat.reduceMul, Int.reduceEq, eq_self, reduceIte, List.length_map]
    obtain ⟨S, hS⟩ : ∃ S, sortF (standsL l c) = S := ⟨_, rfl⟩
    have hraw : rawL l c = grpL (S.map FOp.kv) := by rw [rawL, hS]
    rw [hS] at hfl
    rw [hS, hraw]
    refine loop_sel (fun n st => ∃ k vo : Nat, k + n = S.length ∧
      ((grpL ((S.take k).map FOp.kv) = [] ∧ k = 0 ∧ st = ⟨mkE .top [(7, .arr 0 v1), (8, .arr 1 vo), (23, .arr 0 v1), (24, .int .i64 S.length), (25, .int .i64 k)], [.arr v1 true false 131 5 (S.map cOp), .arr vo true true 81 2 []]⟩) ∨
       ∃ (o : List KV) (key : ByteArray) (vs : List ByteArray) (v2 : Nat), grpL ((S.take k).map FOp.kv) = o ++ [(key, vs)] ∧ (o.length + 1 ≤ k ∧ vs.length ≤ k) ∧
        st = ⟨mkE .top [(7, .arr 0 v1), (8, .arr 1 vo), (23, .arr 0 v1), (24, .int .i64 S.length), (25, .int .i64 k)], [.arr v1 true false 131 5 (S.map cOp), .arr vo true true 81 2 (o.map cPair ++ [[.str key, .arr 2 v2]]), .arr v2 true false 9 1 (vs.map cStr)]⟩)) S.length ?_ ?_
    · refine ⟨_, Weak.trans (weak_own 8 0 81 2 true true rfl (by omega)) (weak_sel [7, 8, 23, 24, 25] [2, 3] (by simp) (by simp [St.put]) (by simp [hx])), 0, 0, by omega, .inl ⟨rfl, rfl, ?_⟩⟩
      rw [put_mk]
      simp [sel_mk, go_sem, Nat.reduceLT, Nat.reduceAdd, Nat.reduceEqDiff, Nat.reduceLeDiff, Nat.reduceSub, Nat.reduceMul, Int.reduceEq, eq_self, reduceIte, subHeap, renObj, pos, List.range_succ]
    · rintro n st ⟨k, vo, hk, hI⟩
      by_cases hlt : k < S.length
      · have hg : S[k]? = some (nth S k) := nth_get? _ _ hlt
        have wk := i64_up (k := k) (by omega)
        have hst := grpL_take hlt
        rcases hI with ⟨hg0, rfl, rfl⟩ | ⟨o, key, vs, v2, hgo, hlen, rfl⟩
        · rw [hg0] at hst
          have h0 : ((0 : Int) < (S.length : Int)) = True := eq_true (by omega)
          have hneg : IntKind.i64.wrap ((0 : Int) - 1) = -1 := by decide
          have hneg2 : ((-1 : Int) < 0) = True := eq_true (by decide)
          have w1 : IntKind.i64.wrap ((0 : Int) + 1) = 1 := by decide
          simp only [go_sem, Nat.reduceLT, Nat.reduceAdd, Nat.reduceEqDiff, Nat.reduceLeDiff, Nat.reduceSub, Nat.reduceMul, Int.reduceEq, eq_self, reduceIte, Int.ofNat_zero, Int.natCast_one, Int.cast_ofNat_Int, Int.reduceLT, Int.reduceLE, Int.reduceToNat, Nat.reduceLT, Int.toNat_zero, Int.natCast_zero, Int.le_refl, Int.lt_irrefl, Int.reduceAdd, frz, false_or, or_true, List.length_map, hlt, hg, h0, hneg, hneg2, List.getElem?_map, Option.map_some, cOp, List.length_nil, PV.isPure, List.all_cons, List.all_nil]
          rw [app_arrI rfl rfl (by simp) (by simp)]
          have w2 : IntKind.i64.wrap (1 : Int) = 1 := by decide
          simp only [go_sem, Nat.reduceLT, Nat.reduceAdd, Nat.reduceEqDiff, Nat.reduceLeDiff, Nat.reduceSub, Nat.reduceMul, Int.reduceEq, eq_self, reduceIte, Int.ofNat_zero, Int.natCast_one, Int.cast_ofNat_Int, Int.reduceLT, Int.reduceLE, Int.reduceToNat, Nat.reduceLT, Int.toNat_zero, Int.natCast_zero, Int.le_refl, Int.lt_irrefl, Int.reduceAdd, frz, false_or, or_true, w1, w2]
          refine ⟨n - 1, _, by omega, weak_sel [7, 8, 23, 24, 25] [0, 1, 3] (by simp) (by simp) (by simp [hx]), 1, vo + 1, by omega, .inr ⟨[], (nth S 0).k, [(nth S 0).v], 0, ?_, by simp, ?_⟩⟩
          · rw [hst]; rfl
          · simp [sel_mk, go_sem, Nat.reduceLT, Nat.reduceAdd, Nat.reduceEqDiff, Nat.reduceLeDiff, Nat.reduceSub, Nat.reduceMul, Int.reduceEq, eq_self, reduceIte, subHeap, renObj, renCell, renLeaf, pos, List.range_succ, cStr]
        · rw [hgo] at hst
          have hL : (List.map cPair o ++ [[PV.str key, PV.arr 2 v2]]).length = o.length + 1 := by simp
          have hw1 : IntKind.i64.wrap (((o.length + 1 : Nat) : Int) - 1) = (o.length : Int) := by rw [IntWalk.i64_in _ (by omega)]; omega
          have hng : ((o.length : Int) < 0) = False := eq_false (by omega)
          have hge : (List.map cPair o ++ [[PV.str key, PV.arr 2 v2]])[o.length]? = some [PV.str key, PV.arr 2 v2] := by
            rw [List.getElem?_append_right (by simp)]; simp
          have hlo : o.length < o.length + 1 := by omega
          simp only [go_sem, Nat.reduceLT, Nat.reduceAdd, Nat.reduceEqDiff, Nat.reduceLeDiff, Nat.reduceSub, Nat.reduceMul, Int.reduceEq, eq_self, reduceIte, Int.ofNat_zero, Int.natCast_one, Int.cast_ofNat_Int, Int.reduceLT, Int.reduceLE, Int.reduceToNat, Nat.reduceLT, Int.toNat_zero, Int.natCast_zero, Int.le_refl, Int.lt_irrefl, Int.reduceAdd, frz, false_or, or_true, List.length_map, hlt, hg, List.getElem?_map, Option.map_some, cOp, hL, hw1, hng, hge, hlo]
          by_cases hk2 : key = (nth S k).k
          · simp only [go_sem, Nat.reduceLT, Nat.reduceAdd, Nat.reduceEqDiff, Nat.reduceLeDiff, Nat.reduceSub, Nat.reduceMul, Int.reduceEq, eq_self, reduceIte, Int.ofNat_zero, Int.natCast_one, Int.cast_ofNat_Int, Int.reduceLT, Int.reduceLE, Int.reduceToNat, Nat.reduceLT, Int.toNat_zero, Int.natCast_zero, Int.le_refl, Int.lt_irrefl, Int.reduceAdd, frz, false_or, or_true, hk2, decide_true, hL, hw1, hng, hge, hlo]
            subst hk2
            simp only [go_sem, Nat.reduceLT, Nat.reduceAdd, Nat.reduceEqDiff, Nat.reduceLeDiff, Nat.reduceSub, Nat.reduceMul, Int.reduceEq, eq_self, reduceIte, Int.ofNat_zero, Int.natCast_one, Int.cast_ofNat_Int, Int.reduceLT, Int.reduceLE, Int.reduceToNat, Nat.reduceLT, Int.toNat_zero, Int.natCast_zero, Int.le_refl, Int.lt_irrefl, Int.reduceAdd, frz, false_or, or_true, hL, hw1, hng, hge, hlo]
            refine ops_call (.scalarE (containsStr_meets vs (nth S k).v (by omega)) rfl (by simp [go_sem, Nat.reduceLT, Nat.reduceAdd, Nat.reduceEqDiff, Nat.reduceLeDiff, Nat.reduceSub, Nat.reduceMul, Int.reduceEq, eq_self, reduceIte, frzAt, pos])) ?_
            cases hct : vs.any fun x => decide ((nth S k).v = x)
            · simp only [go_sem, Nat.reduceLT, Nat.reduceAdd, Nat.reduceEqDiff, Nat.reduceLeDiff, Nat.reduceSub, Nat.reduceMul, Int.reduceEq, eq_self, reduceIte, Int.ofNat_zero, Int.natCast_one, Int.cast_ofNat_Int, Int.reduceLT, Int.reduceLE, Int.reduceToNat, Nat.reduceLT, Int.toNat_zero, Int.natCast_zero, Int.le_refl, Int.lt_irrefl, Int.reduceAdd, frz, false_or, or_true, hL, hw1, hng, hge, hlo, PV.isPure, List.all_cons, List.all_nil]
              rw [app_arr rfl rfl (by simp) (by simp; omega)]
              simp only [go_sem, Nat.reduceLT, Nat.reduceAdd, Nat.reduceEqDiff, Nat.reduceLeDiff, Nat.reduceSub, Nat.reduceMul, Int.reduceEq, eq_self, reduceIte, Int.ofNat_zero, Int.natCast_one, Int.cast_ofNat_Int, Int.reduceLT, Int.reduceLE, Int.reduceToNat, Nat.reduceLT, Int.toNat_zero, Int.natCast_zero, Int.le_refl, Int.lt_irrefl, Int.reduceAdd, frz, false_or, or_true, hL, hw1, hng, hge, hlo, wk, true_or, or_true, Option.map_some]
              repeat refine ⟨rfl, ?_⟩
              try simp only [go_sem, Nat.reduceLT, Nat.reduceAdd, Nat.reduceEqDiff, Nat.reduceLeDiff, Nat.reduceSub, Nat.reduceMul, Int.reduceEq, eq_self, reduceIte, Int.ofNat_zero, Int.natCast_one, Int.cast_ofNat_Int, Int.reduceLT, Int.reduceLE, Int.reduceToNat, Nat.reduceLT, Int.toNat_zero, Int.natCast_zero, Int.le_refl, Int.lt_irrefl, Int.reduceAdd, frz, false_or, or_true, wk]
              refine ⟨n - 1, _, by omega, weak_sel [7, 8, 23, 24, 25] [0, 1, 2] (by simp) (by simp) (by simp [hx]), k + 1, vo, by omega, .inr ⟨o, (nth S k).k, vs ++ [(nth S k).v], v2 + 1, ?_, by simp; omega, ?_⟩⟩
              · rw [hst]; exact grp1_app hct
              · simp [sel_mk, go_sem, Nat.reduceLT, Nat.reduceAdd, Nat.reduceEqDiff, Nat.reduceLeDiff, Nat.reduceSub, Nat.reduceMul, Int.reduceEq, eq_self, reduceIte, subHeap, renObj, renCell, renLeaf, pos, List.range_succ, cStr, cPair, frzAt]
            · simp only [go_sem, Nat.reduceLT, Nat.reduceAdd, Nat.reduceEqDiff, Nat.reduceLeDiff, Nat.reduceSub, Nat.reduceMul, Int.reduceEq, eq_self, reduceIte, Int.ofNat_zero, Int.natCast_one, Int.cast_ofNat_Int, Int.reduceLT, Int.reduceLE, Int.reduceToNat, Nat.reduceLT, Int.toNat_zero, Int.natCast_zero, Int.le_refl, Int.lt_irrefl, Int.reduceAdd, frz, false_or, or_true, wk]
              refine ⟨n - 1, _, by omega, weak_sel [7, 8, 23, 24, 25] [0, 1, 2] (by simp) (by simp) (by simp [hx]), k + 1, vo, by omega, .inr ⟨o, (nth S k).k, vs, v2, ?_, by omega, ?_⟩⟩
              · rw [hst]; exact grp1_in hct
              · simp [sel_mk, go_sem, Nat.reduceLT, Nat.reduceAdd, Nat.reduceEqDiff, Nat.reduceLeDiff, Nat.reduceSub, Nat.reduceMul, Int.reduceEq, eq_self, reduceIte, subHeap, renObj, renCell, renLeaf, pos, List.range_succ, cStr, cPair, frzAt]
          · simp only [go_sem, Nat.reduceLT, Nat.reduceAdd, Nat.reduceEqDiff, Nat.reduceLeDiff, Nat.reduceSub, Nat.reduceMul, Int.reduceEq, eq_self, reduceIte, Int.ofNat_zero, Int.natCast_one, Int.cast_ofNat_Int, Int.reduceLT, Int.reduceLE, Int.reduceToNat, Nat.reduceLT, Int.toNat_zero, Int.natCast_zero, Int.le_refl, Int.lt_irrefl, Int.reduceAdd, frz, false_or, or_true, hk2, decide_false, hL, hw1, hng, hge, hlo, PV.isPure, List.all_cons, List.all_nil]
            rw [app_arrI rfl rfl (by simp) (by simp; omega)]
            simp only [go_sem, Nat.reduceLT, Nat.reduceAdd, Nat.reduceEqDiff, Nat.reduceLeDiff, Nat.reduceSub, Nat.reduceMul, Int.reduceEq, eq_self, reduceIte, Int.ofNat_zero, Int.natCast_one, Int.cast_ofNat_Int, Int.reduceLT, Int.reduceLE, Int.reduceToNat, Nat.reduceLT, Int.toNat_zero, Int.natCast_zero, Int.le_refl, Int.lt_irrefl, Int.reduceAdd, frz, false_or, or_true, wk]
            refine ⟨n - 1, _, by omega, weak_sel [7, 8, 23, 24, 25] [0, 1, 4] (by simp) (by simp) (by simp [hx]), k + 1, vo + 1, by omega, .inr ⟨o ++ [(key, vs)], (nth S k).k, [(nth S k).v], 0, ?_, by simp; omega, ?_⟩⟩
            · rw [hst]; exact grp1_new hk2
            · simp [sel_mk, go_sem, Nat.reduceLT, Nat.reduceAdd, Nat.reduceEqDiff, Nat.reduceLeDiff, Nat.reduceSub, Nat.reduceMul, Int.reduceEq, eq_self, reduceIte, subHeap, renObj, renCell, renLeaf, pos, List.range_succ, cStr, cPair, frzAt]
      · have hkS : k = S.length := by omega
        have hkn : ¬ ((k : Int) < (S.length : Int)) := by omega
        rw [List.take_of_length_le (by omega)] at hI
        rcases hI with ⟨hg0, rfl, rfl⟩ | ⟨o, key, vs, v2, hgo, hlen, rfl⟩
        · rw [hg0]
          simp only [go_sem, Nat.reduceLT, Nat.reduceAdd, Nat.reduceEqDiff, Nat.reduceLeDiff, Nat.reduceSub, Nat.reduceMul, Int.reduceEq, eq_self, reduceIte, Int.ofNat_zero, Int.natCast_one, Int.cast_ofNat_Int, Int.reduceLT, Int.reduceLE, Int.reduceToNat, Nat.reduceLT, Int.toNat_zero, Int.natCast_zero, Int.le_refl, Int.lt_irrefl, Int.reduceAdd, frz, false_or, or_true, hkn, hlt]
          have h0 : ((0 : Int) < (S.length : Int)) = False := eq_false (by omega)
          simp only [go_sem, Nat.reduceLT, Nat.reduceAdd, Nat.reduceEqDiff, Nat.reduceLeDiff, Nat.reduceSub, Nat.reduceMul, Int.reduceEq, eq_self, reduceIte, Int.ofNat_zero, Int.natCast_one, Int.cast_ofNat_Int, Int.reduceLT, Int.reduceLE, Int.reduceToNat, Nat.reduceLT, Int.toNat_zero, Int.natCast_zero, Int.le_refl, Int.lt_irrefl, Int.reduceAdd, frz, false_or, or_true, h0]
          refine ret_weak (weak_puF 1 (rows' := []) rfl rfl rfl) ?_
          refine ret_pure hx ?_
          simp [go_sem, Nat.reduceLT, Nat.reduceAdd, Nat.reduceEqDiff, Nat.reduceLeDiff, Nat.reduceSub, Nat.reduceMul, Int.reduceEq, eq_self, reduceIte, L39, R39, frzAt, pos]
        · rw [hgo]
          simp only [go_sem, Nat.reduceLT, Nat.reduceAdd, Nat.reduceEqDiff, Nat.reduceLeDiff, Nat.reduceSub, Nat.reduceMul, Int.reduceEq, eq_self, reduceIte, Int.ofNat_zero, Int.natCast_one, Int.cast_ofNat_Int, Int.reduceLT, Int.reduceLE, Int.reduceToNat, Nat.reduceLT, Int.toNat_zero, Int.natCast_zero, Int.le_refl, Int.lt_irrefl, Int.reduceAdd, frz, false_or, or_true, hkn, hlt]
          refine ret_weak (Weak.trans (weak_sel [4] [0, 1] (by simp) (by simp) (by simp [hx])) (weak_puF 1 (v := vo) (T := 81) (sz := 2) (sto := true) (rows := (o ++ [(key, vs)]).map cPair) (rows' := (o ++ [(key, vs)]).map cPair) ?_ ?_ ?_)) ?_
          · simp [sel_mk, go_sem, Nat.reduceLT, Nat.reduceAdd, Nat.reduceEqDiff, Nat.reduceLeDiff, Nat.reduceSub, Nat.reduceMul, Int.reduceEq, eq_self, reduceIte, subHeap, renObj, renCell, renLeaf, pos, List.range_succ, cPair, frzAt]
          · simp [cPair, frz]
          · simp [cPair, PV.isPure]
          refine ret_pure hx ?_
          simp [sel_mk, go_sem, Nat.reduceLT, Nat.reduceAdd, Nat.reduceEqDiff, Nat.reduceLeDiff, Nat.reduceSub, Nat.reduceMul, Int.reduceEq, eq_self, reduceIte, L39, R39, frzAt, pos, subHeap]
end Go.Proofs.YtfdolehffjmdmaaGreatDoor
/- The map of a log, and the values of a key (fold.Map, Get). -/
namespace Go.Proofs.YtfdolehffjmdmaaGreatDoor
set_option linter.unusedSimpArgs false
set_option linter.unusedVariables false
open Go.RowKit
def mapErr (l : List Entry) (c : Int) : Int := if checkLog l = 0 then (if wthn c 1 7 = true then 0 else 3) else checkLog l
noncomputable def mapL (l : List Entry) (c : Int) : List KV := if mapErr l c = 0 then rawL l c else []
theorem mapErr_ok {l : List Entry} {c : Int} : mapErr l c = 0 ↔ LogOk l ∧ wthn c 1 7 = true := by
  unfold mapErr
  rw [← log_ok]
  split
  · split <;> simp_all
  · simp_all
def getErr (l : List Entry) (c : Int) (k : ByteArray) : Int := if mapErr l c = 0 then (if wordS k = true then 0 else 1) else mapErr l c
def valsIn (m : List KV) (k : ByteArray) : List ByteArray := match m.find? fun p => decide (p.1 = k) with
  | some p => p.2
  | none => []
noncomputable def getL (l : List Entry) (c : Int) (k : ByteArray) : List ByteArray := if getErr l c k = 0 then valsIn (rawL l c) k else []
theorem log_t {l : List Entry} (h : LogOk l) : ∀ e ∈ l, e.t.size ≤ 12 := fun e he => by
  obtain ⟨k, hk, rfl⟩ := List.getElem_of_mem he
  have := h.chk k hk
  rw [nth_eq _ _ hk] at this
  exact (check_ok_bounds this).2.2.1
theorem map_meets (l : List Entry) (c : Int) (hl : l.length ≤ 9223372036854775806) : Meets Tryz.prog 9 [.list (l.map cE), .int .i64 c] [] (.tup [.list ((mapL l c).map cPair), .int .i64 (mapErr l c)]) [] := by
  refine Meets.of_walk Tryz.func9 Tryz.ntmps9 low9 res9 (by simp) fun x hx => ?_
  simp only [go_sem, Nat.reduceLT, Nat.reduceAdd, Nat.reduceEqDiff, Nat.reduceLeDiff, Nat.reduceSub, Nat.reduceMul, Int.reduceEq, eq_self, reduceIte, L9, R9]
  refine ops_call (.pureE (dagCheck_meets l hl) (by simp [go_sem, Nat.reduceLT, Nat.reduceAdd, Nat.reduceEqDiff, Nat.reduceLeDiff, Nat.reduceSub, Nat.reduceMul, Int.reduceEq, eq_self, reduceIte])) ?_
  by_cases h1 : checkLog l = 0
  · simp only [go_sem, Nat.reduceLT, Nat.reduceAdd, Nat.reduceEqDiff, Nat.reduceLeDiff, Nat.reduceSub, Nat.reduceMul, Int.reduceEq, eq_self, reduceIte, h1]
    refine ops_call (.pureE (colors_meets c) (by simp [go_sem, Nat.reduceLT, Nat.reduceAdd, Nat.reduceEqDiff, Nat.reduceLeDiff, Nat.reduceSub, Nat.reduceMul, Int.reduceEq, eq_self, reduceIte])) ?_
    cases h2 : wthn c 1 7
    · have he : mapErr l c = 3 := by simp [mapErr, h1, h2]
      simp only [go_sem, Nat.reduceLT, Nat.reduceAdd, Nat.reduceEqDiff, Nat.reduceLeDiff, Nat.reduceSub, Nat.reduceMul, Int.reduceEq, eq_self, reduceIte, Int.ofNat_zero, Int.natCast_one, Int.cast_ofNat_Int, Int.reduceLT, Int.reduceLE, Int.reduceToNat, Nat.reduceLT, Int.toNat_zero, Int.natCast_zero, Int.le_refl, Int.lt_irrefl, Int.reduceAdd, frz, false_or, or_true]
      refine ret_pure hx ?_
      simp [go_sem, Nat.reduceLT, Nat.reduceAdd, Nat.reduceEqDiff, Nat.reduceLeDiff, Nat.reduceSub, Nat.reduceMul, Int.reduceEq, eq_self, reduceIte, L9, R9, he, mapL]
    · have he : mapErr l c = 0 := by simp [mapErr, h1, h2]
      have hok := log_ok.1 h1
      simp only [go_sem, Nat.reduceLT, Nat.reduceAdd, Nat.reduceEqDiff, Nat.reduceLeDiff, Nat.reduceSub, Nat.reduceMul, Int.reduceEq, eq_self, reduceIte, Int.ofNat_zero, Int.natCast_one, Int.cast_ofNat_Int, Int.reduceLT, Int.reduceLE, Int.reduceToNat, Nat.reduceLT, Int.toNat_zero, Int.natCast_zero, Int.le_refl, Int.lt_irrefl, Int.reduceAdd, frz, false_or, or_true]
      refine ops_call (.pureE (fraw_meets l c hok h2 (fun e hem => by have := log_t hok e hem; omega)) (by simp [go_sem, Nat.reduceLT, Nat.reduceAdd, Nat.reduceEqDiff, Nat.reduceLeDiff, Nat.reduceSub, Nat.reduceMul, Int.reduceEq, eq_self, reduceIte])) ?_
      simp only [go_sem, Nat.reduceLT, Nat.reduceAdd, Nat.reduceEqDiff, Nat.reduceLeDiff, Nat.reduceSub, Nat.reduceMul, Int.reduceEq, eq_self, reduceIte]
      refine ret_pure hx ?_
      simp [go_sem, Nat.reduceLT, Nat.reduceAdd, Nat.reduceEqDiff, Nat.reduceLeDiff, Nat.reduceSub, Nat.reduceMul, Int.reduceEq, eq_self, reduceIte, L9, R9, he, mapL]
  · have he : mapErr l c = checkLog l := by simp [mapErr, h1]
    simp only [go_sem, Nat.reduceLT, Nat.reduceAdd, Nat.reduceEqDiff, Nat.reduceLeDiff, Nat.reduceSub, Nat.reduceMul, Int.reduceEq, eq_self, reduceIte, h1]
    refine ret_pure hx ?_
    simp [go_sem, Nat.reduceLT, Nat.reduceAdd, Nat.reduceEqDiff, Nat.reduceLeDiff, Nat.reduceSub, Nat.reduceMul, Int.reduceEq, eq_self, reduceIte, L9, R9, he, h1, mapL]
theorem getC_meets (p : KV) (k : ByteArray) : Meets Tryz.prog 42 [.agg (cPair p), .rptr [.str k]] [] (.bool (decide (p.1 = k))) [] := by
  refine Meets.of_walk Tryz.func42 Tryz.ntmps42 low42 res42 (by simp) fun x hx => ?_
  simp only [go_sem, Nat.reduceLT, Nat.reduceAdd, Nat.reduceEqDiff, Nat.reduceLeDiff, Nat.reduceSub, Nat.reduceMul, Int.reduceEq, eq_self, reduceIte, L42, R42, cPair]
  refine ret_pure hx ?_
  simp [go_sem, Nat.reduceLT, Nat.reduceAdd, Nat.reduceEqDiff, Nat.reduceLeDiff, Nat.reduceSub, Nat.reduceMul, Int.reduceEq, eq_self, reduceIte, L42, R42]
instance : Inhabited KV := ⟨(⟨#[]⟩, [])⟩
theorem indexPr_meets (l : List KV) (g : Nat) (caps : List PV) (Hs : List AObj) (p : KV → Bool) (hg : hasBody Tryz.prog g = true) (hl : l.length ≤ 9223372036854775806) (hc : ClosedH Hs caps)
    (hp : ∀ e ∈ l, Meets Tryz.prog g (.agg (cPair e) :: caps) Hs (.bool (p e)) Hs) :
    Meets Tryz.prog 41 [.list (l.map cPair), .clo g caps] Hs (.int .i64 (idxF p l 0)) Hs := by
  refine Meets.of_walk Tryz.func41 Tryz.ntmps41 low41 res41 (by simp) fun x hx => ?_
  simp only [go_sem, Nat.reduceLT, Nat.reduceAdd, Nat.reduceEqDiff, Nat.reduceLeDiff, Nat.reduceSub, Nat.reduceMul, Int.reduceEq, eq_self, reduceIte, L41, R41]
  refine loop_keep [0, 1, 7, 8] (fun n st => ∃ k : Nat, k + n = l.length ∧ idxF p (l.drop k) k = idxF p l 0 ∧
    st = ⟨mkE .top [(0, .list (l.map cPair)), (1, .clo g caps), (7, .int .i64 l.length), (8, .int .i64 k)], Hs⟩) l.length ?_ ?_
  · refine ⟨0, by omega, by simp, ?_⟩
    simp [keep_mk, go_sem, Nat.reduceLT, Nat.reduceAdd, Nat.reduceEqDiff, Nat.reduceLeDiff, Nat.reduceSub, Nat.reduceMul, Int.reduceEq, eq_self, reduceIte]
  · rintro n st ⟨k, hk, hi, rfl⟩
    by_cases hlt : k < l.length
    · have hgt : l[k]? = some (nth l k) := nth_get? _ _ hlt
      have wk := i64_up (k := k) (by omega)
      rw [idxF_drop p l k hlt] at hi
      simp only [go_sem, Nat.reduceLT, Nat.reduceAdd, Nat.reduceEqDiff, Nat.reduceLeDiff, Nat.reduceSub, Nat.reduceMul, Int.reduceEq, eq_self, reduceIte, hlt, hgt, cPair, cId]
      refine ops_callv rfl hg (.whole (hp (nth l k) (by rw [nth_eq _ _ hlt]; exact List.getElem_mem hlt)) rfl ?_ hc.sub hc.back) ?_
      · simp only [go_sem, Nat.reduceLT, Nat.reduceAdd, Nat.reduceEqDiff, Nat.reduceLeDiff, Nat.reduceSub, Nat.reduceMul, Int.reduceEq, eq_self, reduceIte, cPair, cId]
        rw [hc.caps]
      cases hpk : p (nth l k)
      · rw [if_neg (by simp [hpk])] at hi
        simp only [go_sem, Nat.reduceLT, Nat.reduceAdd, Nat.reduceEqDiff, Nat.reduceLeDiff, Nat.reduceSub, Nat.reduceMul, Int.reduceEq, eq_self, reduceIte, wk]
        exact ⟨n - 1, by omega, k + 1, by omega, hi, by simp [keep_mk, go_sem, Nat.reduceLT, Nat.reduceAdd, Nat.reduceEqDiff, Nat.reduceLeDiff, Nat.reduceSub, Nat.reduceMul, Int.reduceEq, eq_self, reduceIte]⟩
      · rw [if_pos hpk] at hi
        simp only [go_sem, Nat.reduceLT, Nat.reduceAdd, Nat.reduceEqDiff, Nat.reduceLeDiff, Nat.reduceSub, Nat.reduceMul, Int.reduceEq, eq_self, reduceIte]
        refine ret_scal hx rfl hc.kept ?_
        simp [go_sem, Nat.reduceLT, Nat.reduceAdd, Nat.reduceEqDiff, Nat.reduceLeDiff, Nat.reduceSub, Nat.reduceMul, Int.reduceEq, eq_self, reduceIte, L41, R41, hi]
    · have : l.drop k = [] := List.drop_eq_nil_of_le (by omega)
      rw [this] at hi
      simp only [go_sem, Nat.reduceLT, Nat.reduceAdd, Nat.reduceEqDiff, Nat.reduceLeDiff, Nat.reduceSub, Nat.reduceMul, Int.reduceEq, eq_self, reduceIte, hlt]
      refine ret_scal hx rfl hc.kept ?_
      simp [go_sem, Nat.reduceLT, Nat.reduceAdd, Nat.reduceEqDiff, Nat.reduceLeDiff, Nat.reduceSub, Nat.reduceMul, Int.reduceEq, eq_self, reduceIte, L41, R41, ← hi, idxF]
theorem idxF_find {α : Type} [Inhabited α] (p : α → Bool) (l : List α) : (idxF p l 0 < 0 ∧ l.find? p = none) ∨ ∃ j, j < l.length ∧ idxF p l 0 = (j : Int) ∧ l.find? p = some (nth l j) := by
  have key : ∀ (l : List α) (k : Nat), (idxF p l k < 0 ∧ l.find? p = none) ∨ ∃ j, j < l.length ∧ idxF p l k = ((k + j : Nat) : Int) ∧ l.find? p = some (nth l j) := by
    intro l
    induction l with
    | nil => intro k; exact .inl ⟨by simp [idxF], rfl⟩
    | cons y l ih =>
      intro k
      cases hy : p y
      · rcases ih (k + 1) with ⟨h1, h2⟩ | ⟨j, h1, h2, h3⟩
        · exact .inl ⟨by rw [idxF, if_neg (by simp [hy])]; exact h1, by rw [List.find?_cons, hy]; exact h2⟩
        · exact .inr ⟨j + 1, by simp; omega, by rw [idxF, if_neg (by simp [hy]), h2]; congr 1; omega, by rw [List.find?_cons, hy]; exact h3⟩
      · exact .inr ⟨0, by simp, by rw [idxF, if_pos hy]; simp, by rw [List.find?_cons, hy]; rfl⟩
  rcases key l 0 with h | ⟨j, h1, h2, h3⟩
  · exact .inl h
  · exact .inr ⟨j, h1, by rw [h2, Nat.zero_add], h3⟩
theorem grp1_len (out : List KV) (o : ByteArray × ByteArray) : (grp1 out o).length ≤ out.length + 1 := by
  unfold grp1
  split
  · split
    · split
      · omega
      · rename_i p hp _ _
        have : out ≠ [] := by intro e; rw [e] at hp; simp at hp
        have := List.length_pos_iff.2 this
        simp
        try omega
    · simp
  · simp
theorem grpL_len (l : List (ByteArray × ByteArray)) : (grpL l).length ≤ l.length := by
  have key : ∀ (l : List (ByteArray × ByteArray)) (out : List KV), (l.foldl grp1 out).length ≤ out.length + l.length := by
    intro l
    induction l with
    | nil => intro out; simp
    | cons o l ih => intro out; have a := ih (grp1 out o); have b := grp1_len out o; simp only [List.foldl_cons, List.length_cons]; omega
  have := key l []
  simpa [grpL] using this
theorem rawL_len (l : List Entry) (c : Int) : (rawL l c).length ≤ l.length := by
  have a := grpL_len ((sortF (standsL l c)).map FOp.kv)
  have b := (sortF_spec (standsL l c)).1.length_eq
  have d := stands_len l c
  rw [List.length_map] at a
  unfold rawL; omega
theorem get_meets (l : List Entry) (c : Int) (k : ByteArray) (hl : l.length ≤ 9223372036854775806) (hk : k.size ≤ 1000000000000000) : Meets Tryz.prog 10 [.list (l.map cE), .int .i64 c, .str k] [] (.tup [.list ((getL l c k).map cStr), .int .i64 (getErr l c k)]) [] := by
  refine Meets.of_walk Tryz.func10 Tryz.ntmps10 low10 res10 (by simp) fun x hx => ?_
  simp only [go_sem, Nat.reduceLT, Nat.reduceAdd, Nat.reduceEqDiff, Nat.reduceLeDiff, Nat.reduceSub, Nat.reduceMul, Int.reduceEq, eq_self, reduceIte, L10, R10]
  refine ops_call (.pureE (map_meets l c hl) (by simp [go_sem, Nat.reduceLT, Nat.reduceAdd, Nat.reduceEqDiff, Nat.reduceLeDiff, Nat.reduceSub, Nat.reduceMul, Int.reduceEq, eq_self, reduceIte])) ?_
  by_cases h1 : mapErr l c = 0
  · simp only [go_sem, Nat.reduceLT, Nat.reduceAdd, Nat.reduceEqDiff, Nat.reduceLeDiff, Nat.reduceSub, Nat.reduceMul, Int.reduceEq, eq_self, reduceIte, h1]
    refine ops_call (.pureE (word_meets k hk) (by simp [go_sem, Nat.reduceLT, Nat.reduceAdd, Nat.reduceEqDiff, Nat.reduceLeDiff, Nat.reduceSub, Nat.reduceMul, Int.reduceEq, eq_self, reduceIte])) ?_
    have hmL : mapL l c = rawL l c := by rw [mapL, if_pos h1]
    cases h2 : wordS k
    · have he : getErr l c k = 1 := by simp [getErr, h1, h2]
      simp only [go_sem, Nat.reduceLT, Nat.reduceAdd, Nat.reduceEqDiff, Nat.reduceLeDiff, Nat.reduceSub, Nat.reduceMul, Int.reduceEq, eq_self, reduceIte, Int.ofNat_zero, Int.natCast_one, Int.cast_ofNat_Int, Int.reduceLT, Int.reduceLE, Int.reduceToNat, Nat.reduceLT, Int.toNat_zero, Int.natCast_zero, Int.le_refl, Int.lt_irrefl, Int.reduceAdd, frz, false_or, or_true]
      refine ret_pure hx ?_
      simp [go_sem, Nat.reduceLT, Nat.reduceAdd, Nat.reduceEqDiff, Nat.reduceLeDiff, Nat.reduceSub, Nat.reduceMul, Int.reduceEq, eq_self, reduceIte, L10, R10, he, getL]
    · have he : getErr l c k = 0 := by simp [getErr, h1, h2]
      have hle := rawL_len l c
      have hix := indexPr_meets (rawL l c) 42 [.rptr [.str k]] [] (fun p => decide (p.1 = k)) (by kernel_rfl) (by omega) (closedCaps (by simp [renLeaf]) (by simp [ren, renT, renCell, renLeaf])) (fun p _ => getC_meets p k)
      simp only [go_sem, Nat.reduceLT, Nat.reduceAdd, Nat.reduceEqDiff, Nat.reduceLeDiff, Nat.reduceSub, Nat.reduceMul, Int.reduceEq, eq_self, reduceIte, Int.ofNat_zero, Int.natCast_one, Int.cast_ofNat_Int, Int.reduceLT, Int.reduceLE, Int.reduceToNat, Nat.reduceLT, Int.toNat_zero, Int.natCast_zero, Int.le_refl, Int.lt_irrefl, Int.reduceAdd, frz, false_or, or_true, hmL]
      refine ops_call (.lookE hix rfl (by simp [go_sem, Nat.reduceLT, Nat.reduceAdd, Nat.reduceEqDiff, Nat.reduceLeDiff, Nat.reduceSub, Nat.reduceMul, Int.reduceEq, eq_self, reduceIte, lookF, lookN])) ?_
      rcases idxF_find (fun p : KV => decide (p.1 = k)) (rawL l c) with ⟨g1, g2⟩ | ⟨j, g1, g2, g3⟩
      · have g1' : (idxF (fun p : KV => decide (p.1 = k)) (rawL l c) 0 < 0) = True := eq_true g1
        simp only [go_sem, Nat.reduceLT, Nat.reduceAdd, Nat.reduceEqDiff, Nat.reduceLeDiff, Nat.reduceSub, Nat.reduceMul, Int.reduceEq, eq_self, reduceIte, Int.ofNat_zero, Int.natCast_one, Int.cast_ofNat_Int, Int.reduceLT, Int.reduceLE, Int.reduceToNat, Nat.reduceLT, Int.toNat_zero, Int.natCast_zero, Int.le_refl, Int.lt_irrefl, Int.reduceAdd, frz, false_or, or_true, g1']
        refine ret_pure hx ?_
        simp [go_sem, Nat.reduceLT, Nat.reduceAdd, Nat.reduceEqDiff, Nat.reduceLeDiff, Nat.reduceSub, Nat.reduceMul, Int.reduceEq, eq_self, reduceIte, L10, R10, he, getL, valsIn, g2]
      · have g4 : ((j : Int) < 0) = False := eq_false (by omega)
        have g5 : (rawL l c)[j]? = some (nth (rawL l c) j) := nth_get? _ _ g1
        simp only [go_sem, Nat.reduceLT, Nat.reduceAdd, Nat.reduceEqDiff, Nat.reduceLeDiff, Nat.reduceSub, Nat.reduceMul, Int.reduceEq, eq_self, reduceIte, Int.ofNat_zero, Int.natCast_one, Int.cast_ofNat_Int, Int.reduceLT, Int.reduceLE, Int.reduceToNat, Nat.reduceLT, Int.toNat_zero, Int.natCast_zero, Int.le_refl, Int.lt_irrefl, Int.reduceAdd, frz, false_or, or_true, g2, g4, g1, g5, cPair, List.getElem?_map, Option.map_some, List.length_map]
        refine ret_pure hx ?_
        simp [go_sem, Nat.reduceLT, Nat.reduceAdd, Nat.reduceEqDiff, Nat.reduceLeDiff, Nat.reduceSub, Nat.reduceMul, Int.reduceEq, eq_self, reduceIte, L10, R10, he, getL, valsIn, g3]
  · have he : getErr l c k = mapErr l c := by simp [getErr, h1]
    simp only [go_sem, Nat.reduceLT, Nat.reduceAdd, Nat.reduceEqDiff, Nat.reduceLeDiff, Nat.reduceSub, Nat.reduceMul, Int.reduceEq, eq_self, reduceIte, h1]
    refine ret_pure hx ?_
    simp [go_sem, Nat.reduceLT, Nat.reduceAdd, Nat.reduceEqDiff, Nat.reduceLeDiff, Nat.reduceSub, Nat.reduceMul, Int.reduceEq, eq_self, reduceIte, L10, R10, he, h1, getL]
end Go.Proofs.YtfdolehffjmdmaaGreatDoor
/- What a text does, told by its pieces: plain laws. -/
namespace Go.Proofs.YtfdolehffjmdmaaGreatDoor
open Go.RowKit
end Go.Proofs.YtfdolehffjmdmaaGreatDoor
/- What a text does, in the law text's words (OpOf). -/
namespace Go.Proofs.YtfdolehffjmdmaaGreatDoor
set_option linter.unusedSimpArgs false
set_option linter.unusedVariables false
open Go.RowKit
end Go.Proofs.YtfdolehffjmdmaaGreatDoor
/- The law text's own words for maps: SameTexts, SameMap, withText. -/
namespace Go.Proofs.YtfdolehffjmdmaaGreatDoor
set_option linter.unusedSimpArgs false
set_option linter.unusedVariables false
open Go.RowKit
theorem ftexts_meets (a b : List ByteArray) (ha : a.length ≤ 9223372036854775806) : Meets Tryz.prog 19 [.list (a.map cStr), .list (b.map cStr)] [] (.bool (decide (a = b))) [] := by
  refine Meets.of_walk Tryz.func19 Tryz.ntmps19 low19 res19 (by simp) fun x hx => ?_
  by_cases hl : a.length = b.length
  · have hl' : ((a.length : Int) = (b.length : Int)) = True := eq_true (by omega)
    simp only [go_sem, Nat.reduceLT, Nat.reduceAdd, Nat.reduceEqDiff, Nat.reduceLeDiff, Nat.reduceSub, Nat.reduceMul, Int.reduceEq, eq_self, reduceIte, Int.ofNat_zero, Int.natCast_one, Int.cast_ofNat_Int, Int.reduceLT, Int.reduceLE, Int.reduceToNat, Nat.reduceLT, Int.toNat_zero, Int.natCast_zero, Int.le_refl, Int.lt_irrefl, Int.reduceAdd, frz, false_or, or_true, L19, R19, List.length_map, hl']
    refine loop_inv [0, 1, 5] 0 (fun n st => ∃ k : Nat, k + n = a.length ∧ a.take k = b.take k ∧ st = ⟨mkE .top [(0, .list (a.map cStr)), (1, .list (b.map cStr)), (5, .int .i64 k)], []⟩) a.length (by simp [hx]) (by simp) ?_ ?_
    · refine ⟨0, by omega, rfl, ?_⟩
      simp [trim_mk, go_sem, Nat.reduceLT, Nat.reduceAdd, Nat.reduceEqDiff, Nat.reduceLeDiff, Nat.reduceSub, Nat.reduceMul, Int.reduceEq, eq_self, reduceIte, subHeap, renObj, pos, List.range_succ]
    · rintro n st ⟨k, hk, htk, rfl⟩
      by_cases hlt : k < a.length
      · have hlb : k < b.length := by omega
        have hga : a[k]? = some (nth a k) := nth_get? _ _ hlt
        have hgb : b[k]? = some (nth b k) := nth_get? _ _ hlb
        have wk := i64_up (k := k) (by omega)
        by_cases he : nth a k = nth b k
        · simp only [go_sem, Nat.reduceLT, Nat.reduceAdd, Nat.reduceEqDiff, Nat.reduceLeDiff, Nat.reduceSub, Nat.reduceMul, Int.reduceEq, eq_self, reduceIte, Int.ofNat_zero, Int.natCast_one, Int.cast_ofNat_Int, Int.reduceLT, Int.reduceLE, Int.reduceToNat, Nat.reduceLT, Int.toNat_zero, Int.natCast_zero, Int.le_refl, Int.lt_irrefl, Int.reduceAdd, frz, false_or, or_true, hlt, hlb, hga, hgb, cStr, List.getElem?_map, Option.map_some, List.length_map, he, decide_true, wk]
          repeat refine ⟨rfl, ?_⟩
          try simp only [go_sem, Nat.reduceLT, Nat.reduceAdd, Nat.reduceEqDiff, Nat.reduceLeDiff, Nat.reduceSub, Nat.reduceMul, Int.reduceEq, eq_self, reduceIte, Int.ofNat_zero, Int.natCast_one, Int.cast_ofNat_Int, Int.reduceLT, Int.reduceLE, Int.reduceToNat, Nat.reduceLT, Int.toNat_zero, Int.natCast_zero, Int.le_refl, Int.lt_irrefl, Int.reduceAdd, frz, false_or, or_true, wk]
          refine ⟨by simp, n - 1, by omega, k + 1, by omega, ?_, ?_⟩
          · rw [List.take_add_one, List.take_add_one, htk, hga, hgb, he]
          · simp [trim_mk, go_sem, Nat.reduceLT, Nat.reduceAdd, Nat.reduceEqDiff, Nat.reduceLeDiff, Nat.reduceSub, Nat.reduceMul, Int.reduceEq, eq_self, reduceIte, subHeap, renObj, pos, List.range_succ]
        · simp only [go_sem, Nat.reduceLT, Nat.reduceAdd, Nat.reduceEqDiff, Nat.reduceLeDiff, Nat.reduceSub, Nat.reduceMul, Int.reduceEq, eq_self, reduceIte, Int.ofNat_zero, Int.natCast_one, Int.cast_ofNat_Int, Int.reduceLT, Int.reduceLE, Int.reduceToNat, Nat.reduceLT, Int.toNat_zero, Int.natCast_zero, Int.le_refl, Int.lt_irrefl, Int.reduceAdd, frz, false_or, or_true, hlt, hlb, hga, hgb, cStr, List.getElem?_map, Option.map_some, List.length_map, he, decide_false]
          repeat refine ⟨rfl, ?_⟩
          try simp only [go_sem, Nat.reduceLT, Nat.reduceAdd, Nat.reduceEqDiff, Nat.reduceLeDiff, Nat.reduceSub, Nat.reduceMul, Int.reduceEq, eq_self, reduceIte, Int.ofNat_zero, Int.natCast_one, Int.cast_ofNat_Int, Int.reduceLT, Int.reduceLE, Int.reduceToNat, Nat.reduceLT, Int.toNat_zero, Int.natCast_zero, Int.le_refl, Int.lt_irrefl, Int.reduceAdd, frz, false_or, or_true]
          refine ret_pure hx ?_
          have : ¬ a = b := fun e => he (by rw [e])
          simp [go_sem, Nat.reduceLT, Nat.reduceAdd, Nat.reduceEqDiff, Nat.reduceLeDiff, Nat.reduceSub, Nat.reduceMul, Int.reduceEq, eq_self, reduceIte, L19, R19, this]
      · have : a = b := by
          rw [List.take_of_length_le (by omega), List.take_of_length_le (by omega)] at htk
          exact htk
        simp only [go_sem, Nat.reduceLT, Nat.reduceAdd, Nat.reduceEqDiff, Nat.reduceLeDiff, Nat.reduceSub, Nat.reduceMul, Int.reduceEq, eq_self, reduceIte, Int.ofNat_zero, Int.natCast_one, Int.cast_ofNat_Int, Int.reduceLT, Int.reduceLE, Int.reduceToNat, Nat.reduceLT, Int.toNat_zero, Int.natCast_zero, Int.le_refl, Int.lt_irrefl, Int.reduceAdd, frz, false_or, or_true, hlt, List.length_map]
        refine ret_pure hx ?_
        simp [go_sem, Nat.reduceLT, Nat.reduceAdd, Nat.reduceEqDiff, Nat.reduceLeDiff, Nat.reduceSub, Nat.reduceMul, Int.reduceEq, eq_self, reduceIte, L19, R19, this]
  · have hl' : ((a.length : Int) = (b.length : Int)) = False := eq_false (by omega)
    have : ¬ a = b := fun e => hl (by rw [e])
    simp only [go_sem, Nat.reduceLT, Nat.reduceAdd, Nat.reduceEqDiff, Nat.reduceLeDiff, Nat.reduceSub, Nat.reduceMul, Int.reduceEq, eq_self, reduceIte, Int.ofNat_zero, Int.natCast_one, Int.cast_ofNat_Int, Int.reduceLT, Int.reduceLE, Int.reduceToNat, Nat.reduceLT, Int.toNat_zero, Int.natCast_zero, Int.le_refl, Int.lt_irrefl, Int.reduceAdd, frz, false_or, or_true, L19, R19, List.length_map, hl']
    refine ret_pure hx ?_
    simp [go_sem, Nat.reduceLT, Nat.reduceAdd, Nat.reduceEqDiff, Nat.reduceLeDiff, Nat.reduceSub, Nat.reduceMul, Int.reduceEq, eq_self, reduceIte, L19, R19, this]
theorem sameMap_meets (a b : List KV) (ha : a.length ≤ 9223372036854775806) (hv : ∀ p ∈ a, p.2.length ≤ 9223372036854775806) : Meets Tryz.prog 18 [.list (a.map cPair), .list (b.map cPair)] [] (.bool (decide (a = b))) [] := by
  refine Meets.of_walk Tryz.func18 Tryz.ntmps18 low18 res18 (by simp) fun x hx => ?_
  by_cases hl : a.length = b.length
  · have hl' : ((a.length : Int) = (b.length : Int)) = True := eq_true (by omega)
    simp only [go_sem, Nat.reduceLT, Nat.reduceAdd, Nat.reduceEqDiff, Nat.reduceLeDiff, Nat.reduceSub, Nat.reduceMul, Int.reduceEq, eq_self, reduceIte, Int.ofNat_zero, Int.natCast_one, Int.cast_ofNat_Int, Int.reduceLT, Int.reduceLE, Int.reduceToNat, Nat.reduceLT, Int.toNat_zero, Int.natCast_zero, Int.le_refl, Int.lt_irrefl, Int.reduceAdd, frz, false_or, or_true, L18, R18, List.length_map, hl']
    refine loop_inv [0, 1, 5] 0 (fun n st => ∃ k : Nat, k + n = a.length ∧ a.take k = b.take k ∧ st = ⟨mkE .top [(0, .list (a.map cPair)), (1, .list (b.map cPair)), (5, .int .i64 k)], []⟩) a.length (by simp [hx]) (by simp) ?_ ?_
    · refine ⟨0, by omega, rfl, ?_⟩
      simp [trim_mk, go_sem, Nat.reduceLT, Nat.reduceAdd, Nat.reduceEqDiff, Nat.reduceLeDiff, Nat.reduceSub, Nat.reduceMul, Int.reduceEq, eq_self, reduceIte, subHeap, renObj, pos, List.range_succ]
    · rintro n st ⟨k, hk, htk, rfl⟩
      by_cases hlt : k < a.length
      · have hlb : k < b.length := by omega
        have hga : a[k]? = some (nth a k) := nth_get? _ _ hlt
        have hgb : b[k]? = some (nth b k) := nth_get? _ _ hlb
        have wk := i64_up (k := k) (by omega)
        have hva := hv (nth a k) (List.mem_of_getElem? hga)
        by_cases he : (nth a k).1 = (nth b k).1
        · simp only [go_sem, Nat.reduceLT, Nat.reduceAdd, Nat.reduceEqDiff, Nat.reduceLeDiff, Nat.reduceSub, Nat.reduceMul, Int.reduceEq, eq_self, reduceIte, Int.ofNat_zero, Int.natCast_one, Int.cast_ofNat_Int, Int.reduceLT, Int.reduceLE, Int.reduceToNat, Nat.reduceLT, Int.toNat_zero, Int.natCast_zero, Int.le_refl, Int.lt_irrefl, Int.reduceAdd, frz, false_or, or_true, hlt, hlb, hga, hgb, cPair, List.getElem?_map, Option.map_some, List.length_map, he, decide_true]
          refine ops_call (.pureE (ftexts_meets (nth a k).2 (nth b k).2 hva) (by simp [go_sem, Nat.reduceLT, Nat.reduceAdd, Nat.reduceEqDiff, Nat.reduceLeDiff, Nat.reduceSub, Nat.reduceMul, Int.reduceEq, eq_self, reduceIte])) ?_
          by_cases hv2 : (nth a k).2 = (nth b k).2
          · simp only [go_sem, Nat.reduceLT, Nat.reduceAdd, Nat.reduceEqDiff, Nat.reduceLeDiff, Nat.reduceSub, Nat.reduceMul, Int.reduceEq, eq_self, reduceIte, Int.ofNat_zero, Int.natCast_one, Int.cast_ofNat_Int, Int.reduceLT, Int.reduceLE, Int.reduceToNat, Nat.reduceLT, Int.toNat_zero, Int.natCast_zero, Int.le_refl, Int.lt_irrefl, Int.reduceAdd, frz, false_or, or_true, hv2, decide_true, wk]
            repeat refine ⟨rfl, ?_⟩
            try simp only [go_sem, Nat.reduceLT, Nat.reduceAdd, Nat.reduceEqDiff, Nat.reduceLeDiff, Nat.reduceSub, Nat.reduceMul, Int.reduceEq, eq_self, reduceIte, Int.ofNat_zero, Int.natCast_one, Int.cast_ofNat_Int, Int.reduceLT, Int.reduceLE, Int.reduceToNat, Nat.reduceLT, Int.toNat_zero, Int.natCast_zero, Int.le_refl, Int.lt_irrefl, Int.reduceAdd, frz, false_or, or_true, wk]
            refine ⟨by simp, n - 1, by omega, k + 1, by omega, ?_, ?_⟩
            · rw [List.take_add_one, List.take_add_one, htk, hga, hgb, Prod.ext he hv2]
            · simp [trim_mk, go_sem, Nat.reduceLT, Nat.reduceAdd, Nat.reduceEqDiff, Nat.reduceLeDiff, Nat.reduceSub, Nat.reduceMul, Int.reduceEq, eq_self, reduceIte, subHeap, renObj, pos, List.range_succ]
          · simp only [go_sem, Nat.reduceLT, Nat.reduceAdd, Nat.reduceEqDiff, Nat.reduceLeDiff, Nat.reduceSub, Nat.reduceMul, Int.reduceEq, eq_self, reduceIte, Int.ofNat_zero, Int.natCast_one, Int.cast_ofNat_Int, Int.reduceLT, Int.reduceLE, Int.reduceToNat, Nat.reduceLT, Int.toNat_zero, Int.natCast_zero, Int.le_refl, Int.lt_irrefl, Int.reduceAdd, frz, false_or, or_true, hv2, decide_false]
            repeat refine ⟨rfl, ?_⟩
            try simp only [go_sem, Nat.reduceLT, Nat.reduceAdd, Nat.reduceEqDiff, Nat.reduceLeDiff, Nat.reduceSub, Nat.reduceMul, Int.reduceEq, eq_self, reduceIte, Int.ofNat_zero, Int.natCast_one, Int.cast_ofNat_Int, Int.reduceLT, Int.reduceLE, Int.reduceToNat, Nat.reduceLT, Int.toNat_zero, Int.natCast_zero, Int.le_refl, Int.lt_irrefl, Int.reduceAdd, frz, false_or, or_true]
            refine ret_pure hx ?_
            have : ¬ a = b := fun e => hv2 (by rw [e])
            simp [go_sem, Nat.reduceLT, Nat.reduceAdd, Nat.reduceEqDiff, Nat.reduceLeDiff, Nat.reduceSub, Nat.reduceMul, Int.reduceEq, eq_self, reduceIte, L18, R18, this]
        · simp only [go_sem, Nat.reduceLT, Nat.reduceAdd, Nat.reduceEqDiff, Nat.reduceLeDiff, Nat.reduceSub, Nat.reduceMul, Int.reduceEq, eq_self, reduceIte, Int.ofNat_zero, Int.natCast_one, Int.cast_ofNat_Int, Int.reduceLT, Int.reduceLE, Int.reduceToNat, Nat.reduceLT, Int.toNat_zero, Int.natCast_zero, Int.le_refl, Int.lt_irrefl, Int.reduceAdd, frz, false_or, or_true, hlt, hlb, hga, hgb, cPair, List.getElem?_map, Option.map_some, List.length_map, he, decide_false]
          repeat refine ⟨rfl, ?_⟩
          try simp only [go_sem, Nat.reduceLT, Nat.reduceAdd, Nat.reduceEqDiff, Nat.reduceLeDiff, Nat.reduceSub, Nat.reduceMul, Int.reduceEq, eq_self, reduceIte, Int.ofNat_zero, Int.natCast_one, Int.cast_ofNat_Int, Int.reduceLT, Int.reduceLE, Int.reduceToNat, Nat.reduceLT, Int.toNat_zero, Int.natCast_zero, Int.le_refl, Int.lt_irrefl, Int.reduceAdd, frz, false_or, or_true]
          refine ret_pure hx ?_
          have : ¬ a = b := fun e => he (by rw [e])
          simp [go_sem, Nat.reduceLT, Nat.reduceAdd, Nat.reduceEqDiff, Nat.reduceLeDiff, Nat.reduceSub, Nat.reduceMul, Int.reduceEq, eq_self, reduceIte, L18, R18, this]
      · have : a = b := by
          rw [List.take_of_length_le (by omega), List.take_of_length_le (by omega)] at htk
          exact htk
        simp only [go_sem, Nat.reduceLT, Nat.reduceAdd, Nat.reduceEqDiff, Nat.reduceLeDiff, Nat.reduceSub, Nat.reduceMul, Int.reduceEq, eq_self, reduceIte, Int.ofNat_zero, Int.natCast_one, Int.cast_ofNat_Int, Int.reduceLT, Int.reduceLE, Int.reduceToNat, Nat.reduceLT, Int.toNat_zero, Int.natCast_zero, Int.le_refl, Int.lt_irrefl, Int.reduceAdd, frz, false_or, or_true, hlt, List.length_map]
        refine ret_pure hx ?_
        simp [go_sem, Nat.reduceLT, Nat.reduceAdd, Nat.reduceEqDiff, Nat.reduceLeDiff, Nat.reduceSub, Nat.reduceMul, Int.reduceEq, eq_self, reduceIte, L18, R18, this]
  · have hl' : ((a.length : Int) = (b.length : Int)) = False := eq_false (by omega)
    have : ¬ a = b := fun e => hl (by rw [e])
    simp only [go_sem, Nat.reduceLT, Nat.reduceAdd, Nat.reduceEqDiff, Nat.reduceLeDiff, Nat.reduceSub, Nat.reduceMul, Int.reduceEq, eq_self, reduceIte, Int.ofNat_zero, Int.natCast_one, Int.cast_ofNat_Int, Int.reduceLT, Int.reduceLE, Int.reduceToNat, Nat.reduceLT, Int.toNat_zero, Int.natCast_zero, Int.le_refl, Int.lt_irrefl, Int.reduceAdd, frz, false_or, or_true, L18, R18, List.length_map, hl']
    refine ret_pure hx ?_
    simp [go_sem, Nat.reduceLT, Nat.reduceAdd, Nat.reduceEqDiff, Nat.reduceLeDiff, Nat.reduceSub, Nat.reduceMul, Int.reduceEq, eq_self, reduceIte, L18, R18, this]
def wtStep (s : ByteArray) (r : List ByteArray × Bool) (y : ByteArray) : List ByteArray × Bool :=
  ((if r.2 = false ∧ leB s y = true then r.1 ++ [s] else r.1) ++ (if y = s then [] else [y]), r.2 || leB s y)
def wtF (s : ByteArray) (l : List ByteArray) : List ByteArray × Bool := l.foldl (wtStep s) ([], false)
def withT (l : List ByteArray) (s : ByteArray) : List ByteArray := if (wtF s l).2 = true then (wtF s l).1 else (wtF s l).1 ++ [s]
end Go.Proofs.YtfdolehffjmdmaaGreatDoor
/- Ids that are told, rising: a contract. -/
namespace Go.Proofs.YtfdolehffjmdmaaGreatDoor
set_option linter.unusedSimpArgs false
set_option linter.unusedVariables false
open Go.RowKit
def idRow (r n : Nat) : List Id := (List.range n).map fun m => ⟨r, ((m + 1 : Nat) : Int)⟩
def idsUp (r n : Nat) : List Id := (List.range r).flatMap (fun q => idRow q 20) ++ idRow r n
def allIds : List Id := idsUp 2 0
def tellB (l : List Entry) (M : List Bool) (x : Id) : Bool := decide (0 ≤ findE l x) && nth M (findE l x).toNat
def risingI (l : List Entry) (M : List Bool) : List Id := allIds.filter (tellB l M)
end Go.Proofs.YtfdolehffjmdmaaGreatDoor
/- Heads in the law text's words: a contract. -/
namespace Go.Proofs.YtfdolehffjmdmaaGreatDoor
set_option linter.unusedSimpArgs false
set_option linter.unusedVariables false
open Go.RowKit
def cutM (M P : List Bool) : List Bool := List.zipWith (fun a p => a && !p) M P
def meetsL (l : List Entry) (c : Int) : List Bool := l.map fun e => meetB e.c c
def headM (l : List Entry) (c : Int) : Nat → List Bool
  | 0 => meetsL l c
  | k + 1 => if meetB (nth l k).c c then cutM (headM l c k) (marksOf l k) else headM l c k
theorem marksOf_length (l : List Entry) (a : Nat) : (marksOf l a).length = l.length := marks_length l a (a + 1)
theorem headM_length (l : List Entry) (c : Int) : ∀ k, (headM l c k).length = l.length
  | 0 => by simp [headM, meetsL]
  | k + 1 => by
    simp only [headM]
    split
    · simp [cutM, headM_length l c k, marksOf_length]
    · exact headM_length l c k
def headsR (l : List Entry) (c : Int) : List Id := risingI l (headM l c l.length)
end Go.Proofs.YtfdolehffjmdmaaGreatDoor
/- The law text's own words for maps: ValuesOf, MapOf. -/
namespace Go.Proofs.YtfdolehffjmdmaaGreatDoor
set_option linter.unusedSimpArgs false
set_option linter.unusedVariables false
open Go.RowKit
def condR (l : List Entry) (c : Int) (key : ByteArray) (i : Nat) : Bool := decide ((opOf (nth l i).t).1 = 1) && (decide ((opOf (nth l i).t).2.1 = key) && meetB (nth l i).c c)
def blkR (l : List Entry) (c : Int) (key : ByteArray) (i n : Nat) : Bool := decide (¬ (opOf (nth l n).t).1 = 0) && (decide ((opOf (nth l n).t).2.1 = key) && (meetB (nth l n).c c && nth (marksOf l n) i))
def standR (l : List Entry) (c : Int) (key : ByteArray) (i k : Nat) : Bool := (List.range k).all fun n => !blkR l c key i n
def valStep (l : List Entry) (c : Int) (key : ByteArray) (out : List ByteArray) (i : Nat) : List ByteArray := if (condR l c key i && standR l c key i l.length) = true then withT out (opOf (nth l i).t).2.2 else out
def valsTo (l : List Entry) (c : Int) (key : ByteArray) (k : Nat) : List ByteArray := (List.range k).foldl (valStep l c key) []
def valsR (l : List Entry) (c : Int) (key : ByteArray) : List ByteArray := valsTo l c key l.length
theorem valsTo_succ (l : List Entry) (c : Int) (key : ByteArray) (k : Nat) : valsTo l c key (k + 1) = valStep l c key (valsTo l c key k) k := by
  rw [valsTo, List.range_succ, List.foldl_append]; rfl
end Go.Proofs.YtfdolehffjmdmaaGreatDoor
/- Texts put in order: plain laws. -/
namespace Go.Proofs.YtfdolehffjmdmaaGreatDoor
open Go.RowKit
theorem less_cb : ∀ a b : List UInt8, Go.Op.bytesLess a b = decide (Lib.compareBytes a b < 0)
  | [], [] => rfl
  | [], _ :: _ => rfl
  | _ :: _, [] => rfl
  | x :: a, y :: b => by
    rw [Go.Op.bytesLess, Lib.compareBytes]
    by_cases h1 : x < y
    · rw [if_pos h1]; simp [h1]
    · rw [if_neg h1]
      by_cases h2 : y < x
      · have : ¬ x = y := by intro e; rw [e] at h1 h2; exact h1 h2
        rw [if_pos h2]; simp [h1, this]
      · have : x = y := by
          rw [UInt8.lt_iff_toNat_lt] at h1 h2
          exact UInt8.toNat.inj (by omega)
        rw [if_neg h2, less_cb a b]
        simp [h1, this]
theorem leB_cmp (a b : ByteArray) : leB a b = decide (cmpB a b ≤ 0) := by
  have ha : a.toList = a.data.toList := ByteArray.toList_eq a
  have hb : b.toList = b.data.toList := ByteArray.toList_eq b
  rw [leB, ha, hb, less_cb]
  unfold cmpB
  by_cases h : Lib.compareBytes a.data.toList b.data.toList < 0
  · simp [h]; omega
  · by_cases h2 : Lib.compareBytes a.data.toList b.data.toList = 0
    · have := cb_zero h2
      simp [this, cb_refl]
    · have : ¬ a.data.toList = b.data.toList := fun e => h2 (by rw [e]; exact cb_refl _)
      have h3 : ¬ Lib.compareBytes a.data.toList b.data.toList ≤ 0 := by omega
      have h4 : ¬ a.data = b.data := fun e => this (by rw [e])
      simp [h, h4, h3]
def Up (l : List ByteArray) : Prop := l.Pairwise fun a b => cmpB a b < 0
def insT (s : ByteArray) : List ByteArray → List ByteArray
  | [] => [s]
  | y :: l => if cmpB s y < 0 then s :: y :: l else if y = s then s :: l else y :: insT s l
theorem wt_true (s : ByteArray) : ∀ (l r : List ByteArray), l.foldl (wtStep s) (r, true) = (r ++ l.filter (fun y => !decide (y = s)), true)
  | [], r => by simp
  | y :: l, r => by
    rw [List.foldl_cons]
    by_cases h : y = s
    · have : wtStep s (r, true) y = (r, true) := by simp [wtStep, h]
      rw [this, wt_true s l r]; simp [h]
    · have : wtStep s (r, true) y = (r ++ [y], true) := by simp [wtStep, h]
      rw [this, wt_true s l _]; simp [h]
theorem wt_false (s : ByteArray) : ∀ (l r : List ByteArray), Up l → (if (l.foldl (wtStep s) (r, false)).2 = true then (l.foldl (wtStep s) (r, false)).1 else (l.foldl (wtStep s) (r, false)).1 ++ [s]) = r ++ insT s l
  | [], r, _ => by simp [insT]
  | y :: l, r, hu => by
    obtain ⟨h1, h2⟩ := List.pairwise_cons.1 hu
    rw [List.foldl_cons, insT]
    by_cases hle : leB s y = true
    · have hc : cmpB s y ≤ 0 := by rw [leB_cmp] at hle; exact of_decide_eq_true hle
      have hf : l.filter (fun y => !decide (y = s)) = l := List.filter_eq_self.2 fun z hz => by
        have hyz := h1 z hz
        have : z ≠ s := by
          rintro rfl
          have := cmpB_swap z y
          omega
        simp [this]
      by_cases hy : y = s
      · have h0 : ¬ cmpB s y < 0 := by rw [hy, cmpB_refl]; omega
        have : wtStep s (r, false) y = (r ++ [s], true) := by
          rw [wtStep]; simp [hle, hy]
          rw [← hy]; rw [hy] at hle ⊢; simp [hle]
        rw [this, wt_true, hf, if_neg h0, if_pos hy]
        simp
      · have h0 : cmpB s y < 0 := by
          rcases Int.lt_or_eq_of_le hc with h | h
          · exact h
          · exact (hy (cmpB_zero h).symm).elim
        have : wtStep s (r, false) y = (r ++ [s] ++ [y], true) := by rw [wtStep]; simp [hle, hy]
        rw [this, wt_true, hf, if_pos h0]
        simp
    · have hle' : leB s y = false := by simpa using hle
      have hc : ¬ cmpB s y ≤ 0 := by rw [leB_cmp] at hle'; exact of_decide_eq_false hle'
      have hy : ¬ y = s := by rintro rfl; rw [cmpB_refl] at hc; omega
      have : wtStep s (r, false) y = (r ++ [y], false) := by rw [wtStep]; simp [hle', hy]
      rw [this, wt_false s l _ h2, if_neg (by omega), if_neg hy]
      simp
theorem withT_ins {l : List ByteArray} (s : ByteArray) (h : Up l) : withT l s = insT s l := by
  have := wt_false s l [] h
  rw [withT, wtF, this]; simp
theorem ins_mem (s : ByteArray) : ∀ {l : List ByteArray} {z : ByteArray}, z ∈ insT s l ↔ z = s ∨ z ∈ l
  | [], z => by simp [insT]
  | y :: l, z => by
    rw [insT]
    split
    · simp
    · split
      · rename_i h; subst h; simp
      · rw [List.mem_cons, ins_mem s, List.mem_cons]
        constructor
        · rintro (h | h | h)
          · exact .inr (.inl h)
          · exact .inl h
          · exact .inr (.inr h)
        · rintro (h | h | h)
          · exact .inr (.inl h)
          · exact .inl h
          · exact .inr (.inr h)
theorem ins_up (s : ByteArray) : ∀ {l : List ByteArray}, Up l → Up (insT s l)
  | [], _ => by simp [Up, insT]
  | y :: l, hu => by
    obtain ⟨h1, h2⟩ := List.pairwise_cons.1 hu
    rw [insT]
    split
    · rename_i h
      refine List.pairwise_cons.2 ⟨fun z hz => ?_, hu⟩
      rcases List.mem_cons.1 hz with rfl | hz
      · exact h
      · exact cmpB_trans h (h1 z hz)
    · split
      · rename_i h; subst h; exact hu
      · rename_i h0 hy
        refine List.pairwise_cons.2 ⟨fun z hz => ?_, ins_up s h2⟩
        rcases (ins_mem s).1 hz with rfl | hz
        · have a := cmpB_swap y z
          by_cases e : cmpB y z = 0
          · exact (hy (cmpB_zero e)).elim
          · omega
        · exact h1 z hz
theorem insT_len (s : ByteArray) : ∀ l : List ByteArray, (insT s l).length ≤ l.length + 1
  | [] => by simp [insT]
  | y :: l => by
    rw [insT]
    split
    · simp
    · split
      · simp
      · have := insT_len s l
        simp; omega
theorem strict_eq {α : Type} {r : α → α → Prop} (hi : ∀ x, ¬ r x x) (ht : ∀ x y z, r x y → r y z → r x z) : ∀ {a b : List α}, a.Pairwise r → b.Pairwise r → (∀ x, x ∈ a ↔ x ∈ b) → a = b
  | [], [], _, _, _ => rfl
  | [], y :: b, _, _, h => by have := (h y).2 (by simp); simp at this
  | x :: a, [], _, _, h => by have := (h x).1 (by simp); simp at this
  | x :: a, y :: b, h1, h2, h => by
    obtain ⟨a1, a2⟩ := List.pairwise_cons.1 h1
    obtain ⟨b1, b2⟩ := List.pairwise_cons.1 h2
    have e : x = y := by
      rcases List.mem_cons.1 ((h x).1 (by simp)) with e | hx
      · exact e
      · rcases List.mem_cons.1 ((h y).2 (by simp)) with e | hy
        · exact e.symm
        · exact (hi _ (ht _ _ _ (b1 x hx) (a1 y hy))).elim
    subst e
    rw [strict_eq hi ht a2 b2 fun z => ?_]
    constructor
    · intro hz
      rcases List.mem_cons.1 ((h z).1 (List.mem_cons_of_mem _ hz)) with rfl | hz'
      · exact (hi _ (a1 _ hz)).elim
      · exact hz'
    · intro hz
      rcases List.mem_cons.1 ((h z).2 (List.mem_cons_of_mem _ hz)) with rfl | hz'
      · exact (hi _ (b1 _ hz)).elim
      · exact hz'
theorem up_eq {a b : List ByteArray} (h1 : Up a) (h2 : Up b) (h : ∀ x, x ∈ a ↔ x ∈ b) : a = b :=
  strict_eq (r := fun a b => cmpB a b < 0) (fun x => by rw [cmpB_refl]; omega) (fun x y z => cmpB_trans) h1 h2 h
structure GoodM (m : List KV) : Prop where
  keys : m.Pairwise fun p q => cmpB p.1 q.1 < 0
  vals : ∀ p ∈ m, Up p.2 ∧ p.2 ≠ []
def inM (m : List KV) (k v : ByteArray) : Prop := ∃ p ∈ m, p.1 = k ∧ v ∈ p.2
theorem GoodM.one {m : List KV} (h : GoodM m) {p q : KV} (hp : p ∈ m) (hq : q ∈ m) (e : p.1 = q.1) : p = q := by
  obtain ⟨i, hi, rfl⟩ := List.getElem_of_mem hp
  obtain ⟨j, hj, rfl⟩ := List.getElem_of_mem hq
  have hk := List.pairwise_iff_getElem.1 h.keys
  rcases Nat.lt_trichotomy i j with hij | rfl | hij
  · have := hk i j hi hj hij; rw [e, cmpB_refl] at this; omega
  · rfl
  · have := hk j i hj hi hij; rw [e, cmpB_refl] at this; omega
theorem good_eq {a b : List KV} (ha : GoodM a) (hb : GoodM b) (h : ∀ k v, inM a k v ↔ inM b k v) : a = b := by
  have half : ∀ {a b : List KV}, GoodM a → GoodM b → (∀ k v, inM a k v ↔ inM b k v) → ∀ p ∈ a, p ∈ b := by
    intro a b ha hb h p hp
    obtain ⟨hu, hne⟩ := ha.vals p hp
    obtain ⟨v, hv⟩ := List.exists_mem_of_ne_nil _ hne
    obtain ⟨q, hq, hk, -⟩ := (h p.1 v).1 ⟨p, hp, rfl, hv⟩
    have : p.2 = q.2 := up_eq hu (hb.vals q hq).1 fun x => by
      constructor
      · intro hx
        obtain ⟨q', hq', hk', hx'⟩ := (h p.1 x).1 ⟨p, hp, rfl, hx⟩
        rw [hb.one hq hq' (by rw [hk, hk'])]; exact hx'
      · intro hx
        obtain ⟨p', hp', hk', hx'⟩ := (h p.1 x).2 ⟨q, hq, hk, hx⟩
        rw [ha.one hp hp' hk'.symm]; exact hx'
    rw [show p = q from Prod.ext hk.symm this]; exact hq
  refine strict_eq (r := fun p q : KV => cmpB p.1 q.1 < 0) (fun x => by rw [cmpB_refl]; omega) (fun x y z => cmpB_trans) ha.keys hb.keys fun p => ⟨half ha hb h p, half hb ha (fun k v => (h k v).symm) p⟩
end Go.Proofs.YtfdolehffjmdmaaGreatDoor
/- The law text's map (MapOf). -/
namespace Go.Proofs.YtfdolehffjmdmaaGreatDoor
set_option linter.unusedSimpArgs false
set_option linter.unusedVariables false
open Go.RowKit
theorem valsTo_up (l : List Entry) (c : Int) (key : ByteArray) : ∀ k, Up (valsTo l c key k) ∧ (valsTo l c key k).length ≤ k
  | 0 => ⟨by simp [valsTo, Up], by simp [valsTo]⟩
  | k + 1 => by
    obtain ⟨h1, h2⟩ := valsTo_up l c key k
    rw [valsTo_succ, valStep]
    split
    · rw [withT_ins _ h1]
      exact ⟨ins_up _ h1, by have := insT_len (opOf (nth l k).t).2.2 (valsTo l c key k); omega⟩
    · exact ⟨h1, by omega⟩
theorem valsTo_mem {l : List Entry} {c : Int} {key v : ByteArray} : ∀ {k : Nat}, v ∈ valsTo l c key k ↔ ∃ i, i < k ∧ condR l c key i = true ∧ standR l c key i l.length = true ∧ v = (opOf (nth l i).t).2.2
  | 0 => by simp [valsTo]
  | k + 1 => by
    rw [valsTo_succ, valStep]
    split
    · rename_i hc
      rw [Bool.and_eq_true] at hc
      rw [withT_ins _ (valsTo_up l c key k).1, ins_mem, valsTo_mem]
      constructor
      · rintro (h | ⟨i, h1, h2⟩)
        · exact ⟨k, by omega, hc.1, hc.2, h⟩
        · exact ⟨i, by omega, h2⟩
      · rintro ⟨i, h1, h2, h3, h4⟩
        by_cases e : i = k
        · subst e; exact .inl h4
        · exact .inr ⟨i, by omega, h2, h3, h4⟩
    · rename_i hc
      rw [valsTo_mem]
      constructor
      · rintro ⟨i, h1, h2⟩; exact ⟨i, by omega, h2⟩
      · rintro ⟨i, h1, h2, h3, h4⟩
        by_cases e : i = k
        · subst e; exact (hc (by rw [h2, h3]; rfl)).elim
        · exact ⟨i, by omega, h2, h3, h4⟩
def keyStep (ks : List ByteArray) (e : Entry) : List ByteArray := if (opOf e.t).1 = 1 then withT ks (opOf e.t).2.1 else ks
def keysTo (l : List Entry) : List ByteArray := l.foldl keyStep []
theorem keysTo_app (l : List Entry) (e : Entry) : keysTo (l ++ [e]) = keyStep (keysTo l) e := by rw [keysTo, List.foldl_append]; rfl
theorem keysTo_take {l : List Entry} {k : Nat} (h : k < l.length) : keysTo (l.take (k + 1)) = keyStep (keysTo (l.take k)) (nth l k) := by
  rw [List.take_add_one, nth_get? _ _ h, Option.toList_some, keysTo_app]
theorem keysTo_up {l : List Entry} : ∀ k, k ≤ l.length → Up (keysTo (l.take k)) ∧ (keysTo (l.take k)).length ≤ k
  | 0, _ => ⟨by simp [keysTo, Up], by simp [keysTo]⟩
  | k + 1, h => by
    obtain ⟨h1, h2⟩ := keysTo_up (l := l) k (by omega)
    rw [keysTo_take (by omega), keyStep]
    split
    · rw [withT_ins _ h1]
      exact ⟨ins_up _ h1, by have := insT_len (opOf (nth l k).t).2.1 (keysTo (l.take k)); omega⟩
    · exact ⟨h1, by omega⟩
theorem keysTo_mem {l : List Entry} {v : ByteArray} : ∀ {k : Nat}, k ≤ l.length → (v ∈ keysTo (l.take k) ↔ ∃ i, i < k ∧ (opOf (nth l i).t).1 = 1 ∧ v = (opOf (nth l i).t).2.1)
  | 0, _ => by simp [keysTo]
  | k + 1, h => by
    rw [keysTo_take (by omega), keyStep]
    split
    · rename_i hc
      rw [withT_ins _ (keysTo_up k (by omega)).1, ins_mem, keysTo_mem (by omega)]
      constructor
      · rintro (h | ⟨i, h1, h2⟩)
        · exact ⟨k, by omega, hc, h⟩
        · exact ⟨i, by omega, h2⟩
      · rintro ⟨i, h1, h2, h3⟩
        by_cases e : i = k
        · subst e; exact .inl h3
        · exact .inr ⟨i, by omega, h2, h3⟩
    · rename_i hc
      rw [keysTo_mem (by omega)]
      constructor
      · rintro ⟨i, h1, h2⟩; exact ⟨i, by omega, h2⟩
      · rintro ⟨i, h1, h2, h3⟩
        by_cases e : i = k
        · subst e; exact (hc h2).elim
        · exact ⟨i, by omega, h2, h3⟩
def mapOne (l : List Entry) (c : Int) (key : ByteArray) : Option KV := if valsR l c key = [] then none else some (key, valsR l c key)
def mapR (l : List Entry) (c : Int) : List KV := (keysTo l).filterMap (mapOne l c)
end Go.Proofs.YtfdolehffjmdmaaGreatDoor
/- Plain laws of pasts and heads: what the marks tell. No program in sight. -/
namespace Go.Proofs.YtfdolehffjmdmaaGreatDoor
theorem pastOf_trans {l : List Entry} (h : LogOk l) {j : Nat} (hj : j < l.length) : ∀ (a : Nat), a < l.length → (nth l j).id ∈ pastOf l a → ∀ y ∈ pastOf l j, y ∈ pastOf l a := by
  intro a
  induction a using Nat.strongRecOn with
  | _ a ih =>
    intro ha hm y hy
    obtain ⟨x, hx, he⟩ := (mem_pastOf h ha).1 hm
    obtain ⟨f1, f2⟩ := h.link_lt ha hx
    refine (mem_pastOf h ha).2 ⟨x, hx, .inr ?_⟩
    rcases he with rfl | he
    · rw [h.find hj, Int.toNat_natCast]; exact hy
    · exact ih _ (by omega) (by omega) he y hy
theorem nth_set {M : List Bool} {i k : Nat} (hk : k < M.length) : nth (M.set i true) k = (nth M k || decide (i = k)) := by
  rw [nth_eq _ _ (by simpa using hk), nth_eq _ _ hk, List.getElem_set]
  by_cases e : i = k
  · simp [e]
  · simp [e]
theorem nth_markL {l : List Entry} : ∀ (ls : List Id) (M : List Bool) (k : Nat), k < M.length → nth (markL l ls M) k = (nth M k || ls.any fun x => decide ((findE l x).toNat = k))
  | [], M, k, _ => by simp [markL]
  | x :: ls, M, k, h => by
    show nth (markL l ls (M.set (findE l x).toNat true)) k = _
    rw [nth_markL ls _ k (by simpa using h), nth_set h]
    simp [Bool.or_assoc]
theorem markL_link {l : List Entry} (h : LogOk l) {i k : Nat} (hi : i < l.length) (hk : k < l.length) {M : List Bool} (hM : M.length = l.length) :
    nth (markL l (nth l i).ls M) k = true ↔ nth M k = true ∨ (nth l k).id ∈ (nth l i).ls := by
  rw [nth_markL _ _ _ (by omega), Bool.or_eq_true, List.any_eq_true]
  constructor
  · rintro (h1 | ⟨x, hx, hd⟩)
    · exact .inl h1
    · obtain ⟨f1, f2⟩ := h.link_lt hi hx
      obtain ⟨m, g1, g2, g3⟩ := findE_spec f1
      have : m = k := by simpa [g1] using hd
      subst this
      exact .inr (by rw [g3]; exact hx)
  · rintro (h1 | hx)
    · exact .inl h1
    · exact .inr ⟨_, hx, by simp [h.find hk]⟩
theorem nth_repl {n k : Nat} (h : k < n) : nth (List.replicate n false) k = false := by
  rw [nth_eq _ _ (by simpa using h)]; simp
theorem marks_inv {l : List Entry} (h : LogOk l) {a : Nat} (ha : a < l.length) : ∀ s, s ≤ a →
    (∀ k, k < l.length → nth (marks l a (s + 1)) k = true → (nth l k).id ∈ pastOf l a) ∧
    (∀ k, k < l.length → (nth l k).id ∈ pastOf l a → nth (marks l a (s + 1)) k = true ∨ ∃ j, j < a - s ∧ nth (marks l a (s + 1)) j = true ∧ (nth l k).id ∈ pastOf l j)
  | 0, _ => by
    have e : marks l a 1 = markL l (nth l a).ls (List.replicate l.length false) := by simp [marks, markS]
    rw [Nat.zero_add, e]
    have hlk : ∀ k, k < l.length → (nth (markL l (nth l a).ls (List.replicate l.length false)) k = true ↔ (nth l k).id ∈ (nth l a).ls) := fun k hk => by
      rw [markL_link h ha hk (by simp), nth_repl hk]; simp
    refine ⟨fun k hk hm => (mem_pastOf h ha).2 ⟨_, (hlk k hk).1 hm, .inl rfl⟩, fun k hk hp => ?_⟩
    obtain ⟨x, hx, he⟩ := (mem_pastOf h ha).1 hp
    rcases he with rfl | he
    · exact .inl ((hlk k hk).2 hx)
    · obtain ⟨f1, f2⟩ := h.link_lt ha hx
      obtain ⟨m, g1, g2, g3⟩ := findE_spec f1
      rw [g1, Int.toNat_natCast] at he
      exact .inr ⟨m, by omega, (hlk m g2).2 (by rw [g3]; exact hx), he⟩
  | s + 1, hs => by
    obtain ⟨iA, iB⟩ := marks_inv h ha s (by omega)
    have hi : a - (s + 1) < l.length := by omega
    have e : marks l a (s + 1 + 1) = markS l a (a - (s + 1)) (marks l a (s + 1)) := rfl
    rw [e]
    generalize hM : marks l a (s + 1) = M at *
    have hMl : M.length = l.length := by rw [← hM]; exact marks_length l a _
    generalize hid : a - (s + 1) = i at *
    have hne : ¬ i = a := by omega
    unfold markS
    by_cases hm : nth M i = true
    · rw [if_pos (.inr hm)]
      have hlk : ∀ k, k < l.length → (nth (markL l (nth l i).ls M) k = true ↔ nth M k = true ∨ (nth l k).id ∈ (nth l i).ls) := fun k hk => markL_link h hi hk hMl
      refine ⟨fun k hk hkm => ?_, fun k hk hp => ?_⟩
      · rcases (hlk k hk).1 hkm with h1 | h1
        · exact iA k hk h1
        · exact pastOf_trans h hi a ha (iA i hi hm) _ ((mem_pastOf h hi).2 ⟨_, h1, .inl rfl⟩)
      · rcases iB k hk hp with h1 | ⟨j, hj, h2, h3⟩
        · exact .inl ((hlk k hk).2 (.inl h1))
        · by_cases hji : j = i
          · subst hji
            obtain ⟨x, hx, he⟩ := (mem_pastOf h hi).1 h3
            rcases he with rfl | he
            · exact .inl ((hlk k hk).2 (.inr hx))
            · obtain ⟨f1, f2⟩ := h.link_lt hi hx
              obtain ⟨m, g1, g2, g3⟩ := findE_spec f1
              rw [g1, Int.toNat_natCast] at he
              exact .inr ⟨m, by omega, (hlk m g2).2 (.inr (by rw [g3]; exact hx)), he⟩
          · exact .inr ⟨j, by omega, (hlk j (by omega)).2 (.inl h2), h3⟩
    · rw [if_neg (by simp [hne, hm])]
      refine ⟨iA, fun k hk hp => ?_⟩
      rcases iB k hk hp with h1 | ⟨j, hj, h2, h3⟩
      · exact .inl h1
      · have : j ≠ i := fun e => hm (e ▸ h2)
        exact .inr ⟨j, by omega, h2, h3⟩
theorem marksOf_iff {l : List Entry} (h : LogOk l) {a k : Nat} (ha : a < l.length) (hk : k < l.length) : nth (marksOf l a) k = true ↔ (nth l k).id ∈ pastOf l a := by
  obtain ⟨h1, h2⟩ := marks_inv h ha a (Nat.le_refl _)
  refine ⟨h1 k hk, fun hp => ?_⟩
  rcases h2 k hk hp with h3 | ⟨j, hj, -⟩
  · exact h3
  · omega
theorem allIds_asc : Asc allIds := by
  unfold Asc
  have : (allIds.Pairwise fun a b => lessB a b = true) := by decide +kernel
  exact this
theorem mem_allIds {x : Id} : x ∈ allIds ↔ okId x = true := by
  obtain ⟨r, n⟩ := x
  simp only [okId, Bool.and_eq_true, wthn_iff]
  constructor
  · intro h
    have key : ∀ y ∈ allIds, (0 ≤ y.r ∧ y.r ≤ 1) ∧ 1 ≤ y.n ∧ y.n ≤ 20 := by decide +kernel
    exact key _ h
  · rintro ⟨⟨h1, h2⟩, h3, h4⟩
    have key : ∀ (a : Fin 2) (b : Fin 20), (⟨(a.val : Int), (b.val : Int) + 1⟩ : Id) ∈ allIds := by decide +kernel
    have := key ⟨r.toNat, by omega⟩ ⟨(n - 1).toNat, by omega⟩
    simp only [Int.toNat_of_nonneg h1, Int.toNat_of_nonneg (show 0 ≤ n - 1 by omega), Int.sub_add_cancel] at this
    exact this
theorem risingI_asc (l : List Entry) (M : List Bool) : Asc (risingI l M) := allIds_asc.filter _
theorem mem_risingI {l : List Entry} (h : LogOk l) {M : List Bool} {x : Id} : x ∈ risingI l M ↔ ∃ k, k < l.length ∧ (nth l k).id = x ∧ nth M k = true := by
  unfold risingI
  rw [List.mem_filter, mem_allIds, tellB, Bool.and_eq_true, decide_eq_true_eq]
  constructor
  · rintro ⟨h1, h2, h3⟩
    obtain ⟨k, g1, g2, g3⟩ := findE_spec h2
    rw [g1, Int.toNat_natCast] at h3
    exact ⟨k, g2, g3, h3⟩
  · rintro ⟨k, hk, rfl, h3⟩
    rw [h.find hk, Int.toNat_natCast]
    exact ⟨h.id_ok hk, by omega, h3⟩
theorem rising_past {l : List Entry} (h : LogOk l) {a : Nat} (ha : a < l.length) : risingI l (marksOf l a) = pastOf l a := by
  refine asc_ext (risingI_asc _ _) (pastOf_asc h ha) fun x => ?_
  rw [mem_risingI h]
  constructor
  · rintro ⟨k, hk, rfl, hm⟩
    exact (marksOf_iff h ha hk).1 hm
  · intro hx
    obtain ⟨j, hj, rfl⟩ := pastOf_lt h a ha x hx
    exact ⟨j, by omega, rfl, (marksOf_iff h ha (by omega)).2 hx⟩
theorem nth_cut {M P : List Bool} {k : Nat} (h1 : k < M.length) (h2 : k < P.length) : nth (cutM M P) k = (nth M k && !nth P k) := by
  rw [nth_eq _ _ (by simp [cutM]; omega), nth_eq _ _ h1, nth_eq _ _ h2]; simp [cutM]
theorem headM_iff {l : List Entry} (h : LogOk l) {c : Int} {k : Nat} (hk : k < l.length) : ∀ n, n ≤ l.length → (nth (headM l c n) k = true ↔ meetB (nth l k).c c = true ∧ ∀ i, i < n → meetB (nth l i).c c = true → (nth l k).id ∉ pastOf l i)
  | 0, _ => by
    have : nth (headM l c 0) k = meetB (nth l k).c c := by
      simp only [headM, meetsL]
      rw [nth_eq _ _ (by simpa using hk)]; simp [nth_eq _ _ hk]
    rw [this]
    exact ⟨fun e => ⟨e, fun i hi => by omega⟩, fun e => e.1⟩
  | n + 1, hn => by
    have ih := headM_iff h (c := c) hk n (by omega)
    simp only [headM]
    split
    · rename_i hm
      rw [nth_cut (by rw [headM_length]; exact hk) (by rw [marksOf_length]; exact hk), Bool.and_eq_true, ih, Bool.not_eq_true', ← Bool.not_eq_true, marksOf_iff h (by omega) hk]
      constructor
      · rintro ⟨⟨h1, h2⟩, h3⟩
        refine ⟨h1, fun i hi hmi => ?_⟩
        by_cases e : i = n
        · subst e; exact h3
        · exact h2 i (by omega) hmi
      · rintro ⟨h1, h2⟩
        exact ⟨⟨h1, fun i hi => h2 i (by omega)⟩, h2 n (by omega) hm⟩
    · rename_i hm
      rw [ih]
      constructor
      · rintro ⟨h1, h2⟩
        refine ⟨h1, fun i hi hmi => ?_⟩
        by_cases e : i = n
        · subst e; exact (hm hmi).elim
        · exact h2 i (by omega) hmi
      · rintro ⟨h1, h2⟩
        exact ⟨h1, fun i hi => h2 i (by omega)⟩
theorem ids_nodup {l : List Entry} (h : LogOk l) : (l.map (·.id)).Nodup := by
  rw [List.Nodup, List.pairwise_map, List.pairwise_iff_getElem]
  intro i j hi hj hij e
  rw [← nth_eq l i hi, ← nth_eq l j hj] at e
  have := h.inj hi hj e
  omega
theorem headsC_nodup {l : List Entry} (h : LogOk l) (c : Int) : (headsC l c).Nodup := by
  refine List.Nodup.sublist (List.Sublist.map _ ?_) (ids_nodup h)
  exact List.filter_sublist.trans List.filter_sublist
theorem mem_withC {l : List Entry} {c : Int} {e : Entry} : e ∈ withC l c ↔ ∃ k, k < l.length ∧ nth l k = e ∧ meetB e.c c = true := by
  unfold withC
  rw [List.mem_filter]
  constructor
  · rintro ⟨h1, h2⟩
    obtain ⟨k, hk, rfl⟩ := List.getElem_of_mem h1
    exact ⟨k, hk, nth_eq _ _ hk, h2⟩
  · rintro ⟨k, hk, rfl, h2⟩
    exact ⟨by rw [nth_eq _ _ hk]; exact List.getElem_mem hk, h2⟩
theorem mem_headsC {l : List Entry} (h : LogOk l) {c : Int} {x : Id} : x ∈ headsC l c ↔ ∃ k, k < l.length ∧ (nth l k).id = x ∧ meetB (nth l k).c c = true ∧ ∀ i, i < l.length → meetB (nth l i).c c = true → x ∉ pastOf l i := by
  unfold headsC
  rw [List.mem_map]
  constructor
  · rintro ⟨e, he, rfl⟩
    obtain ⟨h1, h2⟩ := List.mem_filter.1 he
    obtain ⟨k, hk, rfl, hm⟩ := mem_withC.1 h1
    refine ⟨k, hk, rfl, hm, fun i hi hmi hp => ?_⟩
    simp only [Bool.not_eq_true', underB, List.any_eq_false] at h2
    have := h2 (nth l i) (mem_withC.2 ⟨i, hi, rfl, hmi⟩)
    rw [pastAt_eq, h.find hi, Int.toNat_natCast] at this
    exact this (hasI_iff.2 hp)
  · rintro ⟨k, hk, rfl, hm, hp⟩
    refine ⟨nth l k, List.mem_filter.2 ⟨mem_withC.2 ⟨k, hk, rfl, hm⟩, ?_⟩, rfl⟩
    simp only [Bool.not_eq_true', underB, List.any_eq_false]
    intro f hf
    obtain ⟨i, hi, rfl, hmi⟩ := mem_withC.1 hf
    rw [pastAt_eq, h.find hi, Int.toNat_natCast]
    exact fun hh => hp i hi hmi (hasI_iff.1 hh)
theorem heads_eq {l : List Entry} (h : LogOk l) (c : Int) : headsR l c = sortI (headsC l c) := by
  refine asc_ext (risingI_asc _ _) (sortI_asc (headsC_nodup h c)) fun x => ?_
  rw [headsR, mem_risingI h, sortI_mem, mem_headsC h]
  constructor
  · rintro ⟨k, hk, rfl, hm⟩
    obtain ⟨h1, h2⟩ := (headM_iff h hk l.length (Nat.le_refl _)).1 hm
    exact ⟨k, hk, rfl, h1, h2⟩
  · rintro ⟨k, hk, rfl, hm, hp⟩
    exact ⟨k, hk, rfl, (headM_iff h hk l.length (Nat.le_refl _)).2 ⟨hm, hp⟩⟩
end Go.Proofs.YtfdolehffjmdmaaGreatDoor
/- The map of a log is the law text's map: plain law. -/
namespace Go.Proofs.YtfdolehffjmdmaaGreatDoor
open Go.RowKit
theorem grp_step {m : List KV} {k v : ByteArray} (h : GoodM m) (hle : ∀ p ∈ m, ∀ y ∈ p.2, cmpP (p.1, y) (k, v) ≤ 0) :
    GoodM (grp1 m (k, v)) ∧ ∀ k' v', inM (grp1 m (k, v)) k' v' ↔ inM m k' v' ∨ (k' = k ∧ v' = v) := by
  cases hl : m.getLast? with
  | none =>
    have hm : m = [] := List.getLast?_eq_none_iff.1 hl
    subst hm
    have e : grp1 [] (k, v) = [(k, [v])] := rfl
    rw [e]
    refine ⟨⟨by simp, fun p hp => ?_⟩, fun k' v' => ?_⟩
    · obtain rfl : p = (k, [v]) := by simpa using hp
      exact ⟨by simp [Up], by simp⟩
    · simp only [inM, List.mem_singleton, List.not_mem_nil, false_and, exists_false, false_or]
      constructor
      · rintro ⟨p, rfl, h1, h2⟩
        exact ⟨h1.symm, by simpa using h2⟩
      · rintro ⟨h1, h2⟩
        exact ⟨_, rfl, h1.symm, by simpa using h2⟩
  | some p =>
    obtain ⟨o, rfl⟩ := List.getLast?_eq_some_iff.1 hl
    obtain ⟨key, vs⟩ := p
    obtain ⟨k1, k2, k3⟩ := List.pairwise_append.1 h.keys
    have hp : (key, vs) ∈ o ++ [(key, vs)] := by simp
    obtain ⟨u1, u2⟩ := h.vals _ hp
    simp only at u1 u2
    by_cases hk : key = k
    · subst hk
      have hvle : ∀ y ∈ vs, cmpB y v ≤ 0 := fun y hy => by
        have := hle _ hp y hy
        rw [cmpP, if_pos (cmpB_refl _)] at this
        exact this
      cases hv : vs.any fun x => decide (v = x)
      · rw [grp1_app hv]
        have hlt : ∀ y ∈ vs, cmpB y v < 0 := fun y hy => by
          have h1 := hvle y hy
          have h2 := List.any_eq_false.1 hv y hy
          have h3 : ¬ cmpB y v = 0 := fun e => h2 (by rw [cmpB_zero e]; simp)
          omega
        refine ⟨⟨?_, fun p hp' => ?_⟩, fun k' v' => ?_⟩
        · refine List.pairwise_append.2 ⟨k1, by simp, fun a ha b hb => ?_⟩
          obtain rfl : b = (key, vs ++ [v]) := by simpa using hb
          exact k3 a ha (key, vs) (by simp)
        · rcases List.mem_append.1 hp' with h1 | h1
          · exact h.vals p (List.mem_append_left _ h1)
          · obtain rfl : p = (key, vs ++ [v]) := by simpa using h1
            refine ⟨List.pairwise_append.2 ⟨u1, by simp, fun a ha b hb => ?_⟩, by simp⟩
            obtain rfl : b = v := by simpa using hb
            exact hlt a ha
        · constructor
          · rintro ⟨p, hp', e1, e2⟩
            rcases List.mem_append.1 hp' with h1 | h1
            · exact .inl ⟨p, List.mem_append_left _ h1, e1, e2⟩
            · obtain rfl : p = (key, vs ++ [v]) := by simpa using h1
              rcases List.mem_append.1 e2 with e2 | e2
              · exact .inl ⟨_, hp, e1, e2⟩
              · exact .inr ⟨e1.symm, by simpa using e2⟩
          · rintro (⟨p, hp', e1, e2⟩ | ⟨rfl, rfl⟩)
            · rcases List.mem_append.1 hp' with h1 | h1
              · exact ⟨p, List.mem_append_left _ h1, e1, e2⟩
              · obtain rfl : p = (key, vs) := by simpa using h1
                exact ⟨(key, vs ++ [v]), by simp, e1, List.mem_append_left _ e2⟩
            · exact ⟨(k', vs ++ [v']), by simp, rfl, by simp⟩
      · rw [grp1_in hv]
        refine ⟨h, fun k' v' => ?_⟩
        constructor
        · exact .inl
        · rintro (h1 | ⟨rfl, rfl⟩)
          · exact h1
          · obtain ⟨y, hy, e⟩ := List.any_eq_true.1 hv
            have e : v' = y := by simpa using e
            exact ⟨_, hp, rfl, by rw [e]; exact hy⟩
    · rw [grp1_new hk]
      have hlast : cmpB key k < 0 := by
        obtain ⟨y, hy⟩ := List.exists_mem_of_ne_nil _ u2
        have := hle _ hp y hy
        have h0 : ¬ cmpB key k = 0 := fun e => hk (cmpB_zero e)
        rw [cmpP, if_neg h0] at this
        simp only at this
        omega
      refine ⟨⟨?_, fun p hp' => ?_⟩, fun k' v' => ?_⟩
      · refine List.pairwise_append.2 ⟨h.keys, by simp, fun a ha b hb => ?_⟩
        obtain rfl : b = (k, [v]) := by simpa using hb
        rcases List.mem_append.1 ha with h1 | h1
        · exact cmpB_trans (k3 a h1 (key, vs) (by simp)) hlast
        · obtain rfl : a = (key, vs) := by simpa using h1
          exact hlast
      · rcases List.mem_append.1 hp' with h1 | h1
        · exact h.vals p h1
        · obtain rfl : p = (k, [v]) := by simpa using h1
          exact ⟨by simp [Up], by simp⟩
      · constructor
        · rintro ⟨p, hp', e1, e2⟩
          rcases List.mem_append.1 hp' with h1 | h1
          · exact .inl ⟨p, h1, e1, e2⟩
          · obtain rfl : p = (k, [v]) := by simpa using h1
            exact .inr ⟨e1.symm, by simpa using e2⟩
        · rintro (⟨p, hp', e1, e2⟩ | ⟨rfl, rfl⟩)
          · exact ⟨p, List.mem_append_left _ hp', e1, e2⟩
          · exact ⟨(k', [v']), by simp, rfl, by simp⟩
theorem grp_good : ∀ (n : Nat) (L : List (ByteArray × ByteArray)), L.length = n → (L.Pairwise fun x y => ¬ cmpP y x < 0) → GoodM (grpL L) ∧ ∀ k v, inM (grpL L) k v ↔ (k, v) ∈ L
  | 0, L, hn, _ => by
    obtain rfl : L = [] := List.length_eq_zero_iff.1 hn
    exact ⟨⟨by simp [grpL], fun p hp => by simp [grpL] at hp⟩, fun k v => by simp [grpL, inM]⟩
  | n + 1, L, hn, hL => by
    have hne : L ≠ [] := by intro e; rw [e] at hn; simp at hn
    obtain ⟨L0, x, rfl⟩ : ∃ L0 x, L = L0 ++ [x] := ⟨L.dropLast, L.getLast hne, (List.dropLast_concat_getLast hne).symm⟩
    obtain ⟨p1, -, p3⟩ := List.pairwise_append.1 hL
    obtain ⟨g1, g2⟩ := grp_good n L0 (by simpa using hn) p1
    obtain ⟨k, v⟩ := x
    have e : grpL (L0 ++ [(k, v)]) = grp1 (grpL L0) (k, v) := by rw [grpL, List.foldl_append]; rfl
    have hst := grp_step (k := k) (v := v) g1 (fun p hp y hy => by
      have hm : (p.1, y) ∈ L0 := (g2 p.1 y).1 ⟨p, hp, rfl, hy⟩
      have := p3 _ hm (k, v) (by simp)
      have h2 := cmpP_swap (p.1, y) (k, v)
      omega)
    rw [e]
    refine ⟨hst.1, fun k' v' => ?_⟩
    rw [hst.2, g2, List.mem_append, List.mem_singleton, Prod.mk.injEq]
theorem raw_good (l : List Entry) (c : Int) : GoodM (rawL l c) ∧ ∀ k v, inM (rawL l c) k v ↔ ∃ o ∈ standsL l c, o.k = k ∧ o.v = v := by
  obtain ⟨h1, h2⟩ := sortF_spec (standsL l c)
  obtain ⟨g1, g2⟩ := grp_good _ ((sortF (standsL l c)).map FOp.kv) rfl (List.pairwise_map.2 h2)
  refine ⟨g1, fun k v => ?_⟩
  rw [rawL, g2, List.mem_map]
  constructor
  · rintro ⟨o, ho, e⟩
    simp only [FOp.kv, Prod.mk.injEq] at e
    exact ⟨o, h1.mem_iff.1 ho, e⟩
  · rintro ⟨o, ho, e⟩
    exact ⟨o, h1.mem_iff.2 ho, by simp only [FOp.kv, Prod.mk.injEq]; exact e⟩
theorem mapR_good (l : List Entry) (c : Int) : GoodM (mapR l c) ∧ ∀ k v, inM (mapR l c) k v ↔ ∃ i, i < l.length ∧ condR l c k i = true ∧ standR l c k i l.length = true ∧ v = (opOf (nth l i).t).2.2 := by
  have hup := (keysTo_up l.length (Nat.le_refl _)).1
  rw [List.take_length] at hup
  refine ⟨⟨?_, fun p hp => ?_⟩, fun k v => ?_⟩
  · refine List.pairwise_filterMap.2 (hup.imp fun {a b} hab x hx y hy => ?_)
    unfold mapOne at hx hy
    split at hx
    · cases hx
    · split at hy
      · cases hy
      · cases hx; cases hy; exact hab
  · obtain ⟨k, -, hk⟩ := List.mem_filterMap.1 hp
    unfold mapOne at hk
    split at hk
    · cases hk
    · rename_i hne
      cases hk
      exact ⟨(valsTo_up l c k l.length).1, hne⟩
  · constructor
    · rintro ⟨p, hp, rfl, hv⟩
      obtain ⟨k, -, hk⟩ := List.mem_filterMap.1 hp
      unfold mapOne at hk
      split at hk
      · cases hk
      · cases hk
        exact valsTo_mem.1 hv
    · rintro ⟨i, h1, h2, h3, h4⟩
      have hv : v ∈ valsR l c k := valsTo_mem.2 ⟨i, h1, h2, h3, h4⟩
      have hne : valsR l c k ≠ [] := List.ne_nil_of_mem hv
      have hcr := h2
      simp only [condR, Bool.and_eq_true, decide_eq_true_eq] at hcr
      have hk : k ∈ keysTo l := by
        have := (keysTo_mem (l := l) (v := k) (Nat.le_refl _)).2 ⟨i, h1, hcr.1, hcr.2.1.symm⟩
        rwa [List.take_length] at this
      exact ⟨(k, valsR l c k), List.mem_filterMap.2 ⟨k, hk, by rw [mapOne, if_neg hne]⟩, rfl, hv⟩
theorem memN {l : List Entry} {e : Entry} : e ∈ l ↔ ∃ k, k < l.length ∧ nth l k = e := by
  constructor
  · intro h
    obtain ⟨k, hk, rfl⟩ := List.getElem_of_mem h
    exact ⟨k, hk, nth_eq _ _ hk⟩
  · rintro ⟨k, hk, rfl⟩
    rw [nth_eq _ _ hk]; exact List.getElem_mem hk
theorem ops_iff {l : List Entry} {c : Int} {o : FOp} : o ∈ opsL l c ↔ ∃ i, i < l.length ∧ meetB (nth l i).c c = true ∧ (opOf (nth l i).t).1 ≠ 0 ∧ o = ⟨(nth l i).id, (opOf (nth l i).t).2.1, (opOf (nth l i).t).2.2, decide ((opOf (nth l i).t).1 = 1)⟩ := by
  constructor
  · intro h
    obtain ⟨e, he, hi, hm, hs⟩ := opsL_mem h
    obtain ⟨i, hi', rfl⟩ := memN.1 he
    unfold opE at hs
    split at hs
    · cases hs
    · rename_i hne; cases hs; exact ⟨i, hi', hm, hne, rfl⟩
  · rintro ⟨i, hi, hm, hne, rfl⟩
    refine List.mem_filterMap.2 ⟨nth l i, List.mem_filter.2 ⟨memN.2 ⟨i, hi, rfl⟩, hm⟩, ?_⟩
    rw [opE, if_neg hne]
theorem past_mark {l : List Entry} (h : LogOk l) {i n : Nat} (hi : i < l.length) (hn : n < l.length) : hasI (pastAt (pasts l) l (nth l n).id) (nth l i).id = nth (marksOf l n) i := by
  rw [pastAt_eq, h.find hn, Int.toNat_natCast, Bool.eq_iff_iff, hasI_iff, marksOf_iff h hn hi]
theorem raw_map {l : List Entry} {c : Int} (h : LogOk l) : mapR l c = rawL l c := by
  obtain ⟨a1, a2⟩ := mapR_good l c
  obtain ⟨b1, b2⟩ := raw_good l c
  refine good_eq a1 b1 fun k v => ?_
  rw [a2, b2]
  constructor
  · rintro ⟨i, hi, hc, hs, rfl⟩
    simp only [condR, Bool.and_eq_true, decide_eq_true_eq] at hc
    obtain ⟨c1, c2, c3⟩ := hc
    refine ⟨⟨(nth l i).id, (opOf (nth l i).t).2.1, (opOf (nth l i).t).2.2, decide ((opOf (nth l i).t).1 = 1)⟩, List.mem_filter.2 ⟨ops_iff.2 ⟨i, hi, c3, by omega, rfl⟩, ?_⟩, c2, rfl⟩
    rw [standB]
    simp only [c1, decide_true, Bool.true_and, Bool.not_eq_true', List.any_eq_false, Bool.and_eq_true, decide_eq_true_eq, not_and, Bool.not_eq_true]
    intro y hy hyk
    obtain ⟨n, hn, m1, m2, rfl⟩ := ops_iff.1 hy
    rw [past_mark h hi hn]
    have := List.all_eq_true.1 hs n (List.mem_range.2 hn)
    simp only at hyk
    have hb : blkR l c k i n = false := by simpa using this
    cases hm : nth (marksOf l n) i
    · rfl
    · simp [blkR, m1, m2, hm, hyk, c2] at hb
  · rintro ⟨o, ho, rfl, rfl⟩
    obtain ⟨ho, hsb⟩ := List.mem_filter.1 ho
    obtain ⟨i, hi, m1, m2, rfl⟩ := ops_iff.1 ho
    rw [standB] at hsb
    simp only [Bool.and_eq_true, decide_eq_true_eq, Bool.not_eq_true', List.any_eq_false, not_and, Bool.not_eq_true] at hsb
    obtain ⟨s1, s2⟩ := hsb
    refine ⟨i, hi, by simp [condR, s1, m1], ?_, rfl⟩
    refine List.all_eq_true.2 fun n hn => ?_
    have hn := List.mem_range.1 hn
    cases hb : blkR l c (opOf (nth l i).t).2.1 i n
    · rfl
    · exfalso
      simp only [blkR, Bool.and_eq_true, decide_eq_true_eq] at hb
      obtain ⟨d1, d2, d3, d4⟩ := hb
      have := s2 _ (ops_iff.2 ⟨n, hn, d3, d1, rfl⟩) d2
      simp only at this
      rw [past_mark h hi hn, d4] at this
      cases this
end Go.Proofs.YtfdolehffjmdmaaGreatDoor
/- slices.Delete of one element of k cells: in memory, and as a contract. -/
namespace Go.Proofs.YtfdolehffjmdmaaGreatDoor
open Go.RowKit Go.Lib Go.Sort
open Go.Shelf
end Go.Proofs.YtfdolehffjmdmaaGreatDoor
/- slices.Insert of one element of k cells: in memory. -/
namespace Go.Proofs.YtfdolehffjmdmaaGreatDoor
open Go.RowKit Go.Lib Go.Sort
open Go.Shelf
end Go.Proofs.YtfdolehffjmdmaaGreatDoor
/- slices.Insert of one element of k cells where there is no room: in memory. -/
namespace Go.Proofs.YtfdolehffjmdmaaGreatDoor
open Go.RowKit Go.Lib Go.Sort
open Go.Shelf
end Go.Proofs.YtfdolehffjmdmaaGreatDoor
/- slices.Insert of one element of k cells, as a contract. -/
namespace Go.Proofs.YtfdolehffjmdmaaGreatDoor
open Go.RowKit Go.Lib Go.Sort
open Go.Shelf
end Go.Proofs.YtfdolehffjmdmaaGreatDoor
/- Players of a log: contracts. -/
namespace Go.Proofs.YtfdolehffjmdmaaGreatDoor
set_option linter.unusedSimpArgs false
set_option linter.unusedVariables false
open Go.RowKit
end Go.Proofs.YtfdolehffjmdmaaGreatDoor
/- Plain laws of orders: what comes next, and what comes at all. No program in sight. -/
namespace Go.Proofs.YtfdolehffjmdmaaGreatDoor
end Go.Proofs.YtfdolehffjmdmaaGreatDoor
/- Orders: contracts. -/
namespace Go.Proofs.YtfdolehffjmdmaaGreatDoor
set_option linter.unusedSimpArgs false
set_option linter.unusedVariables false
open Go.RowKit
structure SomeOk (l : List Entry) (ids : List Id) : Prop where
  there : ∀ x ∈ ids, 0 ≤ findE l x
  once : ids.Nodup
end Go.Proofs.YtfdolehffjmdmaaGreatDoor
/- order.Begun, Is, More, First: contracts. -/
namespace Go.Proofs.YtfdolehffjmdmaaGreatDoor
set_option linter.unusedSimpArgs false
set_option linter.unusedVariables false
open Go.RowKit
end Go.Proofs.YtfdolehffjmdmaaGreatDoor
/- Orders in the law text's words: contracts. -/
namespace Go.Proofs.YtfdolehffjmdmaaGreatDoor
set_option linter.unusedSimpArgs false
set_option linter.unusedVariables false
open Go.RowKit
end Go.Proofs.YtfdolehffjmdmaaGreatDoor
/- All that comes, in the law text's words: a contract. -/
namespace Go.Proofs.YtfdolehffjmdmaaGreatDoor
set_option linter.unusedSimpArgs false
set_option linter.unusedVariables false
open Go.RowKit
end Go.Proofs.YtfdolehffjmdmaaGreatDoor
/- Sites: copies of one's own, those that wait and are ready: contracts. -/
namespace Go.Proofs.YtfdolehffjmdmaaGreatDoor
set_option linter.unusedSimpArgs false
set_option linter.unusedVariables false
open Go.RowKit
end Go.Proofs.YtfdolehffjmdmaaGreatDoor
/- Sites: New, Check: contracts. -/
namespace Go.Proofs.YtfdolehffjmdmaaGreatDoor
set_option linter.unusedSimpArgs false
set_option linter.unusedVariables false
open Go.RowKit
end Go.Proofs.YtfdolehffjmdmaaGreatDoor
/- Sites: Append: contracts. -/
namespace Go.Proofs.YtfdolehffjmdmaaGreatDoor
set_option linter.unusedSimpArgs false
set_option linter.unusedVariables false
open Go.RowKit
end Go.Proofs.YtfdolehffjmdmaaGreatDoor
/- Sites: Receive: contracts. -/
namespace Go.Proofs.YtfdolehffjmdmaaGreatDoor
set_option linter.unusedSimpArgs false
set_option linter.unusedVariables false
open Go.RowKit
end Go.Proofs.YtfdolehffjmdmaaGreatDoor
/- Sites, in the law text's words: IsReady, CheckSite, Settled: contracts. -/
namespace Go.Proofs.YtfdolehffjmdmaaGreatDoor
set_option linter.unusedSimpArgs false
set_option linter.unusedVariables false
open Go.RowKit
end Go.Proofs.YtfdolehffjmdmaaGreatDoor
/- Sites, in the law text's words: AppendOf, ReceiveOf, SameLog and SameSite at one thing twice, siteIs: contracts. -/
namespace Go.Proofs.YtfdolehffjmdmaaGreatDoor
set_option linter.unusedSimpArgs false
set_option linter.unusedVariables false
open Go.RowKit
end Go.Proofs.YtfdolehffjmdmaaGreatDoor
/- Sites, in the law text's words: ReceiveOf: a contract. -/
namespace Go.Proofs.YtfdolehffjmdmaaGreatDoor
set_option linter.unusedSimpArgs false
set_option linter.unusedVariables false
open Go.RowKit
end Go.Proofs.YtfdolehffjmdmaaGreatDoor
/- Bytes: writing an entry. -/
namespace Go.Proofs.YtfdolehffjmdmaaGreatDoor
set_option linter.unusedSimpArgs false
set_option linter.unusedVariables false
open Go.RowKit
def e0 : Entry := ⟨⟨0, 1⟩, 1, BA [112, 117, 116, 32, 97, 32, 120], []⟩
def e1 : Entry := ⟨⟨1, 1⟩, 3, BA [112, 117, 116, 32, 97, 32, 121], []⟩
def e2 : Entry := ⟨⟨0, 2⟩, 3, BA [100, 114, 111, 112, 32, 97], [⟨0, 1⟩]⟩
def e3 : Entry := ⟨⟨1, 2⟩, 2, BA [112, 117, 116, 32, 98, 32, 122], [⟨0, 2⟩, ⟨1, 1⟩]⟩
def cE0 (e : Entry) : List PV := [.int .i64 e.id.r, .int .i64 e.id.n, .int .i64 e.c, .str e.t, if e.ls = [] then .nilsl else .list (e.ls.map cId)]
theorem entries_meets : Meets Tryz.prog 53 [] [] (.list [cE e0, cE e1, cE e2, cE e3]) [] := by
  refine Meets.nl (r := .list [cE0 e0, cE0 e1, cE0 e2, cE0 e3]) 4 ?_ (by simp [nlN, cE0, cE, cId, e0, e1, e2, e3])
  refine Meets.of_walk Tryz.func53 Tryz.ntmps53 low53 res53 (by simp) fun x hx => ?_
  simp only [go_sem, Nat.reduceLT, Nat.reduceAdd, Nat.reduceEqDiff, Nat.reduceLeDiff, Nat.reduceSub, Nat.reduceMul, Int.reduceEq, eq_self, reduceIte, L53, R53]
  iterate 7
    refine ops_call (.pure (lawId_meets _ _)) ?_
    simp only [go_sem, Nat.reduceLT, Nat.reduceAdd, Nat.reduceEqDiff, Nat.reduceLeDiff, Nat.reduceSub, Nat.reduceMul, Int.reduceEq, eq_self, reduceIte]
  refine ret_pure hx ?_
  simp [go_sem, Nat.reduceLT, Nat.reduceAdd, Nat.reduceEqDiff, Nat.reduceLeDiff, Nat.reduceSub, Nat.reduceMul, Int.reduceEq, eq_self, reduceIte, L53, R53, cE0, cId, e0, e1, e2, e3, BA]
end Go.Proofs.YtfdolehffjmdmaaGreatDoor
/- What must be in any case of logs; DagTells, as a contract. -/
namespace Go.Proofs.YtfdolehffjmdmaaGreatDoor
set_option linter.unusedSimpArgs false
set_option linter.unusedVariables false
open Go.RowKit
def eL : List Entry := [e0, e1, e2, e3]
theorem eL_check : checkLog eL = 0 := by decide +kernel
theorem eL_ok : LogOk eL := log_ok.1 eL_check
theorem eL_past : pastIds eL ⟨1, 2⟩ = [⟨0, 1⟩, ⟨0, 2⟩, ⟨1, 1⟩] := by
  have hp : pastErr eL ⟨1, 2⟩ = 0 := by decide +kernel
  have hf : (findE eL ⟨1, 2⟩).toNat = 3 := by decide +kernel
  rw [pastIds, if_pos hp, hf, ← rising_past eL_ok (by decide)]
  decide +kernel
theorem eL_heads : headsIds eL 1 = [⟨0, 2⟩, ⟨1, 1⟩] := by
  have hp : headsErr eL 1 = 0 := by decide +kernel
  rw [headsIds, if_pos hp, ← heads_eq eL_ok]
  decide +kernel
theorem eL_rows : [cE e0, cE e1, cE e2, cE e3] = eL.map cE := rfl
theorem dagBegun_meets : Meets Tryz.prog 20 [] [] (.bool true) [] := by
  have hp : pastErr eL ⟨1, 2⟩ = 0 := by decide +kernel
  have hq : headsErr eL 1 = 0 := by decide +kernel
  have hc0 : countR eL 0 = 2 := by decide +kernel
  have hc1 : countR eL 1 = 2 := by decide +kernel
  have hpi := eL_past
  have hhi := eL_heads
  have hck := eL_check
  have hent := entries_meets
  rw [eL_rows] at hent
  refine Meets.of_walk Tryz.func20 Tryz.ntmps20 low20 res20 (by simp) fun x hx => ?_
  simp only [go_sem, Nat.reduceLT, Nat.reduceAdd, Nat.reduceEqDiff, Nat.reduceLeDiff, Nat.reduceSub, Nat.reduceMul, Int.reduceEq, eq_self, reduceIte, L20, R20]
  refine ops_call (.pure hent) ?_
  simp only [go_sem, Nat.reduceLT, Nat.reduceAdd, Nat.reduceEqDiff, Nat.reduceLeDiff, Nat.reduceSub, Nat.reduceMul, Int.reduceEq, eq_self, reduceIte]
  refine ops_call (.pure (lawId_meets _ _)) ?_
  simp only [go_sem, Nat.reduceLT, Nat.reduceAdd, Nat.reduceEqDiff, Nat.reduceLeDiff, Nat.reduceSub, Nat.reduceMul, Int.reduceEq, eq_self, reduceIte]
  refine ops_call (.pureE (dagPast_meets eL ⟨1, 2⟩ (by decide)) (by simp [go_sem, Nat.reduceLT, Nat.reduceAdd, Nat.reduceEqDiff, Nat.reduceLeDiff, Nat.reduceSub, Nat.reduceMul, Int.reduceEq, eq_self, reduceIte, cId])) ?_
  simp only [go_sem, Nat.reduceLT, Nat.reduceAdd, Nat.reduceEqDiff, Nat.reduceLeDiff, Nat.reduceSub, Nat.reduceMul, Int.reduceEq, eq_self, reduceIte, hp, hpi]
  refine ops_call (.pure hent) ?_
  simp only [go_sem, Nat.reduceLT, Nat.reduceAdd, Nat.reduceEqDiff, Nat.reduceLeDiff, Nat.reduceSub, Nat.reduceMul, Int.reduceEq, eq_self, reduceIte]
  refine ops_call (.pureE (dagHeads_meets eL 1 (by decide)) (by simp [go_sem, Nat.reduceLT, Nat.reduceAdd, Nat.reduceEqDiff, Nat.reduceLeDiff, Nat.reduceSub, Nat.reduceMul, Int.reduceEq, eq_self, reduceIte])) ?_
  simp only [go_sem, Nat.reduceLT, Nat.reduceAdd, Nat.reduceEqDiff, Nat.reduceLeDiff, Nat.reduceSub, Nat.reduceMul, Int.reduceEq, eq_self, reduceIte, hq, hhi]
  refine ops_call (.pure hent) ?_
  simp only [go_sem, Nat.reduceLT, Nat.reduceAdd, Nat.reduceEqDiff, Nat.reduceLeDiff, Nat.reduceSub, Nat.reduceMul, Int.reduceEq, eq_self, reduceIte]
  refine ops_call (.pureE (dagCount_meets eL (by decide)) (by simp [go_sem, Nat.reduceLT, Nat.reduceAdd, Nat.reduceEqDiff, Nat.reduceLeDiff, Nat.reduceSub, Nat.reduceMul, Int.reduceEq, eq_self, reduceIte])) ?_
  simp only [go_sem, Nat.reduceLT, Nat.reduceAdd, Nat.reduceEqDiff, Nat.reduceLeDiff, Nat.reduceSub, Nat.reduceMul, Int.reduceEq, eq_self, reduceIte, hck, hc0, hc1]
  refine ops_call (.pure hent) ?_
  simp only [go_sem, Nat.reduceLT, Nat.reduceAdd, Nat.reduceEqDiff, Nat.reduceLeDiff, Nat.reduceSub, Nat.reduceMul, Int.reduceEq, eq_self, reduceIte]
  refine ops_call (.pureE (dagCheck_meets eL (by decide)) (by simp [go_sem, Nat.reduceLT, Nat.reduceAdd, Nat.reduceEqDiff, Nat.reduceLeDiff, Nat.reduceSub, Nat.reduceMul, Int.reduceEq, eq_self, reduceIte])) ?_
  simp only [go_sem, Nat.reduceLT, Nat.reduceAdd, Nat.reduceEqDiff, Nat.reduceLeDiff, Nat.reduceSub, Nat.reduceMul, Int.reduceEq, eq_self, reduceIte, hck]
  iterate 3
    refine ops_call (.pure (lawId_meets _ _)) ?_
    simp only [go_sem, Nat.reduceLT, Nat.reduceAdd, Nat.reduceEqDiff, Nat.reduceLeDiff, Nat.reduceSub, Nat.reduceMul, Int.reduceEq, eq_self, reduceIte]
  refine ops_call (.pureE (sameIds_meets [⟨0, 1⟩, ⟨0, 2⟩, ⟨1, 1⟩] [⟨0, 1⟩, ⟨0, 2⟩, ⟨1, 1⟩] (by decide)) (by simp [go_sem, Nat.reduceLT, Nat.reduceAdd, Nat.reduceEqDiff, Nat.reduceLeDiff, Nat.reduceSub, Nat.reduceMul, Int.reduceEq, eq_self, reduceIte, cId])) ?_
  simp only [go_sem, Nat.reduceLT, Nat.reduceAdd, Nat.reduceEqDiff, Nat.reduceLeDiff, Nat.reduceSub, Nat.reduceMul, Int.reduceEq, eq_self, reduceIte]
  iterate 2
    refine ops_call (.pure (lawId_meets _ _)) ?_
    simp only [go_sem, Nat.reduceLT, Nat.reduceAdd, Nat.reduceEqDiff, Nat.reduceLeDiff, Nat.reduceSub, Nat.reduceMul, Int.reduceEq, eq_self, reduceIte]
  refine ops_call (.pureE (sameIds_meets [⟨0, 2⟩, ⟨1, 1⟩] [⟨0, 2⟩, ⟨1, 1⟩] (by decide)) (by simp [go_sem, Nat.reduceLT, Nat.reduceAdd, Nat.reduceEqDiff, Nat.reduceLeDiff, Nat.reduceSub, Nat.reduceMul, Int.reduceEq, eq_self, reduceIte, cId])) ?_
  simp only [go_sem, Nat.reduceLT, Nat.reduceAdd, Nat.reduceEqDiff, Nat.reduceLeDiff, Nat.reduceSub, Nat.reduceMul, Int.reduceEq, eq_self, reduceIte]
  refine ret_pure hx ?_
  simp [go_sem, Nat.reduceLT, Nat.reduceAdd, Nat.reduceEqDiff, Nat.reduceLeDiff, Nat.reduceSub, Nat.reduceMul, Int.reduceEq, eq_self, reduceIte, L20, R20]
end Go.Proofs.YtfdolehffjmdmaaGreatDoor
/- What must be in any case of sites; SiteTells, as a contract. -/
namespace Go.Proofs.YtfdolehffjmdmaaGreatDoor
set_option linter.unusedSimpArgs false
set_option linter.unusedVariables false
open Go.RowKit
end Go.Proofs.YtfdolehffjmdmaaGreatDoor
/- DagPast, DagHeads, as contracts. -/
namespace Go.Proofs.YtfdolehffjmdmaaGreatDoor
set_option linter.unusedSimpArgs false
set_option linter.unusedVariables false
open Go.RowKit
theorem past_at {l : List Entry} (h0 : checkLog l = 0) {k : Nat} (hk : k < l.length) : pastErr l (nth l k).id = 0 ∧ pastIds l (nth l k).id = pastOf l k := by
  have hok := log_ok.1 h0
  have hp : pastErr l (nth l k).id = 0 := by
    rw [pastErr, if_neg (by simp [h0]), hok.find hk, if_neg (by omega)]
  exact ⟨hp, by rw [pastIds, if_pos hp, hok.find hk, Int.toNat_natCast]⟩
end Go.Proofs.YtfdolehffjmdmaaGreatDoor
/- DagParts, as a contract. -/
namespace Go.Proofs.YtfdolehffjmdmaaGreatDoor
set_option linter.unusedSimpArgs false
set_option linter.unusedVariables false
open Go.RowKit
theorem nth_take {α : Type} [Inhabited α] {l : List α} {n i : Nat} (hi : i < n) (hn : n ≤ l.length) : nth (l.take n) i = nth l i := by
  rw [nth_eq _ _ (by rw [List.length_take]; omega), nth_eq _ _ (by omega), List.getElem_take]
theorem LogOk.take {l : List Entry} (h : LogOk l) {n : Nat} (hn : n ≤ l.length) : LogOk (l.take n) where
  len := by rw [List.length_take]; have := h.len; omega
  chk := fun k hk => by
    rw [List.length_take] at hk
    rw [nth_take (by omega) hn]; exact h.chk k (by omega)
  new := fun k hk => by
    rw [List.length_take] at hk
    rw [nth_take (by omega) hn, List.take_take, Nat.min_eq_left (by omega)]; exact h.new k (by omega)
  num := fun k hk => by
    rw [List.length_take] at hk
    rw [nth_take (by omega) hn, List.take_take, Nat.min_eq_left (by omega)]; exact h.num k (by omega)
  lnk := fun k hk => by
    rw [List.length_take] at hk
    rw [nth_take (by omega) hn, List.take_take, Nat.min_eq_left (by omega)]; exact h.lnk k (by omega)
end Go.Proofs.YtfdolehffjmdmaaGreatDoor
/- Sites: what is appended and what settles leaves a right log (plain). -/
namespace Go.Proofs.YtfdolehffjmdmaaGreatDoor
open Go.RowKit
end Go.Proofs.YtfdolehffjmdmaaGreatDoor
/- DagHeads, as a contract. -/
namespace Go.Proofs.YtfdolehffjmdmaaGreatDoor
set_option linter.unusedSimpArgs false
set_option linter.unusedVariables false
open Go.RowKit
end Go.Proofs.YtfdolehffjmdmaaGreatDoor
/- SiteLinks, as a contract. -/
namespace Go.Proofs.YtfdolehffjmdmaaGreatDoor
set_option linter.unusedSimpArgs false
set_option linter.unusedVariables false
open Go.RowKit
structure Tail (A B : List Entry) (f : Entry) (d : Int) : Prop where
  a : LogOk A
  b : LogOk B
  at_ : nth A B.length = f
  lt : B.length < A.length
  eq : ∀ k, k < B.length → nth A k = nth B k
  past : ∀ k, k < B.length → pastOf A k = pastOf B k
  ls : f.ls = sortI (headsC B d)
theorem Tail.head {A B : List Entry} {f : Entry} {d : Int} (h : Tail A B f d) {x : Id} (hx : x ∈ f.ls) : ∃ k, k < B.length ∧ (nth A k).id = x ∧ meetB (nth B k).c d = true ∧ ∀ i, i < B.length → meetB (nth B i).c d = true → x ∉ pastOf A i := by
  rw [h.ls] at hx
  obtain ⟨k, a, b, c, e⟩ := (mem_headsC h.b).1 (sortI_mem.1 hx)
  exact ⟨k, a, by rw [h.eq k a]; exact b, c, fun i hi hm => by rw [h.past i hi]; exact e i hi hm⟩
theorem Tail.apart {A B : List Entry} {f : Entry} {d : Int} (h : Tail A B f d) {x : Id} (hx : x ∈ f.ls) : ∃ k, pastErr A x = 0 ∧ pastIds A x = pastOf A k ∧ (pastOf A k).length ≤ 40 ∧ ∀ y ∈ f.ls, hasI (pastOf A k) y = false := by
  obtain ⟨k, hk, rfl, hm, -⟩ := h.head hx
  have hka : k < A.length := by have := h.lt; omega
  obtain ⟨p1, p2⟩ := past_at (log_ok.2 h.a) hka
  refine ⟨k, p1, p2, pastOf_len h.a hka, fun y hy => ?_⟩
  obtain ⟨k', hk', -, -, hn⟩ := h.head hy
  cases e : hasI (pastOf A k) y
  · rfl
  · exact (hn k hk hm (hasI_iff.1 e)).elim
end Go.Proofs.YtfdolehffjmdmaaGreatDoor
/- Maps hang on the set of entries; what one who knows all puts or drops: plain laws. -/
namespace Go.Proofs.YtfdolehffjmdmaaGreatDoor
open Go.RowKit
theorem past_same {l m : List Entry} (hl : LogOk l) (hm : LogOk m) (hs : ∀ e ∈ l, e ∈ m) : ∀ (k : Nat), k < l.length → ∀ j, j < m.length → (nth l k).id = (nth m j).id → pastOf l k = pastOf m j := by
  intro k
  induction k using Nat.strongRecOn with
  | ind k ih =>
  intro hk j hj e
  have hent : nth m j = nth l k := by
    obtain ⟨i, hi, ei⟩ := memN.1 (hs (nth l k) (memN.2 ⟨k, hk, rfl⟩))
    have : i = j := hm.inj hi hj (by rw [ei, e])
    rw [← this, ei]
  refine asc_ext (pastOf_asc hl hk) (pastOf_asc hm hj) fun y => ?_
  rw [mem_pastOf hl hk, mem_pastOf hm hj, hent]
  refine exists_congr fun x => and_congr_right fun hx => ?_
  have h1 := hl.link_lt hk hx
  have h2 := hm.link_lt hj (x := x) (by rw [hent]; exact hx)
  obtain ⟨k', e1, hk', ek⟩ := findE_spec h1.1
  obtain ⟨j', e2, hj', ej⟩ := findE_spec h2.1
  rw [e1, e2, Int.toNat_natCast, Int.toNat_natCast, ih k' (by omega) hk' j' hj' (by rw [ek, ej])]
def standE (l : List Entry) (c : Int) (e : Entry) : Prop := (opOf e.t).1 = 1 ∧ meetB e.c c = true ∧ ∀ n, n < l.length → (opOf (nth l n).t).1 ≠ 0 → (opOf (nth l n).t).2.1 = (opOf e.t).2.1 → meetB (nth l n).c c = true → e.id ∉ pastOf l n
theorem raw_iff {l : List Entry} {c : Int} (h : LogOk l) {k v : ByteArray} : inM (rawL l c) k v ↔ ∃ i, i < l.length ∧ standE l c (nth l i) ∧ (opOf (nth l i).t).2.1 = k ∧ (opOf (nth l i).t).2.2 = v := by
  rw [(raw_good l c).2]
  have hp : ∀ n, n < l.length → pastAt (pasts l) l (nth l n).id = pastOf l n := fun n hn => by rw [pastAt_eq, h.find hn, Int.toNat_natCast]
  constructor
  · rintro ⟨o, ho, rfl, rfl⟩
    obtain ⟨ho, hsb⟩ := List.mem_filter.1 ho
    obtain ⟨i, hi, m1, m2, rfl⟩ := ops_iff.1 ho
    rw [standB] at hsb
    simp only [Bool.and_eq_true, decide_eq_true_eq, Bool.not_eq_true', List.any_eq_false, not_and, Bool.not_eq_true] at hsb
    obtain ⟨s1, s2⟩ := hsb
    refine ⟨i, hi, ⟨s1, m1, fun n hn b1 b2 b3 hm => ?_⟩, rfl, rfl⟩
    have := s2 _ (ops_iff.2 ⟨n, hn, b3, b1, rfl⟩) b2
    simp only at this
    rw [hp n hn, ← Bool.not_eq_true, hasI_iff] at this
    exact this hm
  · rintro ⟨i, hi, ⟨s1, s2, s3⟩, rfl, rfl⟩
    refine ⟨⟨(nth l i).id, (opOf (nth l i).t).2.1, (opOf (nth l i).t).2.2, decide ((opOf (nth l i).t).1 = 1)⟩, List.mem_filter.2 ⟨ops_iff.2 ⟨i, hi, s2, by omega, rfl⟩, ?_⟩, rfl, rfl⟩
    rw [standB]
    simp only [s1, decide_true, Bool.true_and, Bool.not_eq_true', List.any_eq_false, Bool.and_eq_true, decide_eq_true_eq, not_and, Bool.not_eq_true]
    intro y hy hyk
    obtain ⟨n, hn, m1, m2, rfl⟩ := ops_iff.1 hy
    simp only at hyk ⊢
    rw [hp n hn, ← Bool.not_eq_true, hasI_iff]
    exact s3 n hn m2 hyk m1
theorem standE_sub {l m : List Entry} (hl : LogOk l) (hm : LogOk m) (h1 : ∀ e ∈ l, e ∈ m) {c : Int} {e : Entry} (h : standE m c e) : standE l c e := by
  obtain ⟨a, b, d⟩ := h
  refine ⟨a, b, fun n hn x1 x2 x3 hp => ?_⟩
  obtain ⟨j, hj, ej⟩ := memN.1 (h1 _ (memN.2 ⟨n, hn, rfl⟩))
  refine d j hj (by rw [ej]; exact x1) (by rw [ej]; exact x2) (by rw [ej]; exact x3) ?_
  rw [← past_same hl hm h1 n hn j hj (by rw [ej])]
  exact hp
theorem raw_sets {l m : List Entry} {c : Int} (hl : LogOk l) (hm : LogOk m) (h1 : ∀ e ∈ l, e ∈ m) (h2 : ∀ e ∈ m, e ∈ l) : rawL l c = rawL m c := by
  refine good_eq (raw_good l c).1 (raw_good m c).1 fun k v => ?_
  rw [raw_iff hl, raw_iff hm]
  constructor
  · rintro ⟨i, hi, s, e1, e2⟩
    obtain ⟨j, hj, ej⟩ := memN.1 (h1 _ (memN.2 ⟨i, hi, rfl⟩))
    exact ⟨j, hj, by rw [ej]; exact standE_sub hm hl h2 s, by rw [ej]; exact e1, by rw [ej]; exact e2⟩
  · rintro ⟨i, hi, s, e1, e2⟩
    obtain ⟨j, hj, ej⟩ := memN.1 (h2 _ (memN.2 ⟨i, hi, rfl⟩))
    exact ⟨j, hj, by rw [ej]; exact standE_sub hl hm h1 s, by rw [ej]; exact e1, by rw [ej]; exact e2⟩
section
variable {lg : List Entry} {f : Entry} {c : Int}
end
end Go.Proofs.YtfdolehffjmdmaaGreatDoor
/- FoldTells, as a contract. -/
namespace Go.Proofs.YtfdolehffjmdmaaGreatDoor
set_option linter.unusedSimpArgs false
set_option linter.unusedVariables false
open Go.RowKit
def entsF : List Entry := [e0, e1, e2, e3]
theorem ents_check : checkLog entsF = 0 := by decide +kernel
theorem ents_map : mapR entsF 3 = [(⟨#[97]⟩, [⟨#[121]⟩]), (⟨#[98]⟩, [⟨#[122]⟩])] := by decide +kernel
theorem ents_raw : rawL entsF 3 = [(⟨#[97]⟩, [⟨#[121]⟩]), (⟨#[98]⟩, [⟨#[122]⟩])] := by rw [← raw_map (log_ok.1 ents_check), ents_map]
set_option maxRecDepth 20000 in
set_option maxHeartbeats 4000000 in
theorem foldBegun_meets : Meets Tryz.prog 17 [] [] (.bool true) [] := by
  have hme : mapErr entsF 3 = 0 := by decide +kernel
  have hge : getErr entsF 3 ⟨#[97]⟩ = 0 := by decide +kernel
  have hml : mapL entsF 3 = [(⟨#[97]⟩, [⟨#[121]⟩]), (⟨#[98]⟩, [⟨#[122]⟩])] := by rw [mapL, if_pos hme, ents_raw]
  have hgl : getL entsF 3 ⟨#[97]⟩ = [⟨#[121]⟩] := by rw [getL, if_pos hge, ents_raw]; decide +kernel
  have ho1 : opOf ⟨#[112, 117, 116, 32, 97, 98, 32, 99, 49]⟩ = (1, ⟨#[97, 98]⟩, ⟨#[99, 49]⟩) := by decide +kernel
  have ho2 : opOf ⟨#[112, 117, 116, 32, 97, 98]⟩ = (0, ⟨#[]⟩, ⟨#[]⟩) := by decide +kernel
  have m1 := map_meets entsF 3 (by decide)
  have m2 := get_meets entsF 3 ⟨#[97]⟩ (by decide) (by decide)
  have m3 := op_meets ⟨#[112, 117, 116, 32, 97, 98, 32, 99, 49]⟩ (by decide)
  have m4 := op_meets ⟨#[112, 117, 116, 32, 97, 98]⟩ (by decide)
  have m5 := ftexts_meets [⟨#[121]⟩] [⟨#[121]⟩] (by decide)
  rw [hme, hml] at m1
  rw [hge, hgl] at m2
  rw [ho1] at m3
  rw [ho2] at m4
  refine Meets.of_walk Tryz.func17 Tryz.ntmps17 low17 res17 (by simp) fun x hx => ?_
  simp only [go_sem, Nat.reduceLT, Nat.reduceAdd, Nat.reduceEqDiff, Nat.reduceLeDiff, Nat.reduceSub, Nat.reduceMul, Int.reduceEq, eq_self, reduceIte, L17, R17]
  refine ops_call (.pure entries_meets) ?_
  simp only [go_sem, Nat.reduceLT, Nat.reduceAdd, Nat.reduceEqDiff, Nat.reduceLeDiff, Nat.reduceSub, Nat.reduceMul, Int.reduceEq, eq_self, reduceIte]
  refine ops_call (.pureE m1 (by simp [go_sem, Nat.reduceLT, Nat.reduceAdd, Nat.reduceEqDiff, Nat.reduceLeDiff, Nat.reduceSub, Nat.reduceMul, Int.reduceEq, eq_self, reduceIte, entsF])) ?_
  simp only [go_sem, Nat.reduceLT, Nat.reduceAdd, Nat.reduceEqDiff, Nat.reduceLeDiff, Nat.reduceSub, Nat.reduceMul, Int.reduceEq, eq_self, reduceIte]
  refine ops_call (.pure entries_meets) ?_
  simp only [go_sem, Nat.reduceLT, Nat.reduceAdd, Nat.reduceEqDiff, Nat.reduceLeDiff, Nat.reduceSub, Nat.reduceMul, Int.reduceEq, eq_self, reduceIte]
  refine ops_call (.pureE m2 (by simp [go_sem, Nat.reduceLT, Nat.reduceAdd, Nat.reduceEqDiff, Nat.reduceLeDiff, Nat.reduceSub, Nat.reduceMul, Int.reduceEq, eq_self, reduceIte, entsF])) ?_
  simp only [go_sem, Nat.reduceLT, Nat.reduceAdd, Nat.reduceEqDiff, Nat.reduceLeDiff, Nat.reduceSub, Nat.reduceMul, Int.reduceEq, eq_self, reduceIte]
  refine ops_call (.pureE m3 (by simp [go_sem, Nat.reduceLT, Nat.reduceAdd, Nat.reduceEqDiff, Nat.reduceLeDiff, Nat.reduceSub, Nat.reduceMul, Int.reduceEq, eq_self, reduceIte])) ?_
  simp only [go_sem, Nat.reduceLT, Nat.reduceAdd, Nat.reduceEqDiff, Nat.reduceLeDiff, Nat.reduceSub, Nat.reduceMul, Int.reduceEq, eq_self, reduceIte, cOp4]
  refine ops_call (.pureE m4 (by simp [go_sem, Nat.reduceLT, Nat.reduceAdd, Nat.reduceEqDiff, Nat.reduceLeDiff, Nat.reduceSub, Nat.reduceMul, Int.reduceEq, eq_self, reduceIte])) ?_
  have hb : ((⟨#[98]⟩ : ByteArray) = ⟨#[98]⟩) = True := eq_self _
  simp only [go_sem, Nat.reduceLT, Nat.reduceAdd, Nat.reduceEqDiff, Nat.reduceLeDiff, Nat.reduceSub, Nat.reduceMul, Int.reduceEq, eq_self, reduceIte, Int.ofNat_zero, Int.natCast_one, Int.cast_ofNat_Int, Int.reduceLT, Int.reduceLE, Int.reduceToNat, Nat.reduceLT, Int.toNat_zero, Int.natCast_zero, Int.le_refl, Int.lt_irrefl, Int.reduceAdd, frz, false_or, or_true, cOp4, cPair, List.map_cons, List.map_nil, List.length_cons, List.length_nil, decide_true, PV.isPure, List.all_cons, List.all_nil, Bool.and_self]
  refine ops_call (.scalarE m5 rfl (by simp [go_sem, Nat.reduceLT, Nat.reduceAdd, Nat.reduceEqDiff, Nat.reduceLeDiff, Nat.reduceSub, Nat.reduceMul, Int.reduceEq, eq_self, reduceIte, frzAt, pos, cStr])) ?_
  simp only [go_sem, Nat.reduceLT, Nat.reduceAdd, Nat.reduceEqDiff, Nat.reduceLeDiff, Nat.reduceSub, Nat.reduceMul, Int.reduceEq, eq_self, reduceIte, Int.ofNat_zero, Int.natCast_one, Int.cast_ofNat_Int, Int.reduceLT, Int.reduceLE, Int.reduceToNat, Nat.reduceLT, Int.toNat_zero, Int.natCast_zero, Int.le_refl, Int.lt_irrefl, Int.reduceAdd, frz, false_or, or_true, decide_true]
  refine ret_pure hx ?_
  simp [go_sem, Nat.reduceLT, Nat.reduceAdd, Nat.reduceEqDiff, Nat.reduceLeDiff, Nat.reduceSub, Nat.reduceMul, Int.reduceEq, eq_self, reduceIte, L17, R17]
end Go.Proofs.YtfdolehffjmdmaaGreatDoor
/- FoldOrder, as a contract. -/
namespace Go.Proofs.YtfdolehffjmdmaaGreatDoor
set_option linter.unusedSimpArgs false
set_option linter.unusedVariables false
open Go.RowKit
def turnL (l : List Entry) (i : Nat) : List Entry := (l.set i (nth l (i + 1))).set (i + 1) (nth l i)
theorem turn_len (l : List Entry) (i : Nat) : (turnL l i).length = l.length := by simp [turnL]
theorem sw_lt {n i k : Nat} (h : i + 1 < n) (hk : k < n) : (if k = i then i + 1 else if k = i + 1 then i else k) < n := by
  split
  · omega
  · split <;> omega
theorem turn_get {l : List Entry} {i : Nat} (h : i + 1 < l.length) {k : Nat} (hk : k < l.length) : nth (turnL l i) k = nth l (if k = i then i + 1 else if k = i + 1 then i else k) := by
  have h1 : k < (turnL l i).length := by rw [turn_len]; exact hk
  rw [nth_eq _ _ h1]
  simp only [turnL, List.getElem_set]
  by_cases e1 : i + 1 = k
  · rw [if_pos e1, if_neg (by omega), if_pos e1.symm]
  · rw [if_neg e1]
    by_cases e2 : i = k
    · rw [if_pos e2, if_pos e2.symm]
    · rw [if_neg e2, if_neg (by omega), if_neg (by omega), nth_eq _ _ hk]
theorem turn_mem {l : List Entry} {i : Nat} (h : i + 1 < l.length) : (∀ e ∈ l, e ∈ turnL l i) ∧ ∀ e ∈ turnL l i, e ∈ l := by
  constructor
  · intro e he
    obtain ⟨k, hk, rfl⟩ := memN.1 he
    refine memN.2 ⟨if k = i then i + 1 else if k = i + 1 then i else k, ?_, ?_⟩
    · rw [turn_len]; exact sw_lt h hk
    · rw [turn_get h (sw_lt h hk)]
      congr 1
      split
      · rename_i e; simp [e]
      · split
        · rename_i e1 e2; simp [e2]
        · rename_i e1 e2; simp [e1, e2]
  · intro e he
    obtain ⟨k, hk, rfl⟩ := memN.1 he
    rw [turn_len] at hk
    rw [turn_get h hk]
    exact memN.2 ⟨_, sw_lt h hk, rfl⟩
theorem turn_rows (l : List Entry) (i : Nat) : ((l.map cE).set i (cE (nth l (i + 1)))).set (i + 1) (cE (nth l i)) = (turnL l i).map cE := by
  rw [turnL, List.map_set, List.map_set]
theorem map_len {l : List Entry} {c : Int} (h : mapErr l c = 0) : (rawL l c).length ≤ 40 ∧ ∀ p ∈ rawL l c, p.2.length ≤ 9223372036854775806 := by
  obtain ⟨hok, -⟩ := mapErr_ok.1 h
  have hm := hok.len
  have hr := rawL_len l c
  refine ⟨by omega, fun p hp => ?_⟩
  rw [← raw_map hok] at hp
  obtain ⟨k', -, h2⟩ := List.mem_filterMap.1 hp
  unfold mapOne at h2
  split at h2
  · cases h2
  · cases h2
    have := (valsTo_up l c k' l.length).2
    show (valsTo l c k' l.length).length ≤ _
    omega
set_option maxRecDepth 20000 in
set_option maxHeartbeats 8000000 in
theorem foldOrder_meets (l : List Entry) (at_ c : Int) (hl : l.length * 64 ≤ 140737488355328) : Meets Tryz.prog 4 [.list (l.map cE), .int .i64 at_, .int .i64 c] [] (.bool true) [] := by
  refine Meets.of_walk Tryz.func4 Tryz.ntmps4 low4 res4 (by simp) fun x hx => ?_
  simp only [go_sem, Nat.reduceLT, Nat.reduceAdd, Nat.reduceEqDiff, Nat.reduceLeDiff, Nat.reduceSub, Nat.reduceMul, Int.reduceEq, eq_self, reduceIte, L4, R4]
  refine ops_call (.pure foldBegun_meets) ?_
  simp only [go_sem, Nat.reduceLT, Nat.reduceAdd, Nat.reduceEqDiff, Nat.reduceLeDiff, Nat.reduceSub, Nat.reduceMul, Int.reduceEq, eq_self, reduceIte]
  refine ops_call (.pure dagBegun_meets) ?_
  by_cases h1 : at_ < 0
  · simp only [go_sem, Nat.reduceLT, Nat.reduceAdd, Nat.reduceEqDiff, Nat.reduceLeDiff, Nat.reduceSub, Nat.reduceMul, Int.reduceEq, eq_self, reduceIte, Int.ofNat_zero, Int.natCast_one, Int.cast_ofNat_Int, Int.reduceLT, Int.reduceLE, Int.reduceToNat, Nat.reduceLT, Int.toNat_zero, Int.natCast_zero, Int.le_refl, Int.lt_irrefl, Int.reduceAdd, frz, false_or, or_true, h1]
    refine ret_pure hx ?_
    simp [go_sem, Nat.reduceLT, Nat.reduceAdd, Nat.reduceEqDiff, Nat.reduceLeDiff, Nat.reduceSub, Nat.reduceMul, Int.reduceEq, eq_self, reduceIte, L4, R4]
  · have w1 : IntKind.i64.wrap ((l.length : Int) - 1) = (l.length : Int) - 1 := IntWalk.i64_in _ (by omega)
    by_cases h2 : (l.length : Int) - 1 ≤ at_
    · simp only [go_sem, Nat.reduceLT, Nat.reduceAdd, Nat.reduceEqDiff, Nat.reduceLeDiff, Nat.reduceSub, Nat.reduceMul, Int.reduceEq, eq_self, reduceIte, Int.ofNat_zero, Int.natCast_one, Int.cast_ofNat_Int, Int.reduceLT, Int.reduceLE, Int.reduceToNat, Nat.reduceLT, Int.toNat_zero, Int.natCast_zero, Int.le_refl, Int.lt_irrefl, Int.reduceAdd, frz, false_or, or_true, h1, h2, w1]
      refine ret_pure hx ?_
      simp [go_sem, Nat.reduceLT, Nat.reduceAdd, Nat.reduceEqDiff, Nat.reduceLeDiff, Nat.reduceSub, Nat.reduceMul, Int.reduceEq, eq_self, reduceIte, L4, R4]
    · obtain ⟨i, rfl⟩ : ∃ i : Nat, at_ = i := ⟨at_.toNat, by omega⟩
      have hi : i + 1 < l.length := by omega
      have hi' : i < l.length := by omega
      have wi := i64_up (k := i) (by omega)
      have g1 : l[i]? = some (nth l i) := nth_get? _ _ hi'
      have g2 : l[i + 1]? = some (nth l (i + 1)) := nth_get? _ _ hi
      simp only [go_sem, Nat.reduceLT, Nat.reduceAdd, Nat.reduceEqDiff, Nat.reduceLeDiff, Nat.reduceSub, Nat.reduceMul, Int.reduceEq, eq_self, reduceIte, Int.ofNat_zero, Int.natCast_one, Int.cast_ofNat_Int, Int.reduceLT, Int.reduceLE, Int.reduceToNat, Nat.reduceLT, Int.toNat_zero, Int.natCast_zero, Int.le_refl, Int.lt_irrefl, Int.reduceAdd, frz, false_or, or_true, h1, h2, w1]
      rw [app_arr rfl rfl (cE_row l) (by simp; omega)]
      have hrow : ∀ row ∈ List.map cE l, row.length = 5 := cE_row l
      have hrw := turn_rows l i
      have hgs : ∀ r : List PV, ((l.map cE).set i r)[i + 1]? = some (cE (nth l (i + 1))) := fun r => by
        rw [List.getElem?_set_ne (by omega), List.getElem?_map, g2]; rfl
      have htl := turn_len l i
      simp only [cE] at hrw hgs
      have hE : (fun e : Entry => [PV.int .i64 e.id.r, .int .i64 e.id.n, .int .i64 e.c, .str e.t, .list (e.ls.map cId)]) = cE := rfl
      simp only [go_sem, Nat.reduceLT, Nat.reduceAdd, Nat.reduceEqDiff, Nat.reduceLeDiff, Nat.reduceSub, Nat.reduceMul, Int.reduceEq, eq_self, reduceIte, Int.ofNat_zero, Int.natCast_one, Int.cast_ofNat_Int, Int.reduceLT, Int.reduceLE, Int.reduceToNat, Nat.reduceLT, Int.toNat_zero, Int.natCast_zero, Int.le_refl, Int.lt_irrefl, Int.reduceAdd, frz, false_or, or_true, List.nil_append, List.length_map, List.length_set, wi, hi, hi', g1, g2, List.getElem?_map, Option.map_some, cE, hgs, hrw]
      repeat refine ⟨rfl, ?_⟩
      refine ops_call (.pureE (dagCheck_meets l (by omega)) (by simp [go_sem, Nat.reduceLT, Nat.reduceAdd, Nat.reduceEqDiff, Nat.reduceLeDiff, Nat.reduceSub, Nat.reduceMul, Int.reduceEq, eq_self, reduceIte])) ?_
      by_cases c1 : checkLog l = 0
      · have hok := log_ok.1 c1
        simp only [go_sem, Nat.reduceLT, Nat.reduceAdd, Nat.reduceEqDiff, Nat.reduceLeDiff, Nat.reduceSub, Nat.reduceMul, Int.reduceEq, eq_self, reduceIte, Int.ofNat_zero, Int.natCast_one, Int.cast_ofNat_Int, Int.reduceLT, Int.reduceLE, Int.reduceToNat, Nat.reduceLT, Int.toNat_zero, Int.natCast_zero, Int.le_refl, Int.lt_irrefl, Int.reduceAdd, frz, false_or, or_true, c1]
        refine ops_call (.scalarE (dagCheck_meets (turnL l i) (by omega)) rfl (by simp [go_sem, Nat.reduceLT, Nat.reduceAdd, Nat.reduceEqDiff, Nat.reduceLeDiff, Nat.reduceSub, Nat.reduceMul, Int.reduceEq, eq_self, reduceIte, frzAt, pos])) ?_
        by_cases c2 : checkLog (turnL l i) = 0
        · have hok2 := log_ok.1 c2
          obtain ⟨t1, t2⟩ := turn_mem hi
          have hraw := raw_sets (c := c) hok hok2 t1 t2
          have herr : mapErr (turnL l i) c = mapErr l c := by simp [mapErr, c1, c2]
          have hmap : mapL (turnL l i) c = mapL l c := by rw [mapL, mapL, herr, hraw]
          simp only [go_sem, Nat.reduceLT, Nat.reduceAdd, Nat.reduceEqDiff, Nat.reduceLeDiff, Nat.reduceSub, Nat.reduceMul, Int.reduceEq, eq_self, reduceIte, Int.ofNat_zero, Int.natCast_one, Int.cast_ofNat_Int, Int.reduceLT, Int.reduceLE, Int.reduceToNat, Nat.reduceLT, Int.toNat_zero, Int.natCast_zero, Int.le_refl, Int.lt_irrefl, Int.reduceAdd, frz, false_or, or_true, c2]
          refine ops_call (.pureE (map_meets l c (by omega)) (by simp [go_sem, Nat.reduceLT, Nat.reduceAdd, Nat.reduceEqDiff, Nat.reduceLeDiff, Nat.reduceSub, Nat.reduceMul, Int.reduceEq, eq_self, reduceIte])) ?_
          simp only [go_sem, Nat.reduceLT, Nat.reduceAdd, Nat.reduceEqDiff, Nat.reduceLeDiff, Nat.reduceSub, Nat.reduceMul, Int.reduceEq, eq_self, reduceIte, Int.ofNat_zero, Int.natCast_one, Int.cast_ofNat_Int, Int.reduceLT, Int.reduceLE, Int.reduceToNat, Nat.reduceLT, Int.toNat_zero, Int.natCast_zero, Int.le_refl, Int.lt_irrefl, Int.reduceAdd, frz, false_or, or_true]
          refine ops_call (.pureME (map_meets (turnL l i) c (by omega)) (.shut 0 rfl) (by simp [go_sem, Nat.reduceLT, Nat.reduceAdd, Nat.reduceEqDiff, Nat.reduceLeDiff, Nat.reduceSub, Nat.reduceMul, Int.reduceEq, eq_self, reduceIte, frzAt, pos])) ?_
          rw [herr, hmap]
          simp only [go_sem, Nat.reduceLT, Nat.reduceAdd, Nat.reduceEqDiff, Nat.reduceLeDiff, Nat.reduceSub, Nat.reduceMul, Int.reduceEq, eq_self, reduceIte, Int.ofNat_zero, Int.natCast_one, Int.cast_ofNat_Int, Int.reduceLT, Int.reduceLE, Int.reduceToNat, Nat.reduceLT, Int.toNat_zero, Int.natCast_zero, Int.le_refl, Int.lt_irrefl, Int.reduceAdd, frz, false_or, or_true]
          have hml : (mapL l c).length ≤ 9223372036854775806 ∧ ∀ p ∈ mapL l c, p.2.length ≤ 9223372036854775806 := by
            unfold mapL
            split
            · rename_i h0; obtain ⟨q1, q2⟩ := map_len h0; exact ⟨by omega, q2⟩
            · exact ⟨by simp, by simp⟩
          refine ops_call (.pureE (sameMap_meets (mapL l c) (mapL l c) hml.1 hml.2) (by simp [go_sem, Nat.reduceLT, Nat.reduceAdd, Nat.reduceEqDiff, Nat.reduceLeDiff, Nat.reduceSub, Nat.reduceMul, Int.reduceEq, eq_self, reduceIte])) ?_
          simp only [go_sem, Nat.reduceLT, Nat.reduceAdd, Nat.reduceEqDiff, Nat.reduceLeDiff, Nat.reduceSub, Nat.reduceMul, Int.reduceEq, eq_self, reduceIte, Int.ofNat_zero, Int.natCast_one, Int.cast_ofNat_Int, Int.reduceLT, Int.reduceLE, Int.reduceToNat, Nat.reduceLT, Int.toNat_zero, Int.natCast_zero, Int.le_refl, Int.lt_irrefl, Int.reduceAdd, frz, false_or, or_true, decide_true]
          refine ret_pure hx ?_
          simp [go_sem, Nat.reduceLT, Nat.reduceAdd, Nat.reduceEqDiff, Nat.reduceLeDiff, Nat.reduceSub, Nat.reduceMul, Int.reduceEq, eq_self, reduceIte, L4, R4]
        · simp only [go_sem, Nat.reduceLT, Nat.reduceAdd, Nat.reduceEqDiff, Nat.reduceLeDiff, Nat.reduceSub, Nat.reduceMul, Int.reduceEq, eq_self, reduceIte, Int.ofNat_zero, Int.natCast_one, Int.cast_ofNat_Int, Int.reduceLT, Int.reduceLE, Int.reduceToNat, Nat.reduceLT, Int.toNat_zero, Int.natCast_zero, Int.le_refl, Int.lt_irrefl, Int.reduceAdd, frz, false_or, or_true, c2]
          refine ret_pure hx ?_
          simp [go_sem, Nat.reduceLT, Nat.reduceAdd, Nat.reduceEqDiff, Nat.reduceLeDiff, Nat.reduceSub, Nat.reduceMul, Int.reduceEq, eq_self, reduceIte, L4, R4]
      · simp only [go_sem, Nat.reduceLT, Nat.reduceAdd, Nat.reduceEqDiff, Nat.reduceLeDiff, Nat.reduceSub, Nat.reduceMul, Int.reduceEq, eq_self, reduceIte, Int.ofNat_zero, Int.natCast_one, Int.cast_ofNat_Int, Int.reduceLT, Int.reduceLE, Int.reduceToNat, Nat.reduceLT, Int.toNat_zero, Int.natCast_zero, Int.le_refl, Int.lt_irrefl, Int.reduceAdd, frz, false_or, or_true, c1]
        refine ret_pure hx ?_
        simp [go_sem, Nat.reduceLT, Nat.reduceAdd, Nat.reduceEqDiff, Nat.reduceLeDiff, Nat.reduceSub, Nat.reduceMul, Int.reduceEq, eq_self, reduceIte, L4, R4]
end Go.Proofs.YtfdolehffjmdmaaGreatDoor
/- From an argument's reading as data to what the walks ask of memory; and from a walk that ends in 'true' to a law's statement. -/
namespace Go.Proofs.YtfdolehffjmdmaaGreatDoor
open Go.RowKit Go.ChangeShapes Go.WideShapes Go.ChangeAt
section
variable {H : Type} {enc : TypeId × Value → H} {P : Program} {w : World} {sp : Nat → Bool} {held : Bool}
theorem trodAll_stays (hl : laidOutB P = true) {W W' : World} (hb : Below W.heap.size W W') : ∀ {ts : List TypeId} {vs : List Value} {ds : List (DataW H)} {ps : List MemPlace},
    (∀ t ∈ ts, P.readableRec t = true ∧ t < P.types.size) → (∀ x ∈ ps, x.block < W.heap.size) → DataW.TrodAll enc P W 0 (fun _ => true) true ts vs ds ps → DataW.TrodAll enc P W' 0 (fun b => decide (b < W.heap.size)) true ts vs ds ps
  | [], [], [], _, _, _, h => h
  | t :: ts, v :: vs, d :: ds, _, hr, hlt, h => by
    obtain ⟨p, q, h1, h2, rfl⟩ := h
    refine ⟨p, q, Below.trod hl (hr t (by simp)).1 (hr t (by simp)).2 h1 hb (fun x hx => hlt x (by simp [hx])), trodAll_stays hl hb (fun t' ht => hr t' (by simp [ht])) (fun x hx => hlt x (by simp [hx])) h2, rfl⟩
  | [], [], _ :: _, _, _, _, h => h.elim
  | [], _ :: _, _, _, _, _, h => by cases h
  | _ :: _, [], _, _, _, _, h => by cases h
  | _ :: _, _ :: _, [], _, _, _, h => h.elim
theorem law_post {f : Func} {s : ChangeSpec} {apart : Bool} {W W' : World} {args : Array Value} {ds gs : List (DataW H)} {before : List MemPlace} {tb : TypeId}
    (hl : laidOutB P = true) (hpar : ∀ t ∈ f.params.toList, P.readableRec t = true ∧ t < P.types.size) (hres : f.resultTypes = #[tb]) (hub : P.underlying tb = some .bool) (hvars : s.vars = [])
    (hW : DataW.Whole enc P f.params.toList s.vars apart W args.toList ds gs before)
    (hs : s.fn H (ds ++ gs) = { results := [.lit (.bool true)], args := ds }) (hb : Below W.heap.size W W') : s.post enc P f apart true false false W args (.bool true) W' := by
  have hlt := hW.lt
  have hW' := hW
  obtain ⟨p, q, hA, hV, rfl, hfz, hnd⟩ := hW
  rw [hvars] at hV
  have hq : gs = [] ∧ q = [] := by
    cases gs with
    | nil => exact ⟨rfl, hV⟩
    | cons g gs => exact hV.elim
  obtain ⟨rfl, rfl⟩ := hq
  refine ⟨ds, [], _, [], p, [], hW', ?_, ?_, ?_, hb.frame _, fun h => by cases h⟩
  · rw [hs, hres]
    exact trodAll_mk1 (shut_bool hub true)
  · rw [hs]
    exact trodAll_stays hl hb hpar (fun x hx => hlt x (by simp [hx])) hA
  · rw [hs, hvars]
    rfl
theorem parsOf {ts : List TypeId} (h : (ts.all fun t => P.readableRec t && decide (t < P.types.size)) = true) : ∀ t ∈ ts, P.readableRec t = true ∧ t < P.types.size := by
  intro t ht
  have := List.all_eq_true.1 h t ht
  simpa only [Bool.and_eq_true, decide_eq_true_eq] using this
end
def I64 (n : Int) : Prop := -9223372036854775808 ≤ n ∧ n ≤ 9223372036854775807
theorem i64_of_wf {n : Int} (h : (Lit.int .i64 n).wf = true) : I64 n := by simpa [Lit.wf, IntKind.min, IntKind.max, IntKind.signed, IntKind.bits, I64] using h
section
variable {H : Type} {enc : TypeId × Value → H} {w : World} {sp : Nat → Bool} {held : Bool}
theorem lawOwn : ownKnob Tryz.prog.godebug = none := by kernel_rfl
theorem lawLaid : laidOutB Tryz.prog = true := by kernel_rfl
theorem lawBool : Tryz.prog.underlying 4 = some .bool := by kernel_rfl
theorem undInt' : Tryz.prog.underlying 3 = some (.int .i64) := by kernel_rfl
theorem cellsInt : Tryz.prog.cellsOf 3 = 1 := by kernel_rfl
theorem undId : Tryz.prog.underlying 43 = some (.struct (Tryz.prog.fieldsOf 43)) := by kernel_rfl
theorem cellsId : Tryz.prog.cellsOf 43 = 2 := by kernel_rfl
end
end Go.Proofs.YtfdolehffjmdmaaGreatDoor
/- From an argument's reading as data to abstract values; from a contract of a law to its statement. -/
namespace Go.Proofs.YtfdolehffjmdmaaGreatDoor
open Go.RowKit Go.ChangeShapes Go.WideShapes Go.ChangeAt
def Shows (w : World) (ps : List PV) (cs : List Value) : Prop := cs.length = ps.length ∧ ∀ (j : Nat) p v, ps[j]? = some p → cs[j]? = some v → RepP (fun b _ => b < w.heap.size) w p v
section
variable {H : Type} {enc : TypeId × Value → H} {P : Program} {w : World} {sp : Nat → Bool} {held : Bool}
def Opens (enc : TypeId × Value → H) (P : Program) (w : World) (sp : Nat → Bool) (held : Bool) (t : TypeId) (n : Nat) (R : List PV → Prop) : Prop :=
  P.cellsOf t = n ∧ ∀ fuel cs (y : DataW H × List MemPlace), DataW.trod enc P w 0 sp held fuel t cs = some y → (∀ k ∈ y.1.weights P t, k ≤ reachBytes) → ∃ ps, ps.length = n ∧ R ps ∧ Shows w ps cs
theorem Opens.mono {t : TypeId} {n : Nat} {R R' : List PV → Prop} (h : Opens enc P w sp held t n R) (hR : ∀ ps, R ps → R' ps) : Opens enc P w sp held t n R' :=
  ⟨h.1, fun fuel cs y hy hw => by obtain ⟨ps, h1, h2, h3⟩ := h.2 fuel cs y hy hw; exact ⟨ps, h1, hR ps h2, h3⟩⟩
theorem shows1 {p : PV} {v : Value} (h : RepP (fun b _ => b < w.heap.size) w p v) : Shows w [p] [v] := by
  refine ⟨rfl, fun j q u hj hu => ?_⟩
  cases j with
  | zero => simp at hj hu; subst hj; subst hu; exact h
  | succ j => simp at hj
theorem opens_int {t : TypeId} (ht : P.underlying t = some (.int .i64)) (hc : P.cellsOf t = 1) : Opens enc P w sp held t 1 fun ps => ∃ n, I64 n ∧ ps = [.int .i64 n] := by
  refine ⟨hc, fun fuel cs y h _ => ?_⟩
  obtain ⟨n, rfl, -, hw⟩ := DataW.trod_int ht h
  exact ⟨[.int .i64 n], rfl, ⟨n, i64_of_wf hw, rfl⟩, shows1 (.int _ _)⟩
theorem opens_str {t : TypeId} (ht : P.underlying t = some .string) (hc : P.cellsOf t = 1) : Opens enc P w sp held t 1 fun ps => ∃ s : ByteArray, s.size ≤ reachBytes ∧ ps = [.str s] := by
  refine ⟨hc, fun fuel cs y h hw => ?_⟩
  obtain ⟨s, rfl, rfl, -⟩ := DataW.trod_string ht h
  have hs := hw s.data.toList.length (by simp [DataW.weights])
  exact ⟨[.str s], rfl, ⟨s, by simpa using hs, rfl⟩, shows1 (.str _)⟩
theorem trod_elems2 {t e : TypeId} {fuel : Nat} {v : Value} {x : DataW H × List MemPlace} (ht : P.underlying t = some (.slice e)) (hsz : 0 < P.cellsOf e) (h : DataW.trod enc P w 0 sp held fuel t [v] = some x) (hw : ∀ k ∈ x.1.weights P t, k ≤ reachBytes) :
    ∃ a n c, v = .slice a n c ∧ n ≤ c ∧ c ≤ maxLen ∧ n * P.bytesOf e ≤ reachBytes ∧ ∀ k, k < n → ∃ b o cs m y, a = some ⟨b, o, none⟩ ∧ b < w.heap.size ∧ cs.length = P.cellsOf e ∧ (∀ j, j < P.cellsOf e → w.cell? ⟨b, o + k * P.cellsOf e + j, none⟩ = cs[j]?) ∧
      DataW.trod enc P w 0 sp held m e cs = some y ∧ ∀ q ∈ y.1.weights P e, q ≤ reachBytes := by
  have memAll : ∀ (ds : List (DataW H)) (d : DataW H), d ∈ ds → ∀ q ∈ d.weights P e, q ∈ DataW.weightsAll P e ds := by
    intro ds
    induction ds with
    | nil => intro d hd; cases hd
    | cons d0 ds ih =>
      intro d hd q hq
      simp only [DataW.weightsAll, List.mem_append]
      rcases List.mem_cons.1 hd with rfl | hd
      · exact .inl hq
      · exact .inr (ih d hd q hq)
  rcases DataW.trod_slice ht h with ⟨hv, -⟩ | ⟨a, len, cap, elems, rest, m, -, hv, hx, -, h1, h2, hl, hel, -, -⟩
  · exact ⟨none, 0, 0, by simpa using hv, by omega, by unfold maxLen; omega, by omega, fun k hk => by omega⟩
  · obtain rfl : v = .slice (some a) len cap := by simpa using hv
    have hwt : len * P.bytesOf e ≤ reachBytes := by
      have := hw ((elems.length + rest.length) * P.bytesOf e) (by rw [hx]; simp [DataW.weights, ht])
      have h3 : len * P.bytesOf e ≤ (elems.length + rest.length) * P.bytesOf e := Nat.mul_le_mul_right _ (by omega)
      omega
    have key : ∀ k, k < len → ∃ cs y, w.cells? 0 (a.add (k * P.cellsOf e)) (P.cellsOf e) = some cs ∧ DataW.trod enc P w 0 sp held m e cs = some y ∧ ∀ q ∈ y.1.weights P e, q ≤ reachBytes := by
      intro k hk
      have := hel k hk
      rw [List.getElem?_eq_getElem (by omega)] at this
      obtain ⟨cs, hcs, hy⟩ := Option.bind_eq_some_iff.1 this
      refine ⟨cs, _, hcs, hy, fun q hq => hw q ?_⟩
      rw [hx]
      simp only [DataW.weights, ht, List.mem_cons, List.mem_append]
      exact .inr (.inl (memAll _ _ (List.mem_map.2 ⟨_, List.getElem_mem _, rfl⟩) q hq))
    refine ⟨some a, len, cap, rfl, h1, h2, hwt, fun k hk => ?_⟩
    obtain ⟨cs0, y0, hc0, -⟩ := key 0 (by omega)
    have h0 := (World.cells?_some hc0).2.2 0 hsz
    obtain ⟨ab, ao, asp⟩ := a
    have hl0 := (World.cells?_some hc0).2.1
    have has : asp = none := by
      simp only [Nat.zero_mul, Addr.add, if_true] at h0
      rw [List.getElem?_eq_getElem (by omega)] at h0
      cases asp with
      | none => rfl
      | some s =>
        simp only [World.cell?] at h0
        split at h0 <;> simp at h0
    subst has
    obtain ⟨cs, y, hcs, hy, hq⟩ := key k hk
    have h3 := World.cells?_some hcs
    have add_eq : ∀ (o n : Nat), (⟨ab, o, none⟩ : Addr).add n = ⟨ab, o + n, none⟩ := by
      intro o n; unfold Addr.add; split <;> simp_all
    refine ⟨ab, ao, cs, m, y, rfl, ?_, h3.2.1, fun j hj => ?_, hy, hq⟩
    · exact World.cells?_block (a := ⟨ab, ao, none⟩) (by simpa [add_eq] using hc0) hsz
    · have := h3.2.2 j hj
      simpa [add_eq] using this
theorem list_choose {α : Type} {n : Nat} {Q : Nat → α → Prop} (h : ∀ k, k < n → ∃ x, Q k x) : ∃ l : List α, l.length = n ∧ ∀ (k : Nat) x, l[k]? = some x → Q k x := by
  induction n with
  | zero => exact ⟨[], rfl, fun k x hk => by simp at hk⟩
  | succ n ih =>
    obtain ⟨l, h1, h2⟩ := ih fun k hk => h k (by omega)
    obtain ⟨x, hx⟩ := h n (by omega)
    refine ⟨l ++ [x], by simp [h1], fun k y hk => ?_⟩
    by_cases hlt : k < l.length
    · rw [List.getElem?_append_left hlt] at hk; exact h2 k y hk
    · rw [List.getElem?_append_right (by omega)] at hk
      have : k - l.length = 0 := by
        have := (List.getElem?_eq_some_iff.1 hk).1
        simp at this; omega
      rw [this] at hk
      simp at hk
      subst hk
      rw [show k = n by omega]; exact hx
theorem opens_slice {t e : TypeId} {n : Nat} {R : List PV → Prop} (ht : P.underlying t = some (.slice e)) (hc : P.cellsOf t = 1) (hn : 0 < n) (he : Opens enc P w sp held e n R) :
    Opens enc P w sp held t 1 fun ps => ∃ rows, rows.length * P.bytesOf e ≤ reachBytes ∧ (∀ row ∈ rows, row.length = n ∧ R row) ∧ ps = [.list rows] := by
  refine ⟨hc, fun fuel cs y h hw => ?_⟩
  have hcs : ∃ v, cs = [v] := by
    rcases DataW.trod_slice ht h with ⟨hv, -⟩ | ⟨a, len, cap, elems, rest, m, -, hv, -⟩ <;> exact ⟨_, hv⟩
  obtain ⟨v, rfl⟩ := hcs
  obtain ⟨hce, he⟩ := he
  obtain ⟨a, len, c, rfl, h1, h2, hby, h3⟩ := trod_elems2 ht (by omega) h hw
  rw [hce] at h3
  obtain ⟨rows, r1, r2⟩ := list_choose (Q := fun k (row : List PV) => row.length = n ∧ R row ∧ ∃ b o cs, a = some ⟨b, o, none⟩ ∧ b < w.heap.size ∧ cs.length = n ∧ (∀ j, j < n → w.cell? ⟨b, o + k * n + j, none⟩ = cs[j]?) ∧ Shows w row cs) fun k hk => by
    obtain ⟨b, o, cs, m, y, q1, q2, q3, q4, q5, q6⟩ := h3 k hk
    obtain ⟨ps, p1, p2, p3⟩ := he m cs y q5 q6
    exact ⟨ps, p1, p2, b, o, cs, q1, q2, q3, q4, p3⟩
  refine ⟨[.list rows], rfl, ⟨rows, by rw [r1]; exact hby, fun row hr => ?_, rfl⟩, shows1 ?_⟩
  · obtain ⟨k, hk⟩ := List.getElem?_of_mem hr
    exact ⟨(r2 k row hk).1, (r2 k row hk).2.1⟩
  · have key : ∀ k row j p, rows[k]? = some row → row[j]? = some p → ∃ b o, a = some ⟨b, o, none⟩ ∧ b < w.heap.size ∧ ∃ u, w.cell? ⟨b, o + k * n + j, none⟩ = some u ∧ RepP (fun b _ => b < w.heap.size) w p u := by
      intro k row j p hk hj
      obtain ⟨hl, -, b, o, cs, q1, q2, q3, q4, q5⟩ := r2 k row hk
      have hlt : j < n := by rw [← hl]; exact (List.getElem?_eq_some_iff.1 hj).1
      refine ⟨b, o, q1, q2, cs[j]'(by omega), ?_, ?_⟩
      · rw [q4 j hlt, List.getElem?_eq_getElem (by omega)]
      · exact q5.2 j p _ hj (List.getElem?_eq_getElem (by omega))
    have := RepP.list (S := fun b _ => b < w.heap.size) (w := w) rows a c n (fun k j => match a with | some ad => (w.cell? ⟨ad.block, ad.off + k * n + j, none⟩).getD Go.undef | none => Go.undef) (by omega) h2 hn (fun row hr => by
        obtain ⟨k, hk⟩ := List.getElem?_of_mem hr
        exact (r2 k row hk).1) (fun k row j p hk hj => by
        obtain ⟨b, o, q1, q2, u, q3, q4⟩ := key k row j p hk hj
        subst q1
        exact ⟨b, o, rfl, q2, by simp [q3]⟩) (fun k row j p hk hj => by
        obtain ⟨b, o, q1, q2, u, q3, q4⟩ := key k row j p hk hj
        subst q1
        simp only [q3, Option.getD_some]
        exact q4)
    rw [r1] at this
    exact this
def offs : Nat → List (TypeId × Nat) → List (TypeId × Nat)
  | _, [] => []
  | o, (t, n) :: r => (t, o) :: offs (o + n) r
def RAll : List (Nat × (List PV → Prop)) → List PV → Prop
  | [], ps => ps = []
  | (n, R) :: r, ps => ∃ a b, ps = a ++ b ∧ a.length = n ∧ R a ∧ RAll r b
def OpensAll (enc : TypeId × Value → H) (P : Program) (w : World) (sp : Nat → Bool) (held : Bool) : List (TypeId × Nat × (List PV → Prop)) → Prop
  | [] => True
  | (t, n, R) :: r => Opens enc P w sp held t n R ∧ OpensAll enc P w sp held r
theorem shows_append {a b : List PV} {cs ds : List Value} (h1 : Shows w a cs) (h2 : Shows w b ds) : Shows w (a ++ b) (cs ++ ds) := by
  refine ⟨by simp [h1.1, h2.1], fun j p v hj hv => ?_⟩
  by_cases hlt : j < a.length
  · rw [List.getElem?_append_left hlt] at hj
    rw [List.getElem?_append_left (by rw [h1.1]; exact hlt)] at hv
    exact h1.2 j p v hj hv
  · rw [List.getElem?_append_right (by omega)] at hj
    rw [List.getElem?_append_right (by rw [h1.1]; omega), h1.1] at hv
    exact h2.2 _ p v hj hv
theorem opens_fields : ∀ (fl : List (TypeId × Nat × (List PV → Prop))) (o : Nat) (cs : List Value), OpensAll enc P w sp held fl → cs.length = o + (fl.map (·.2.1)).sum →
    (∀ (i : Nat) (t' : TypeId) (o' : Nat), (offs o (fl.map fun f => (f.1, f.2.1)))[i]? = some (t', o') → ∃ n y, DataW.trod enc P w 0 sp held n t' ((cs.drop o').take (P.cellsOf t')) = some y ∧ ∀ k ∈ y.1.weights P t', k ≤ reachBytes) →
    ∃ ps, ps.length = (fl.map (·.2.1)).sum ∧ RAll (fl.map (·.2)) ps ∧ Shows w ps (cs.drop o)
  | [], o, cs, _, hl, _ => ⟨[], rfl, rfl, by
      rw [List.drop_eq_nil_of_le (by simp at hl; omega)]
      exact ⟨rfl, fun j p v hj => by simp at hj⟩⟩
  | (t, n, R) :: fl, o, cs, ho, hl, hx => by
    obtain ⟨⟨hc, h1⟩, h2⟩ := ho
    obtain ⟨m, y, hy, hwy⟩ := hx 0 t o rfl
    obtain ⟨ps, p1, p2, p3⟩ := h1 m _ y hy hwy
    simp only [List.map_cons, List.sum_cons] at hl
    obtain ⟨qs, q1, q2, q3⟩ := opens_fields fl (o + n) cs h2 (by omega) fun i t' o' hi => hx (i + 1) t' o' hi
    refine ⟨ps ++ qs, by simp [p1, q1], ⟨ps, qs, rfl, p1, p2, q2⟩, ?_⟩
    rw [hc] at p3
    have : cs.drop o = (cs.drop o).take n ++ cs.drop (o + n) := by rw [← List.drop_drop, List.take_append_drop]
    rw [this]
    exact shows_append p3 q3
theorem opens_struct {t : TypeId} {n : Nat} (fl : List (TypeId × Nat × (List PV → Prop))) (hs : P.underlying t = some (.struct (P.fieldsOf t))) (hf : (P.fieldsOf t).toList.map (fun f => (f.type, f.offset)) = offs 0 (fl.map fun f => (f.1, f.2.1)))
    (hc : P.cellsOf t = n) (hn : (fl.map (·.2.1)).sum = n) (ho : OpensAll enc P w sp held fl) : Opens enc P w sp held t n (RAll (fl.map (·.2))) := by
  refine ⟨hc, fun fuel cs y h hw => ?_⟩
  obtain ⟨xs, m, _, hy, hl, hlen, hq⟩ := DataW.trod_struct hs h
  have hx : ∀ (i : Nat) (t' : TypeId) (o' : Nat), (offs 0 (fl.map fun f => (f.1, f.2.1)))[i]? = some (t', o') → ∃ n y, DataW.trod enc P w 0 sp held n t' ((cs.drop o').take (P.cellsOf t')) = some y ∧ ∀ k ∈ y.1.weights P t', k ≤ reachBytes := by
    intro i t' o' hi
    rw [← hf, List.getElem?_map] at hi
    obtain ⟨f, h1, h2⟩ := Option.map_eq_some_iff.1 hi
    simp only [Prod.mk.injEq] at h2
    obtain ⟨rfl, rfl⟩ := h2
    have h3 := hq i f (by simpa using h1)
    have hi2 : i < (P.fieldsOf t).toList.length := (List.getElem?_eq_some_iff.1 h1).1
    have hi3 : i < xs.length := by rw [hlen]; simpa using hi2
    refine ⟨m, xs[i], by rw [h3]; simp, fun k hk => hw k ?_⟩
    rw [hy]
    simp only [DataW.weights, hs]
    refine DataW.weights_mem_each (j := i) (t := f.type) (d := xs[i].1) ?_ ?_ k hk
    · rw [List.getElem?_map, h1]; rfl
    · rw [List.getElem?_map, List.getElem?_eq_getElem hi3]; rfl
  obtain ⟨ps, h1, h2, h3⟩ := opens_fields fl 0 cs ho (by omega) hx
  exact ⟨ps, by omega, h2, h3⟩
theorem open_cell {t : TypeId} {R : List PV → Prop} (ho : Opens enc P w sp held t 1 R) {v : Value} (h1 : ∀ cs, v ≠ .agg cs) {d : DataW H} {p : List MemPlace} (h : DataW.Trod enc P w 0 sp held t v d p) (hw : ∀ k ∈ d.weights P t, k ≤ reachBytes) : ∃ q, R [q] ∧ RepP (fun b _ => b < w.heap.size) w q v := by
  obtain ⟨fuel, hf⟩ := h
  obtain ⟨ps, p1, p2, p3⟩ := ho.2 fuel _ _ hf hw
  have hv : v.cells.toList = [v] := by cases v <;> first | rfl | exact (h1 _ rfl).elim
  match ps, p1 with
  | [q], _ => exact ⟨q, p2, p3.2 0 q v rfl (by rw [hv]; rfl)⟩
end
def lawCx (w : World) : Cx := ⟨w, fun b _ => b < w.heap.size, ⟨0, fun _ => 0, fun _ => Go.undef, fun _ => 0⟩, []⟩
theorem lawHR (w : World) : HR (lawCx w) (lawCx w).C0 [] w :=
  ⟨rfl, fun id ob h => by simp at h, fun id id' ob ob' b h => by simp at h, fun id ob b h => by simp at h, fun b o h => ⟨h, fun id ob h => by simp at h, rfl⟩, Nat.le_refl _, rfl, rfl, rfl, fun b _ _ => rfl, Nat.le_refl _, fun i hi => rfl, fun i hi => .inl ⟨rfl, rfl⟩⟩
theorem lawStab {w : World} {b o : Nat} (h : b < w.heap.size) : Stab (lawCx w) (lawCx w).C0 [] w b o := ⟨.inl h, h, fun id ob h => by simp at h⟩
def Arg (w : World) (p : PV) (v : Value) : Prop := RepV (Stab (lawCx w) (lawCx w).C0 [] w) w (lawCx w).C0 p v
theorem Arg.of {w : World} {p : PV} {v : Value} (h : RepP (fun b _ => b < w.heap.size) w p v) : Arg w p v := .pure (h.mono (fun _ _ h => lawStab h) fun _ _ _ => rfl)
inductive ArgsAre (w : World) : List PV → List Value → Prop
  | nil : ArgsAre w [] []
  | cons {p : PV} {v : Value} {ps : List PV} {vs : List Value} (h : Arg w p v) (t : ArgsAre w ps vs) : ArgsAre w (p :: ps) (v :: vs)
theorem ArgsAre.reps {w : World} {ps : List PV} {vs : List Value} (h : ArgsAre w ps vs) : Reps (Stab (lawCx w) (lawCx w).C0 [] w) w (lawCx w).C0 ps vs := by
  induction h with
  | nil => exact ⟨rfl, fun j p v hj => by simp at hj⟩
  | cons h t ih =>
    refine ⟨by simp [ih.1], fun j p v hj hv => ?_⟩
    cases j with
    | zero => simp at hj hv; subst hj; subst hv; exact h
    | succ j => exact ih.2 j p v (by simpa using hj) (by simpa using hv)
theorem law_calls {P : Program} {f : Nat} {args : List PV} {vs : Array Value} {w : World} (h : Meets P f args [] (.bool true) []) (hp : ArgsAre w args vs.toList) : Calls P f vs w fun e w' => e = .returned (.bool true) ∧ Below w.heap.size w w' := by
  refine (h (lawCx w) vs rfl (lawHR w) hp.reps).mono fun e w' ⟨v, C', h1, h2, h3⟩ => ?_
  have hv := h3.bool_inv
  subst hv
  exact ⟨h1, ⟨h2.os, h2.tape, h2.output, h2.size, fun b hb => h2.frame b hb fun i ob0 hi => by simp [lawCx] at hi⟩⟩
end Go.Proofs.YtfdolehffjmdmaaGreatDoor
/- Arguments of laws, opened: ids, entries, lists of them. -/
namespace Go.Proofs.YtfdolehffjmdmaaGreatDoor
open Go.RowKit Go.ChangeShapes Go.WideShapes Go.ChangeAt
section
variable {H : Type} {enc : TypeId × Value → H} {w : World} {sp : Nat → Bool} {held : Bool}
theorem rows_map {α : Type} {f : α → List PV} {Q : α → Prop} {n : Nat} : ∀ {rows : List (List PV)}, (∀ row ∈ rows, row.length = n ∧ ∃ x, Q x ∧ row = f x) → ∃ l : List α, (∀ x ∈ l, Q x) ∧ rows = l.map f
  | [], _ => ⟨[], by simp, rfl⟩
  | row :: rows, h => by
    obtain ⟨-, x, h1, rfl⟩ := h row (by simp)
    obtain ⟨l, h2, rfl⟩ := rows_map (rows := rows) fun row hr => h row (by simp [hr])
    exact ⟨x :: l, by simpa using ⟨h1, h2⟩, rfl⟩
theorem opInt : Opens enc Tryz.prog w sp held 3 1 fun ps => ∃ n, I64 n ∧ ps = [.int .i64 n] := opens_int undInt' cellsInt
theorem opStr : Opens enc Tryz.prog w sp held 9 1 fun ps => ∃ s : ByteArray, s.size ≤ reachBytes ∧ ps = [.str s] := opens_str (by kernel_rfl) (by kernel_rfl)
def wfId (x : Id) : Prop := I64 x.r ∧ I64 x.n
theorem opId : Opens enc Tryz.prog w sp held 43 2 fun ps => ∃ x : Id, wfId x ∧ ps = cId x :=
  (opens_struct [(3, 1, _), (3, 1, _)] undId (by kernel_rfl) cellsId rfl ⟨opInt, opInt, trivial⟩).mono (by
    rintro ps ⟨a, b, rfl, -, ⟨n, hn, rfl⟩, c, d, rfl, -, ⟨m, hm, rfl⟩, rfl⟩
    exact ⟨⟨n, m⟩, ⟨hn, hm⟩, rfl⟩)
theorem opIds : Opens enc Tryz.prog w sp held 44 1 fun ps => ∃ l : List Id, l.length * 16 ≤ reachBytes ∧ (∀ x ∈ l, wfId x) ∧ ps = [.list (l.map cId)] :=
  (opens_slice (by kernel_rfl) (by kernel_rfl) (by omega) opId).mono (by
    rintro ps ⟨rows, hm, hr, rfl⟩
    obtain ⟨l, h1, rfl⟩ := rows_map hr
    rw [show Tryz.prog.bytesOf 43 = 16 by kernel_rfl] at hm
    exact ⟨l, by simpa using hm, h1, rfl⟩)
def wfE (e : Entry) : Prop := wfId e.id ∧ I64 e.c ∧ e.t.size ≤ reachBytes ∧ e.ls.length * 16 ≤ reachBytes ∧ ∀ x ∈ e.ls, wfId x
theorem undEntry : Tryz.prog.underlying 46 = some (.struct (Tryz.prog.fieldsOf 46)) := by kernel_rfl
theorem opEntry : Opens enc Tryz.prog w sp held 46 5 fun ps => ∃ e : Entry, wfE e ∧ ps = cE e :=
  (opens_struct [(43, 2, _), (3, 1, _), (9, 1, _), (44, 1, _)] undEntry (by kernel_rfl) (by kernel_rfl) rfl ⟨opId, opInt, opStr, opIds, trivial⟩).mono (by
    rintro ps ⟨a, b, rfl, -, ⟨x, hx, rfl⟩, c, d, rfl, -, ⟨n, hn, rfl⟩, f, g, rfl, -, ⟨s, hs, rfl⟩, k, q, rfl, -, ⟨l, hl, hq, rfl⟩, rfl⟩
    exact ⟨⟨x, n, s, l⟩, ⟨hx, hn, hs, hl, hq⟩, rfl⟩)
set_option maxRecDepth 100000 in
theorem argInt {b0 : Nat} {v : Value} {d : DataW H} {p : List MemPlace} (hv : Value.okWide Tryz.prog w .any b0 3 v) (h : DataW.Trod enc Tryz.prog w 0 sp held 3 v d p) (hw : ∀ k ∈ d.weights Tryz.prog 3, k ≤ reachBytes) : ∃ n, I64 n ∧ Arg w (.int .i64 n) v := by
  obtain ⟨m, rfl⟩ := okWide_int undInt' hv
  obtain ⟨q, ⟨n, hn, hq⟩, h2⟩ := open_cell opInt (by simp) h hw
  simp at hq; subst hq
  exact ⟨n, hn, .of h2⟩
end
end Go.Proofs.YtfdolehffjmdmaaGreatDoor
/- Arguments of laws, opened: lists of entries, of ids. -/
namespace Go.Proofs.YtfdolehffjmdmaaGreatDoor
open Go.RowKit Go.ChangeShapes Go.WideShapes Go.ChangeAt
section
variable {H : Type} {enc : TypeId × Value → H} {w : World} {sp : Nat → Bool} {held : Bool}
end
end Go.Proofs.YtfdolehffjmdmaaGreatDoor
/- Arguments of laws, opened: entries, with their bytes counted. -/
namespace Go.Proofs.YtfdolehffjmdmaaGreatDoor
open Go.RowKit Go.ChangeShapes Go.WideShapes Go.ChangeAt
section
variable {H : Type} {enc : TypeId × Value → H} {w : World} {sp : Nat → Bool} {held : Bool}
set_option maxRecDepth 100000 in
theorem opEntriesB : Opens enc Tryz.prog w sp held 22 1 fun ps => ∃ l : List Entry, l.length * 64 ≤ reachBytes ∧ (∀ e ∈ l, wfE e) ∧ ps = [.list (l.map cE)] :=
  (opens_slice (by kernel_rfl) (by kernel_rfl) (by omega) opEntry).mono (by
    rintro ps ⟨rows, hm, hr, rfl⟩
    obtain ⟨l, h1, rfl⟩ := rows_map hr
    have hb : Tryz.prog.bytesOf 46 = 64 := by decide +kernel
    rw [hb, List.length_map] at hm
    exact ⟨l, hm, h1, rfl⟩)
set_option maxRecDepth 100000 in
theorem argEntriesB {b0 : Nat} {v : Value} {d : DataW H} {p : List MemPlace} (hv : Value.okWide Tryz.prog w .any b0 22 v) (h : DataW.Trod enc Tryz.prog w 0 sp held 22 v d p) (hw : ∀ k ∈ d.weights Tryz.prog 22, k ≤ reachBytes) :
    ∃ l : List Entry, l.length * 64 ≤ reachBytes ∧ (∀ e ∈ l, wfE e) ∧ Arg w (.list (l.map cE)) v := by
  obtain ⟨a, n, c, rfl⟩ := okWide_slice (e := 46) (by kernel_rfl) hv
  obtain ⟨q, ⟨l, h1, h2, hq⟩, h3⟩ := open_cell opEntriesB (by simp) h hw
  simp at hq; subst hq
  exact ⟨l, h1, h2, .of h3⟩
end
end Go.Proofs.YtfdolehffjmdmaaGreatDoor
/- Rows that list variables: a start that fits, and the way from a contract to the row, with a condition of the specification's own. -/
namespace Go.Proofs.YtfdolehffjmdmaaGreatDoor
open Go.RowKit Go.ChangeShapes Go.WideShapes Go.ChangeAt
section
variable {H : Type} {enc : TypeId × Value → H}
end
end Go.Proofs.YtfdolehffjmdmaaGreatDoor
