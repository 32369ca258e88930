/- Joined texts of this claim: F14 F15 F16 G2 F17 E7 L7 F18 Open Op1 Op2 Op4 D11 G3 D12 D13 D14 D15 G4 G5 D16 D17 Op5 Card. -/
import Derived.Test.YtfdolehffjmdmaaGreatDoorKD
import Derived.Test.YtfdolehffjmdmaaGreatDoorKC
import Derived.Test.YtfdolehffjmdmaaGreatDoorKB
import Derived.Test.YtfdolehffjmdmaaGreatDoorProg
import Derived.ProofKit
import Derived.OpenShut
import Derived.Carry
import Derived.SizedLaws
import Derived.LaidMore
import Derived.Lay
import Derived.SevenTiedAt
import Derived.Stop.Joined
import Derived.JoinedCond
set_option linter.unusedSimpArgs false
set_option linter.unusedVariables false
set_option linter.unusedSectionVars false
/- The law text's own words for maps: ValuesOf, MapOf. -/
namespace Go.Proofs.YtfdolehffjmdmaaGreatDoor
set_option linter.unusedSimpArgs false
set_option linter.unusedVariables false
open Go.RowKit
def condR (l : List Entry) (c : Int) (key : ByteArray) (i : Nat) : Bool := decide ((opOf (nth l i).t).1 = 1) && (decide ((opOf (nth l i).t).2.1 = key) && meetB (nth l i).c c)
def blkR (l : List Entry) (c : Int) (key : ByteArray) (i n : Nat) : Bool := decide (¬ (opOf (nth l n).t).1 = 0) && (decide ((opOf (nth l n).t).2.1 = key) && (meetB (nth l n).c c && nth (marksOf l n) i))
def standR (l : List Entry) (c : Int) (key : ByteArray) (i k : Nat) : Bool := (List.range k).all fun n => !blkR l c key i n
def valStep (l : List Entry) (c : Int) (key : ByteArray) (out : List ByteArray) (i : Nat) : List ByteArray := if (condR l c key i && standR l c key i l.length) = true then withT out (opOf (nth l i).t).2.2 else out
def valsTo (l : List Entry) (c : Int) (key : ByteArray) (k : Nat) : List ByteArray := (List.range k).foldl (valStep l c key) []
def valsR (l : List Entry) (c : Int) (key : ByteArray) : List ByteArray := valsTo l c key l.length
theorem valsTo_succ (l : List Entry) (c : Int) (key : ByteArray) (k : Nat) : valsTo l c key (k + 1) = valStep l c key (valsTo l c key k) k := by
  rw [valsTo, List.range_succ, List.foldl_append]; rfl
theorem standR_succ (l : List Entry) (c : Int) (key : ByteArray) (i k : Nat) : standR l c key i (k + 1) = (standR l c key i k && !blkR l c key i k) := by
  rw [standR, List.range_succ, List.all_append]; simp [standR]
set_option maxRecDepth 20000 in
set_option maxHeartbeats 8000000 in
theorem valuesOf_meets (l : List Entry) (c : Int) (key : ByteArray) (h : LogOk l) (hc : wthn c 1 7 = true) (hbig : ∀ k, k ≤ l.length → (valsTo l c key k).length ≤ 1000000000) : Meets Tryz.prog 15 [.list (l.map cE), .int .i64 c, .str key] [] (.list ((valsR l c key).map cStr)) [] := by
  have hm := h.len
  rw [wthn_iff] at hc
  refine Meets.of_walk Tryz.func15 Tryz.ntmps15 low15 res15 (by simp) fun x hx => ?_
  simp only [go_sem, Nat.reduceLT, Nat.reduceAdd, Nat.reduceEqDiff, Nat.reduceLeDiff, Nat.reduceSub, Nat.reduceMul, Int.reduceEq, eq_self, reduceIte, L15, R15]
  refine W_weak (weak_nil 7 rfl) ?_
  refine loop_inv [0, 1, 2, 7, 8] 0 (fun m st => ∃ k : Nat, k + m = l.length ∧
    st = ⟨mkE .top [(0, .list (l.map cE)), (1, .int .i64 c), (2, .str key), (7, .list ((valsTo l c key k).map cStr)), (8, .int .i64 k)], []⟩) l.length (by simp [hx]) (by simp [St.put]) ?_ ?_
  · refine ⟨0, by omega, ?_⟩
    rw [put_mk]
    simp [trim_mk, go_sem, Nat.reduceLT, Nat.reduceAdd, Nat.reduceEqDiff, Nat.reduceLeDiff, Nat.reduceSub, Nat.reduceMul, Int.reduceEq, eq_self, reduceIte, subHeap, renObj, renCell, renLeaf, pos, List.range_succ, valsTo]
  · rintro m st ⟨k, hk, rfl⟩
    by_cases hlt : k < l.length
    · have hg : l[k]? = some (nth l k) := nth_get? _ _ hlt
      have wk := i64_up (k := k) (by omega)
      have htk := log_t h (nth l k) (List.mem_of_getElem? hg)
      have hck := h.col hlt
      rw [wthn_iff] at hck
      have hvl := hbig k (by omega)
      obtain ⟨V, hV⟩ : ∃ V, valsTo l c key k = V := ⟨_, rfl⟩
      rw [hV] at hvl ⊢
      simp only [go_sem, Nat.reduceLT, Nat.reduceAdd, Nat.reduceEqDiff, Nat.reduceLeDiff, Nat.reduceSub, Nat.reduceMul, Int.reduceEq, eq_self, reduceIte, Int.ofNat_zero, Int.natCast_one, Int.cast_ofNat_Int, Int.reduceLT, Int.reduceLE, Int.reduceToNat, Nat.reduceLT, Int.toNat_zero, Int.natCast_zero, Int.le_refl, Int.lt_irrefl, Int.reduceAdd, frz, false_or, or_true, hlt, hg, cE, List.length_map, List.getElem?_map, Option.map_some]
      refine ops_call (.pureE (opOf_meets (nth l k).t (by omega)) (by simp [go_sem, Nat.reduceLT, Nat.reduceAdd, Nat.reduceEqDiff, Nat.reduceLeDiff, Nat.reduceSub, Nat.reduceMul, Int.reduceEq, eq_self, reduceIte])) ?_
      by_cases c1 : (opOf (nth l k).t).1 = 1
      · by_cases c2 : (opOf (nth l k).t).2.1 = key
        · simp only [go_sem, Nat.reduceLT, Nat.reduceAdd, Nat.reduceEqDiff, Nat.reduceLeDiff, Nat.reduceSub, Nat.reduceMul, Int.reduceEq, eq_self, reduceIte, Int.ofNat_zero, Int.natCast_one, Int.cast_ofNat_Int, Int.reduceLT, Int.reduceLE, Int.reduceToNat, Nat.reduceLT, Int.toNat_zero, Int.natCast_zero, Int.le_refl, Int.lt_irrefl, Int.reduceAdd, frz, false_or, or_true, hlt, hg, cE, cOp3, List.length_map, List.getElem?_map, Option.map_some, c1, c2, decide_true]
          refine ops_call (.pureE (meets_meets (nth l k).c c (by omega) (by omega)) (by simp [go_sem, Nat.reduceLT, Nat.reduceAdd, Nat.reduceEqDiff, Nat.reduceLeDiff, Nat.reduceSub, Nat.reduceMul, Int.reduceEq, eq_self, reduceIte])) ?_
          cases c3 : meetB (nth l k).c c
          · have hcr : condR l c key k = false := by simp [condR, c3]
            simp only [go_sem, Nat.reduceLT, Nat.reduceAdd, Nat.reduceEqDiff, Nat.reduceLeDiff, Nat.reduceSub, Nat.reduceMul, Int.reduceEq, eq_self, reduceIte, Int.ofNat_zero, Int.natCast_one, Int.cast_ofNat_Int, Int.reduceLT, Int.reduceLE, Int.reduceToNat, Nat.reduceLT, Int.toNat_zero, Int.natCast_zero, Int.le_refl, Int.lt_irrefl, Int.reduceAdd, frz, false_or, or_true, wk]
            refine ⟨by simp, m - 1, by omega, k + 1, by omega, ?_⟩
            rw [valsTo_succ, valStep, hcr]
            simp [trim_mk, go_sem, Nat.reduceLT, Nat.reduceAdd, Nat.reduceEqDiff, Nat.reduceLeDiff, Nat.reduceSub, Nat.reduceMul, Int.reduceEq, eq_self, reduceIte, subHeap, renObj, renCell, renLeaf, pos, List.range_succ, hV]
          · have hcr : condR l c key k = true := by simp [condR, c1, c2, c3]
            simp only [go_sem, Nat.reduceLT, Nat.reduceAdd, Nat.reduceEqDiff, Nat.reduceLeDiff, Nat.reduceSub, Nat.reduceMul, Int.reduceEq, eq_self, reduceIte, Int.ofNat_zero, Int.natCast_one, Int.cast_ofNat_Int, Int.reduceLT, Int.reduceLE, Int.reduceToNat, Nat.reduceLT, Int.toNat_zero, Int.natCast_zero, Int.le_refl, Int.lt_irrefl, Int.reduceAdd, frz, false_or, or_true]
            refine loop_inv [0, 1, 2, 7, 8, 11, 12, 13] 0 (fun q st => ∃ n : Nat, n + q = l.length ∧
              st = ⟨mkE .top [(0, .list (l.map cE)), (1, .int .i64 c), (2, .str key), (7, .list (V.map cStr)), (8, .int .i64 k), (11, .str (opOf (nth l k).t).2.2), (12, .bool (standR l c key k n)), (13, .int .i64 n)], []⟩) l.length (by simp [hx]) (by simp) ?_ ?_
            · refine ⟨0, by omega, ?_⟩
              simp [trim_mk, go_sem, Nat.reduceLT, Nat.reduceAdd, Nat.reduceEqDiff, Nat.reduceLeDiff, Nat.reduceSub, Nat.reduceMul, Int.reduceEq, eq_self, reduceIte, subHeap, renObj, renCell, renLeaf, pos, List.range_succ, standR, cOp3]
            · rintro q st ⟨n, hn, rfl⟩
              by_cases hln : n < l.length
              · have hgn : l[n]? = some (nth l n) := nth_get? _ _ hln
                have wn := i64_up (k := n) (by omega)
                have htn := log_t h (nth l n) (List.mem_of_getElem? hgn)
                have hcn := h.col hln
                rw [wthn_iff] at hcn
                have hst := standR_succ l c key k n
                simp only [go_sem, Nat.reduceLT, Nat.reduceAdd, Nat.reduceEqDiff, Nat.reduceLeDiff, Nat.reduceSub, Nat.reduceMul, Int.reduceEq, eq_self, reduceIte, Int.ofNat_zero, Int.natCast_one, Int.cast_ofNat_Int, Int.reduceLT, Int.reduceLE, Int.reduceToNat, Nat.reduceLT, Int.toNat_zero, Int.natCast_zero, Int.le_refl, Int.lt_irrefl, Int.reduceAdd, frz, false_or, or_true, hln, hgn, cE, List.length_map, List.getElem?_map, Option.map_some]
                refine ops_call (.pureE (opOf_meets (nth l n).t (by omega)) (by simp [go_sem, Nat.reduceLT, Nat.reduceAdd, Nat.reduceEqDiff, Nat.reduceLeDiff, Nat.reduceSub, Nat.reduceMul, Int.reduceEq, eq_self, reduceIte])) ?_
                by_cases b1 : (opOf (nth l n).t).1 = 0
                · have hb : blkR l c key k n = false := by simp [blkR, b1]
                  simp only [go_sem, Nat.reduceLT, Nat.reduceAdd, Nat.reduceEqDiff, Nat.reduceLeDiff, Nat.reduceSub, Nat.reduceMul, Int.reduceEq, eq_self, reduceIte, Int.ofNat_zero, Int.natCast_one, Int.cast_ofNat_Int, Int.reduceLT, Int.reduceLE, Int.reduceToNat, Nat.reduceLT, Int.toNat_zero, Int.natCast_zero, Int.le_refl, Int.lt_irrefl, Int.reduceAdd, frz, false_or, or_true, cOp3, b1, decide_true, wn]
                  refine ⟨by simp, q - 1, by omega, n + 1, by omega, ?_⟩
                  rw [hst, hb]
                  simp [trim_mk, go_sem, Nat.reduceLT, Nat.reduceAdd, Nat.reduceEqDiff, Nat.reduceLeDiff, Nat.reduceSub, Nat.reduceMul, Int.reduceEq, eq_self, reduceIte, subHeap, renObj, renCell, renLeaf, pos, List.range_succ]
                · by_cases b2 : (opOf (nth l n).t).2.1 = key
                  · simp only [go_sem, Nat.reduceLT, Nat.reduceAdd, Nat.reduceEqDiff, Nat.reduceLeDiff, Nat.reduceSub, Nat.reduceMul, Int.reduceEq, eq_self, reduceIte, Int.ofNat_zero, Int.natCast_one, Int.cast_ofNat_Int, Int.reduceLT, Int.reduceLE, Int.reduceToNat, Nat.reduceLT, Int.toNat_zero, Int.natCast_zero, Int.le_refl, Int.lt_irrefl, Int.reduceAdd, frz, false_or, or_true, hln, hgn, cE, cOp3, List.length_map, List.getElem?_map, Option.map_some, b1, b2, decide_true, decide_false]
                    refine ops_call (.pureE (meets_meets (nth l n).c c (by omega) (by omega)) (by simp [go_sem, Nat.reduceLT, Nat.reduceAdd, Nat.reduceEqDiff, Nat.reduceLeDiff, Nat.reduceSub, Nat.reduceMul, Int.reduceEq, eq_self, reduceIte])) ?_
                    cases b3 : meetB (nth l n).c c
                    · have hb : blkR l c key k n = false := by simp [blkR, b3]
                      simp only [go_sem, Nat.reduceLT, Nat.reduceAdd, Nat.reduceEqDiff, Nat.reduceLeDiff, Nat.reduceSub, Nat.reduceMul, Int.reduceEq, eq_self, reduceIte, Int.ofNat_zero, Int.natCast_one, Int.cast_ofNat_Int, Int.reduceLT, Int.reduceLE, Int.reduceToNat, Nat.reduceLT, Int.toNat_zero, Int.natCast_zero, Int.le_refl, Int.lt_irrefl, Int.reduceAdd, frz, false_or, or_true, wn]
                      refine ⟨by simp, q - 1, by omega, n + 1, by omega, ?_⟩
                      rw [hst, hb]
                      simp [trim_mk, go_sem, Nat.reduceLT, Nat.reduceAdd, Nat.reduceEqDiff, Nat.reduceLeDiff, Nat.reduceSub, Nat.reduceMul, Int.reduceEq, eq_self, reduceIte, subHeap, renObj, renCell, renLeaf, pos, List.range_succ]
                    · have hml := marksOf_length l n
                      have hkm : k < (marksOf l n).length := by omega
                      have hgm : (marksOf l n)[k]? = some (nth (marksOf l n) k) := nth_get? _ _ hkm
                      simp only [go_sem, Nat.reduceLT, Nat.reduceAdd, Nat.reduceEqDiff, Nat.reduceLeDiff, Nat.reduceSub, Nat.reduceMul, Int.reduceEq, eq_self, reduceIte, Int.ofNat_zero, Int.natCast_one, Int.cast_ofNat_Int, Int.reduceLT, Int.reduceLE, Int.reduceToNat, Nat.reduceLT, Int.toNat_zero, Int.natCast_zero, Int.le_refl, Int.lt_irrefl, Int.reduceAdd, frz, false_or, or_true]
                      refine ops_call (.pureE (pastOfR_meets l n h hln) (by simp [go_sem, Nat.reduceLT, Nat.reduceAdd, Nat.reduceEqDiff, Nat.reduceLeDiff, Nat.reduceSub, Nat.reduceMul, Int.reduceEq, eq_self, reduceIte])) ?_
                      simp only [go_sem, Nat.reduceLT, Nat.reduceAdd, Nat.reduceEqDiff, Nat.reduceLeDiff, Nat.reduceSub, Nat.reduceMul, Int.reduceEq, eq_self, reduceIte, Int.ofNat_zero, Int.natCast_one, Int.cast_ofNat_Int, Int.reduceLT, Int.reduceLE, Int.reduceToNat, Nat.reduceLT, Int.toNat_zero, Int.natCast_zero, Int.le_refl, Int.lt_irrefl, Int.reduceAdd, frz, false_or, or_true, hkm, hgm, rB, List.length_map, List.getElem?_map, Option.map_some]
                      cases b4 : nth (marksOf l n) k
                      · have hb : blkR l c key k n = false := by simp [blkR, b4]
                        simp only [go_sem, Nat.reduceLT, Nat.reduceAdd, Nat.reduceEqDiff, Nat.reduceLeDiff, Nat.reduceSub, Nat.reduceMul, Int.reduceEq, eq_self, reduceIte, Int.ofNat_zero, Int.natCast_one, Int.cast_ofNat_Int, Int.reduceLT, Int.reduceLE, Int.reduceToNat, Nat.reduceLT, Int.toNat_zero, Int.natCast_zero, Int.le_refl, Int.lt_irrefl, Int.reduceAdd, frz, false_or, or_true, wn]
                        refine ⟨by simp, q - 1, by omega, n + 1, by omega, ?_⟩
                        rw [hst, hb]
                        simp [trim_mk, go_sem, Nat.reduceLT, Nat.reduceAdd, Nat.reduceEqDiff, Nat.reduceLeDiff, Nat.reduceSub, Nat.reduceMul, Int.reduceEq, eq_self, reduceIte, subHeap, renObj, renCell, renLeaf, pos, List.range_succ]
                      · have hb : blkR l c key k n = true := by simp [blkR, b1, b2, b3, b4]
                        simp only [go_sem, Nat.reduceLT, Nat.reduceAdd, Nat.reduceEqDiff, Nat.reduceLeDiff, Nat.reduceSub, Nat.reduceMul, Int.reduceEq, eq_self, reduceIte, Int.ofNat_zero, Int.natCast_one, Int.cast_ofNat_Int, Int.reduceLT, Int.reduceLE, Int.reduceToNat, Nat.reduceLT, Int.toNat_zero, Int.natCast_zero, Int.le_refl, Int.lt_irrefl, Int.reduceAdd, frz, false_or, or_true, wn]
                        refine ⟨by simp, q - 1, by omega, n + 1, by omega, ?_⟩
                        rw [hst, hb]
                        simp [trim_mk, go_sem, Nat.reduceLT, Nat.reduceAdd, Nat.reduceEqDiff, Nat.reduceLeDiff, Nat.reduceSub, Nat.reduceMul, Int.reduceEq, eq_self, reduceIte, subHeap, renObj, renCell, renLeaf, pos, List.range_succ]
                  · have hb : blkR l c key k n = false := by simp [blkR, b2]
                    simp only [go_sem, Nat.reduceLT, Nat.reduceAdd, Nat.reduceEqDiff, Nat.reduceLeDiff, Nat.reduceSub, Nat.reduceMul, Int.reduceEq, eq_self, reduceIte, Int.ofNat_zero, Int.natCast_one, Int.cast_ofNat_Int, Int.reduceLT, Int.reduceLE, Int.reduceToNat, Nat.reduceLT, Int.toNat_zero, Int.natCast_zero, Int.le_refl, Int.lt_irrefl, Int.reduceAdd, frz, false_or, or_true, cOp3, b1, b2, decide_true, decide_false, wn]
                    refine ⟨by simp, q - 1, by omega, n + 1, by omega, ?_⟩
                    rw [hst, hb]
                    simp [trim_mk, go_sem, Nat.reduceLT, Nat.reduceAdd, Nat.reduceEqDiff, Nat.reduceLeDiff, Nat.reduceSub, Nat.reduceMul, Int.reduceEq, eq_self, reduceIte, subHeap, renObj, renCell, renLeaf, pos, List.range_succ]
              · have hnl : n = l.length := by omega
                subst hnl
                simp only [go_sem, Nat.reduceLT, Nat.reduceAdd, Nat.reduceEqDiff, Nat.reduceLeDiff, Nat.reduceSub, Nat.reduceMul, Int.reduceEq, eq_self, reduceIte, Int.ofNat_zero, Int.natCast_one, Int.cast_ofNat_Int, Int.reduceLT, Int.reduceLE, Int.reduceToNat, Nat.reduceLT, Int.toNat_zero, Int.natCast_zero, Int.le_refl, Int.lt_irrefl, Int.reduceAdd, frz, false_or, or_true, hln, List.length_map]
                cases hs : standR l c key k l.length
                · simp only [go_sem, Nat.reduceLT, Nat.reduceAdd, Nat.reduceEqDiff, Nat.reduceLeDiff, Nat.reduceSub, Nat.reduceMul, Int.reduceEq, eq_self, reduceIte, Int.ofNat_zero, Int.natCast_one, Int.cast_ofNat_Int, Int.reduceLT, Int.reduceLE, Int.reduceToNat, Nat.reduceLT, Int.toNat_zero, Int.natCast_zero, Int.le_refl, Int.lt_irrefl, Int.reduceAdd, frz, false_or, or_true, wk]
                  refine ⟨by simp, m - 1, by omega, k + 1, by omega, ?_⟩
                  rw [valsTo_succ, valStep, hcr, hs]
                  simp [trim_mk, go_sem, Nat.reduceLT, Nat.reduceAdd, Nat.reduceEqDiff, Nat.reduceLeDiff, Nat.reduceSub, Nat.reduceMul, Int.reduceEq, eq_self, reduceIte, subHeap, renObj, renCell, renLeaf, pos, List.range_succ, hV]
                · simp only [go_sem, Nat.reduceLT, Nat.reduceAdd, Nat.reduceEqDiff, Nat.reduceLeDiff, Nat.reduceSub, Nat.reduceMul, Int.reduceEq, eq_self, reduceIte, Int.ofNat_zero, Int.natCast_one, Int.cast_ofNat_Int, Int.reduceLT, Int.reduceLE, Int.reduceToNat, Nat.reduceLT, Int.toNat_zero, Int.natCast_zero, Int.le_refl, Int.lt_irrefl, Int.reduceAdd, frz, false_or, or_true]
                  refine ops_call (.pureE (withText_meets V (opOf (nth l k).t).2.2 (by omega)) (by simp [go_sem, Nat.reduceLT, Nat.reduceAdd, Nat.reduceEqDiff, Nat.reduceLeDiff, Nat.reduceSub, Nat.reduceMul, Int.reduceEq, eq_self, reduceIte])) ?_
                  simp only [go_sem, Nat.reduceLT, Nat.reduceAdd, Nat.reduceEqDiff, Nat.reduceLeDiff, Nat.reduceSub, Nat.reduceMul, Int.reduceEq, eq_self, reduceIte, Int.ofNat_zero, Int.natCast_one, Int.cast_ofNat_Int, Int.reduceLT, Int.reduceLE, Int.reduceToNat, Nat.reduceLT, Int.toNat_zero, Int.natCast_zero, Int.le_refl, Int.lt_irrefl, Int.reduceAdd, frz, false_or, or_true, wk]
                  refine ⟨by simp, m - 1, by omega, k + 1, by omega, ?_⟩
                  rw [valsTo_succ, valStep, hcr, hs]
                  simp [trim_mk, go_sem, Nat.reduceLT, Nat.reduceAdd, Nat.reduceEqDiff, Nat.reduceLeDiff, Nat.reduceSub, Nat.reduceMul, Int.reduceEq, eq_self, reduceIte, subHeap, renObj, renCell, renLeaf, pos, List.range_succ, hV]
        · have hcr : condR l c key k = false := by simp [condR, c2]
          simp only [go_sem, Nat.reduceLT, Nat.reduceAdd, Nat.reduceEqDiff, Nat.reduceLeDiff, Nat.reduceSub, Nat.reduceMul, Int.reduceEq, eq_self, reduceIte, Int.ofNat_zero, Int.natCast_one, Int.cast_ofNat_Int, Int.reduceLT, Int.reduceLE, Int.reduceToNat, Nat.reduceLT, Int.toNat_zero, Int.natCast_zero, Int.le_refl, Int.lt_irrefl, Int.reduceAdd, frz, false_or, or_true, hlt, hg, cE, cOp3, List.length_map, List.getElem?_map, Option.map_some, c1, c2, decide_true, decide_false, wk]
          refine ⟨by simp, m - 1, by omega, k + 1, by omega, ?_⟩
          rw [valsTo_succ, valStep, hcr]
          simp [trim_mk, go_sem, Nat.reduceLT, Nat.reduceAdd, Nat.reduceEqDiff, Nat.reduceLeDiff, Nat.reduceSub, Nat.reduceMul, Int.reduceEq, eq_self, reduceIte, subHeap, renObj, renCell, renLeaf, pos, List.range_succ, hV]
      · have hcr : condR l c key k = false := by simp [condR, c1]
        simp only [go_sem, Nat.reduceLT, Nat.reduceAdd, Nat.reduceEqDiff, Nat.reduceLeDiff, Nat.reduceSub, Nat.reduceMul, Int.reduceEq, eq_self, reduceIte, Int.ofNat_zero, Int.natCast_one, Int.cast_ofNat_Int, Int.reduceLT, Int.reduceLE, Int.reduceToNat, Nat.reduceLT, Int.toNat_zero, Int.natCast_zero, Int.le_refl, Int.lt_irrefl, Int.reduceAdd, frz, false_or, or_true, hlt, hg, cE, cOp3, List.length_map, List.getElem?_map, Option.map_some, c1, decide_true, decide_false, wk]
        refine ⟨by simp, m - 1, by omega, k + 1, by omega, ?_⟩
        rw [valsTo_succ, valStep, hcr]
        simp [trim_mk, go_sem, Nat.reduceLT, Nat.reduceAdd, Nat.reduceEqDiff, Nat.reduceLeDiff, Nat.reduceSub, Nat.reduceMul, Int.reduceEq, eq_self, reduceIte, subHeap, renObj, renCell, renLeaf, pos, List.range_succ, hV]
    · have hkl : k = l.length := by omega
      subst hkl
      simp only [go_sem, Nat.reduceLT, Nat.reduceAdd, Nat.reduceEqDiff, Nat.reduceLeDiff, Nat.reduceSub, Nat.reduceMul, Int.reduceEq, eq_self, reduceIte, Int.ofNat_zero, Int.natCast_one, Int.cast_ofNat_Int, Int.reduceLT, Int.reduceLE, Int.reduceToNat, Nat.reduceLT, Int.toNat_zero, Int.natCast_zero, Int.le_refl, Int.lt_irrefl, Int.reduceAdd, frz, false_or, or_true, hlt, List.length_map]
      refine ret_pure hx ?_
      simp [go_sem, Nat.reduceLT, Nat.reduceAdd, Nat.reduceEqDiff, Nat.reduceLeDiff, Nat.reduceSub, Nat.reduceMul, Int.reduceEq, eq_self, reduceIte, L15, R15, valsR]
end Go.Proofs.YtfdolehffjmdmaaGreatDoor
/- Texts put in order: plain laws. -/
namespace Go.Proofs.YtfdolehffjmdmaaGreatDoor
open Go.RowKit
theorem less_cb : ∀ a b : List UInt8, Go.Op.bytesLess a b = decide (Lib.compareBytes a b < 0)
  | [], [] => rfl
  | [], _ :: _ => rfl
  | _ :: _, [] => rfl
  | x :: a, y :: b => by
    rw [Go.Op.bytesLess, Lib.compareBytes]
    by_cases h1 : x < y
    · rw [if_pos h1]; simp [h1]
    · rw [if_neg h1]
      by_cases h2 : y < x
      · have : ¬ x = y := by intro e; rw [e] at h1 h2; exact h1 h2
        rw [if_pos h2]; simp [h1, this]
      · have : x = y := by
          rw [UInt8.lt_iff_toNat_lt] at h1 h2
          exact UInt8.toNat.inj (by omega)
        rw [if_neg h2, less_cb a b]
        simp [h1, this]
theorem leB_cmp (a b : ByteArray) : leB a b = decide (cmpB a b ≤ 0) := by
  have ha : a.toList = a.data.toList := ByteArray.toList_eq a
  have hb : b.toList = b.data.toList := ByteArray.toList_eq b
  rw [leB, ha, hb, less_cb]
  unfold cmpB
  by_cases h : Lib.compareBytes a.data.toList b.data.toList < 0
  · simp [h]; omega
  · by_cases h2 : Lib.compareBytes a.data.toList b.data.toList = 0
    · have := cb_zero h2
      simp [this, cb_refl]
    · have : ¬ a.data.toList = b.data.toList := fun e => h2 (by rw [e]; exact cb_refl _)
      have h3 : ¬ Lib.compareBytes a.data.toList b.data.toList ≤ 0 := by omega
      have h4 : ¬ a.data = b.data := fun e => this (by rw [e])
      simp [h, h4, h3]
def Up (l : List ByteArray) : Prop := l.Pairwise fun a b => cmpB a b < 0
def insT (s : ByteArray) : List ByteArray → List ByteArray
  | [] => [s]
  | y :: l => if cmpB s y < 0 then s :: y :: l else if y = s then s :: l else y :: insT s l
theorem wt_true (s : ByteArray) : ∀ (l r : List ByteArray), l.foldl (wtStep s) (r, true) = (r ++ l.filter (fun y => !decide (y = s)), true)
  | [], r => by simp
  | y :: l, r => by
    rw [List.foldl_cons]
    by_cases h : y = s
    · have : wtStep s (r, true) y = (r, true) := by simp [wtStep, h]
      rw [this, wt_true s l r]; simp [h]
    · have : wtStep s (r, true) y = (r ++ [y], true) := by simp [wtStep, h]
      rw [this, wt_true s l _]; simp [h]
theorem wt_false (s : ByteArray) : ∀ (l r : List ByteArray), Up l → (if (l.foldl (wtStep s) (r, false)).2 = true then (l.foldl (wtStep s) (r, false)).1 else (l.foldl (wtStep s) (r, false)).1 ++ [s]) = r ++ insT s l
  | [], r, _ => by simp [insT]
  | y :: l, r, hu => by
    obtain ⟨h1, h2⟩ := List.pairwise_cons.1 hu
    rw [List.foldl_cons, insT]
    by_cases hle : leB s y = true
    · have hc : cmpB s y ≤ 0 := by rw [leB_cmp] at hle; exact of_decide_eq_true hle
      have hf : l.filter (fun y => !decide (y = s)) = l := List.filter_eq_self.2 fun z hz => by
        have hyz := h1 z hz
        have : z ≠ s := by
          rintro rfl
          have := cmpB_swap z y
          omega
        simp [this]
      by_cases hy : y = s
      · have h0 : ¬ cmpB s y < 0 := by rw [hy, cmpB_refl]; omega
        have : wtStep s (r, false) y = (r ++ [s], true) := by
          rw [wtStep]; simp [hle, hy]
          rw [← hy]; rw [hy] at hle ⊢; simp [hle]
        rw [this, wt_true, hf, if_neg h0, if_pos hy]
        simp
      · have h0 : cmpB s y < 0 := by
          rcases Int.lt_or_eq_of_le hc with h | h
          · exact h
          · exact (hy (cmpB_zero h).symm).elim
        have : wtStep s (r, false) y = (r ++ [s] ++ [y], true) := by rw [wtStep]; simp [hle, hy]
        rw [this, wt_true, hf, if_pos h0]
        simp
    · have hle' : leB s y = false := by simpa using hle
      have hc : ¬ cmpB s y ≤ 0 := by rw [leB_cmp] at hle'; exact of_decide_eq_false hle'
      have hy : ¬ y = s := by rintro rfl; rw [cmpB_refl] at hc; omega
      have : wtStep s (r, false) y = (r ++ [y], false) := by rw [wtStep]; simp [hle', hy]
      rw [this, wt_false s l _ h2, if_neg (by omega), if_neg hy]
      simp
theorem withT_ins {l : List ByteArray} (s : ByteArray) (h : Up l) : withT l s = insT s l := by
  have := wt_false s l [] h
  rw [withT, wtF, this]; simp
theorem ins_mem (s : ByteArray) : ∀ {l : List ByteArray} {z : ByteArray}, z ∈ insT s l ↔ z = s ∨ z ∈ l
  | [], z => by simp [insT]
  | y :: l, z => by
    rw [insT]
    split
    · simp
    · split
      · rename_i h; subst h; simp
      · rw [List.mem_cons, ins_mem s, List.mem_cons]
        constructor
        · rintro (h | h | h)
          · exact .inr (.inl h)
          · exact .inl h
          · exact .inr (.inr h)
        · rintro (h | h | h)
          · exact .inr (.inl h)
          · exact .inl h
          · exact .inr (.inr h)
theorem ins_up (s : ByteArray) : ∀ {l : List ByteArray}, Up l → Up (insT s l)
  | [], _ => by simp [Up, insT]
  | y :: l, hu => by
    obtain ⟨h1, h2⟩ := List.pairwise_cons.1 hu
    rw [insT]
    split
    · rename_i h
      refine List.pairwise_cons.2 ⟨fun z hz => ?_, hu⟩
      rcases List.mem_cons.1 hz with rfl | hz
      · exact h
      · exact cmpB_trans h (h1 z hz)
    · split
      · rename_i h; subst h; exact hu
      · rename_i h0 hy
        refine List.pairwise_cons.2 ⟨fun z hz => ?_, ins_up s h2⟩
        rcases (ins_mem s).1 hz with rfl | hz
        · have a := cmpB_swap y z
          by_cases e : cmpB y z = 0
          · exact (hy (cmpB_zero e)).elim
          · omega
        · exact h1 z hz
theorem insT_len (s : ByteArray) : ∀ l : List ByteArray, (insT s l).length ≤ l.length + 1
  | [] => by simp [insT]
  | y :: l => by
    rw [insT]
    split
    · simp
    · split
      · simp
      · have := insT_len s l
        simp; omega
theorem strict_eq {α : Type} {r : α → α → Prop} (hi : ∀ x, ¬ r x x) (ht : ∀ x y z, r x y → r y z → r x z) : ∀ {a b : List α}, a.Pairwise r → b.Pairwise r → (∀ x, x ∈ a ↔ x ∈ b) → a = b
  | [], [], _, _, _ => rfl
  | [], y :: b, _, _, h => by have := (h y).2 (by simp); simp at this
  | x :: a, [], _, _, h => by have := (h x).1 (by simp); simp at this
  | x :: a, y :: b, h1, h2, h => by
    obtain ⟨a1, a2⟩ := List.pairwise_cons.1 h1
    obtain ⟨b1, b2⟩ := List.pairwise_cons.1 h2
    have e : x = y := by
      rcases List.mem_cons.1 ((h x).1 (by simp)) with e | hx
      · exact e
      · rcases List.mem_cons.1 ((h y).2 (by simp)) with e | hy
        · exact e.symm
        · exact (hi _ (ht _ _ _ (b1 x hx) (a1 y hy))).elim
    subst e
    rw [strict_eq hi ht a2 b2 fun z => ?_]
    constructor
    · intro hz
      rcases List.mem_cons.1 ((h z).1 (List.mem_cons_of_mem _ hz)) with rfl | hz'
      · exact (hi _ (a1 _ hz)).elim
      · exact hz'
    · intro hz
      rcases List.mem_cons.1 ((h z).2 (List.mem_cons_of_mem _ hz)) with rfl | hz'
      · exact (hi _ (b1 _ hz)).elim
      · exact hz'
theorem up_eq {a b : List ByteArray} (h1 : Up a) (h2 : Up b) (h : ∀ x, x ∈ a ↔ x ∈ b) : a = b :=
  strict_eq (r := fun a b => cmpB a b < 0) (fun x => by rw [cmpB_refl]; omega) (fun x y z => cmpB_trans) h1 h2 h
structure GoodM (m : List KV) : Prop where
  keys : m.Pairwise fun p q => cmpB p.1 q.1 < 0
  vals : ∀ p ∈ m, Up p.2 ∧ p.2 ≠ []
def inM (m : List KV) (k v : ByteArray) : Prop := ∃ p ∈ m, p.1 = k ∧ v ∈ p.2
theorem GoodM.one {m : List KV} (h : GoodM m) {p q : KV} (hp : p ∈ m) (hq : q ∈ m) (e : p.1 = q.1) : p = q := by
  obtain ⟨i, hi, rfl⟩ := List.getElem_of_mem hp
  obtain ⟨j, hj, rfl⟩ := List.getElem_of_mem hq
  have hk := List.pairwise_iff_getElem.1 h.keys
  rcases Nat.lt_trichotomy i j with hij | rfl | hij
  · have := hk i j hi hj hij; rw [e, cmpB_refl] at this; omega
  · rfl
  · have := hk j i hj hi hij; rw [e, cmpB_refl] at this; omega
theorem good_eq {a b : List KV} (ha : GoodM a) (hb : GoodM b) (h : ∀ k v, inM a k v ↔ inM b k v) : a = b := by
  have half : ∀ {a b : List KV}, GoodM a → GoodM b → (∀ k v, inM a k v ↔ inM b k v) → ∀ p ∈ a, p ∈ b := by
    intro a b ha hb h p hp
    obtain ⟨hu, hne⟩ := ha.vals p hp
    obtain ⟨v, hv⟩ := List.exists_mem_of_ne_nil _ hne
    obtain ⟨q, hq, hk, -⟩ := (h p.1 v).1 ⟨p, hp, rfl, hv⟩
    have : p.2 = q.2 := up_eq hu (hb.vals q hq).1 fun x => by
      constructor
      · intro hx
        obtain ⟨q', hq', hk', hx'⟩ := (h p.1 x).1 ⟨p, hp, rfl, hx⟩
        rw [hb.one hq hq' (by rw [hk, hk'])]; exact hx'
      · intro hx
        obtain ⟨p', hp', hk', hx'⟩ := (h p.1 x).2 ⟨q, hq, hk, hx⟩
        rw [ha.one hp hp' hk'.symm]; exact hx'
    rw [show p = q from Prod.ext hk.symm this]; exact hq
  refine strict_eq (r := fun p q : KV => cmpB p.1 q.1 < 0) (fun x => by rw [cmpB_refl]; omega) (fun x y z => cmpB_trans) ha.keys hb.keys fun p => ⟨half ha hb h p, half hb ha (fun k v => (h k v).symm) p⟩
end Go.Proofs.YtfdolehffjmdmaaGreatDoor
/- The law text's map (MapOf). -/
namespace Go.Proofs.YtfdolehffjmdmaaGreatDoor
set_option linter.unusedSimpArgs false
set_option linter.unusedVariables false
open Go.RowKit
theorem valsTo_up (l : List Entry) (c : Int) (key : ByteArray) : ∀ k, Up (valsTo l c key k) ∧ (valsTo l c key k).length ≤ k
  | 0 => ⟨by simp [valsTo, Up], by simp [valsTo]⟩
  | k + 1 => by
    obtain ⟨h1, h2⟩ := valsTo_up l c key k
    rw [valsTo_succ, valStep]
    split
    · rw [withT_ins _ h1]
      exact ⟨ins_up _ h1, by have := insT_len (opOf (nth l k).t).2.2 (valsTo l c key k); omega⟩
    · exact ⟨h1, by omega⟩
theorem valsTo_mem {l : List Entry} {c : Int} {key v : ByteArray} : ∀ {k : Nat}, v ∈ valsTo l c key k ↔ ∃ i, i < k ∧ condR l c key i = true ∧ standR l c key i l.length = true ∧ v = (opOf (nth l i).t).2.2
  | 0 => by simp [valsTo]
  | k + 1 => by
    rw [valsTo_succ, valStep]
    split
    · rename_i hc
      rw [Bool.and_eq_true] at hc
      rw [withT_ins _ (valsTo_up l c key k).1, ins_mem, valsTo_mem]
      constructor
      · rintro (h | ⟨i, h1, h2⟩)
        · exact ⟨k, by omega, hc.1, hc.2, h⟩
        · exact ⟨i, by omega, h2⟩
      · rintro ⟨i, h1, h2, h3, h4⟩
        by_cases e : i = k
        · subst e; exact .inl h4
        · exact .inr ⟨i, by omega, h2, h3, h4⟩
    · rename_i hc
      rw [valsTo_mem]
      constructor
      · rintro ⟨i, h1, h2⟩; exact ⟨i, by omega, h2⟩
      · rintro ⟨i, h1, h2, h3, h4⟩
        by_cases e : i = k
        · subst e; exact (hc (by rw [h2, h3]; rfl)).elim
        · exact ⟨i, by omega, h2, h3, h4⟩
def keyStep (ks : List ByteArray) (e : Entry) : List ByteArray := if (opOf e.t).1 = 1 then withT ks (opOf e.t).2.1 else ks
def keysTo (l : List Entry) : List ByteArray := l.foldl keyStep []
theorem keysTo_app (l : List Entry) (e : Entry) : keysTo (l ++ [e]) = keyStep (keysTo l) e := by rw [keysTo, List.foldl_append]; rfl
theorem keysTo_take {l : List Entry} {k : Nat} (h : k < l.length) : keysTo (l.take (k + 1)) = keyStep (keysTo (l.take k)) (nth l k) := by
  rw [List.take_add_one, nth_get? _ _ h, Option.toList_some, keysTo_app]
theorem keysTo_up {l : List Entry} : ∀ k, k ≤ l.length → Up (keysTo (l.take k)) ∧ (keysTo (l.take k)).length ≤ k
  | 0, _ => ⟨by simp [keysTo, Up], by simp [keysTo]⟩
  | k + 1, h => by
    obtain ⟨h1, h2⟩ := keysTo_up (l := l) k (by omega)
    rw [keysTo_take (by omega), keyStep]
    split
    · rw [withT_ins _ h1]
      exact ⟨ins_up _ h1, by have := insT_len (opOf (nth l k).t).2.1 (keysTo (l.take k)); omega⟩
    · exact ⟨h1, by omega⟩
theorem keysTo_mem {l : List Entry} {v : ByteArray} : ∀ {k : Nat}, k ≤ l.length → (v ∈ keysTo (l.take k) ↔ ∃ i, i < k ∧ (opOf (nth l i).t).1 = 1 ∧ v = (opOf (nth l i).t).2.1)
  | 0, _ => by simp [keysTo]
  | k + 1, h => by
    rw [keysTo_take (by omega), keyStep]
    split
    · rename_i hc
      rw [withT_ins _ (keysTo_up k (by omega)).1, ins_mem, keysTo_mem (by omega)]
      constructor
      · rintro (h | ⟨i, h1, h2⟩)
        · exact ⟨k, by omega, hc, h⟩
        · exact ⟨i, by omega, h2⟩
      · rintro ⟨i, h1, h2, h3⟩
        by_cases e : i = k
        · subst e; exact .inl h3
        · exact .inr ⟨i, by omega, h2, h3⟩
    · rename_i hc
      rw [keysTo_mem (by omega)]
      constructor
      · rintro ⟨i, h1, h2⟩; exact ⟨i, by omega, h2⟩
      · rintro ⟨i, h1, h2, h3⟩
        by_cases e : i = k
        · subst e; exact (hc h2).elim
        · exact ⟨i, by omega, h2, h3⟩
def mapOne (l : List Entry) (c : Int) (key : ByteArray) : Option KV := if valsR l c key = [] then none else some (key, valsR l c key)
def mapR (l : List Entry) (c : Int) : List KV := (keysTo l).filterMap (mapOne l c)
theorem fm_take {α β : Type} [Inhabited α] (f : α → Option β) {l : List α} {k : Nat} (h : k < l.length) : (l.take (k + 1)).filterMap f = (l.take k).filterMap f ++ (f (nth l k)).toList := by
  rw [List.take_add_one, nth_get? _ _ h, List.filterMap_append]
  cases h2 : f (nth l k) <;> simp [h2]
set_option maxRecDepth 20000 in
set_option maxHeartbeats 8000000 in
theorem mapOf_meets (l : List Entry) (c : Int) (h : LogOk l) (hc : wthn c 1 7 = true) : Meets Tryz.prog 14 [.list (l.map cE), .int .i64 c] [] (.list ((mapR l c).map cPair)) [] := by
  have hm := h.len
  refine Meets.of_walk Tryz.func14 Tryz.ntmps14 low14 res14 (by simp) fun x hx => ?_
  simp only [go_sem, Nat.reduceLT, Nat.reduceAdd, Nat.reduceEqDiff, Nat.reduceLeDiff, Nat.reduceSub, Nat.reduceMul, Int.reduceEq, eq_self, reduceIte, L14, R14]
  refine W_weak (weak_nil 5 rfl) ?_
  refine loop_inv [0, 1, 5, 6] 0 (fun m st => ∃ k : Nat, k + m = l.length ∧
    st = ⟨mkE .top [(0, .list (l.map cE)), (1, .int .i64 c), (5, .list ((keysTo (l.take k)).map cStr)), (6, .int .i64 k)], []⟩) l.length (by simp [hx]) (by simp [St.put]) ?_ ?_
  · refine ⟨0, by omega, ?_⟩
    rw [put_mk]
    simp [trim_mk, go_sem, Nat.reduceLT, Nat.reduceAdd, Nat.reduceEqDiff, Nat.reduceLeDiff, Nat.reduceSub, Nat.reduceMul, Int.reduceEq, eq_self, reduceIte, subHeap, renObj, renCell, renLeaf, pos, List.range_succ, keysTo]
  · rintro m st ⟨k, hk, rfl⟩
    by_cases hlt : k < l.length
    · have hg : l[k]? = some (nth l k) := nth_get? _ _ hlt
      have wk := i64_up (k := k) (by omega)
      have htk := log_t h (nth l k) (List.mem_of_getElem? hg)
      have hst := keysTo_take hlt
      have hkl := (keysTo_up k (by omega : k ≤ l.length)).2
      simp only [go_sem, Nat.reduceLT, Nat.reduceAdd, Nat.reduceEqDiff, Nat.reduceLeDiff, Nat.reduceSub, Nat.reduceMul, Int.reduceEq, eq_self, reduceIte, Int.ofNat_zero, Int.natCast_one, Int.cast_ofNat_Int, Int.reduceLT, Int.reduceLE, Int.reduceToNat, Nat.reduceLT, Int.toNat_zero, Int.natCast_zero, Int.le_refl, Int.lt_irrefl, Int.reduceAdd, frz, false_or, or_true, hlt, hg, cE, List.length_map, List.getElem?_map, Option.map_some]
      refine ops_call (.pureE (opOf_meets (nth l k).t (by omega)) (by simp [go_sem, Nat.reduceLT, Nat.reduceAdd, Nat.reduceEqDiff, Nat.reduceLeDiff, Nat.reduceSub, Nat.reduceMul, Int.reduceEq, eq_self, reduceIte])) ?_
      by_cases c1 : (opOf (nth l k).t).1 = 1
      · simp only [go_sem, Nat.reduceLT, Nat.reduceAdd, Nat.reduceEqDiff, Nat.reduceLeDiff, Nat.reduceSub, Nat.reduceMul, Int.reduceEq, eq_self, reduceIte, Int.ofNat_zero, Int.natCast_one, Int.cast_ofNat_Int, Int.reduceLT, Int.reduceLE, Int.reduceToNat, Nat.reduceLT, Int.toNat_zero, Int.natCast_zero, Int.le_refl, Int.lt_irrefl, Int.reduceAdd, frz, false_or, or_true, cOp3, c1, decide_true]
        refine ops_call (.pureE (withText_meets (keysTo (l.take k)) (opOf (nth l k).t).2.1 (by omega)) (by simp [go_sem, Nat.reduceLT, Nat.reduceAdd, Nat.reduceEqDiff, Nat.reduceLeDiff, Nat.reduceSub, Nat.reduceMul, Int.reduceEq, eq_self, reduceIte])) ?_
        simp only [go_sem, Nat.reduceLT, Nat.reduceAdd, Nat.reduceEqDiff, Nat.reduceLeDiff, Nat.reduceSub, Nat.reduceMul, Int.reduceEq, eq_self, reduceIte, Int.ofNat_zero, Int.natCast_one, Int.cast_ofNat_Int, Int.reduceLT, Int.reduceLE, Int.reduceToNat, Nat.reduceLT, Int.toNat_zero, Int.natCast_zero, Int.le_refl, Int.lt_irrefl, Int.reduceAdd, frz, false_or, or_true, wk]
        refine ⟨by simp, m - 1, by omega, k + 1, by omega, ?_⟩
        rw [hst, keyStep, if_pos c1]
        simp [trim_mk, go_sem, Nat.reduceLT, Nat.reduceAdd, Nat.reduceEqDiff, Nat.reduceLeDiff, Nat.reduceSub, Nat.reduceMul, Int.reduceEq, eq_self, reduceIte, subHeap, renObj, renCell, renLeaf, pos, List.range_succ]
      · simp only [go_sem, Nat.reduceLT, Nat.reduceAdd, Nat.reduceEqDiff, Nat.reduceLeDiff, Nat.reduceSub, Nat.reduceMul, Int.reduceEq, eq_self, reduceIte, Int.ofNat_zero, Int.natCast_one, Int.cast_ofNat_Int, Int.reduceLT, Int.reduceLE, Int.reduceToNat, Nat.reduceLT, Int.toNat_zero, Int.natCast_zero, Int.le_refl, Int.lt_irrefl, Int.reduceAdd, frz, false_or, or_true, cOp3, c1, decide_false, wk]
        refine ⟨by simp, m - 1, by omega, k + 1, by omega, ?_⟩
        rw [hst, keyStep, if_neg c1]
        simp [trim_mk, go_sem, Nat.reduceLT, Nat.reduceAdd, Nat.reduceEqDiff, Nat.reduceLeDiff, Nat.reduceSub, Nat.reduceMul, Int.reduceEq, eq_self, reduceIte, subHeap, renObj, renCell, renLeaf, pos, List.range_succ]
    · have hKl := (keysTo_up l.length (Nat.le_refl _)).2
      have htk : l.take k = l := List.take_of_length_le (by omega)
      rw [List.take_length] at hKl
      rw [htk]
      obtain ⟨K, hK⟩ : ∃ K, keysTo l = K := ⟨_, rfl⟩
      rw [mapR, hK]
      rw [hK] at hKl
      simp only [go_sem, Nat.reduceLT, Nat.reduceAdd, Nat.reduceEqDiff, Nat.reduceLeDiff, Nat.reduceSub, Nat.reduceMul, Int.reduceEq, eq_self, reduceIte, Int.ofNat_zero, Int.natCast_one, Int.cast_ofNat_Int, Int.reduceLT, Int.reduceLE, Int.reduceToNat, Nat.reduceLT, Int.toNat_zero, Int.natCast_zero, Int.le_refl, Int.lt_irrefl, Int.reduceAdd, frz, false_or, or_true, hlt, List.length_map]
      refine W_weak (weak_own 10 0 81 2 false false rfl (by omega)) ?_
      refine loop_inv [0, 1, 5, 10, 11] 1 (fun q st => ∃ n v : Nat, n + q = K.length ∧
        st = ⟨mkE .top [(0, .list (l.map cE)), (1, .int .i64 c), (5, .list (K.map cStr)), (10, .arr 0 v), (11, .int .i64 n)], [.arr v false false 81 2 (((K.take n).filterMap (mapOne l c)).map cPair)]⟩) K.length (by simp [hx]) (by simp [St.put]) ?_ ?_
      · refine ⟨0, 0, by omega, ?_⟩
        rw [put_mk]
        simp [trim_mk, go_sem, Nat.reduceLT, Nat.reduceAdd, Nat.reduceEqDiff, Nat.reduceLeDiff, Nat.reduceSub, Nat.reduceMul, Int.reduceEq, eq_self, reduceIte, subHeap, renObj, renCell, renLeaf, pos, List.range_succ]
      · rintro q st ⟨n, v, hn, rfl⟩
        by_cases hln : n < K.length
        · have hgn : K[n]? = some (nth K n) := nth_get? _ _ hln
          have wn := i64_up (k := n) (by omega)
          have hft := fm_take (mapOne l c) hln
          have hle := filterMap_len (mapOne l c) (K.take n)
          rw [List.length_take] at hle
          simp only [go_sem, Nat.reduceLT, Nat.reduceAdd, Nat.reduceEqDiff, Nat.reduceLeDiff, Nat.reduceSub, Nat.reduceMul, Int.reduceEq, eq_self, reduceIte, Int.ofNat_zero, Int.natCast_one, Int.cast_ofNat_Int, Int.reduceLT, Int.reduceLE, Int.reduceToNat, Nat.reduceLT, Int.toNat_zero, Int.natCast_zero, Int.le_refl, Int.lt_irrefl, Int.reduceAdd, frz, false_or, or_true, hln, hgn, cStr, List.length_map, List.getElem?_map, Option.map_some]
          refine ops_call (.pureE (valuesOf_meets l c (nth K n) h hc (fun k hk => by have := (valsTo_up l c (nth K n) k).2; omega)) (by simp [go_sem, Nat.reduceLT, Nat.reduceAdd, Nat.reduceEqDiff, Nat.reduceLeDiff, Nat.reduceSub, Nat.reduceMul, Int.reduceEq, eq_self, reduceIte])) ?_
          obtain ⟨V, hV⟩ : ∃ V, valsR l c (nth K n) = V := ⟨_, rfl⟩
          rw [mapOne, hV] at hft
          rw [hV]
          cases V with
          | nil =>
            rw [if_pos rfl] at hft
            simp only [go_sem, Nat.reduceLT, Nat.reduceAdd, Nat.reduceEqDiff, Nat.reduceLeDiff, Nat.reduceSub, Nat.reduceMul, Int.reduceEq, eq_self, reduceIte, Int.ofNat_zero, Int.natCast_one, Int.cast_ofNat_Int, Int.reduceLT, Int.reduceLE, Int.reduceToNat, Nat.reduceLT, Int.toNat_zero, Int.natCast_zero, Int.le_refl, Int.lt_irrefl, Int.reduceAdd, frz, false_or, or_true, List.map_nil, List.length_nil, wn]
            refine ⟨by simp, q - 1, by omega, n + 1, v, by omega, ?_⟩
            rw [hft]
            simp [trim_mk, go_sem, Nat.reduceLT, Nat.reduceAdd, Nat.reduceEqDiff, Nat.reduceLeDiff, Nat.reduceSub, Nat.reduceMul, Int.reduceEq, eq_self, reduceIte, subHeap, renObj, renCell, renLeaf, pos, List.range_succ]
          | cons y V =>
            rw [if_neg (by simp)] at hft
            have hpos : ((0 : Int) < ((V.length + 1 : Nat) : Int)) = True := eq_true (by omega)
            simp only [go_sem, Nat.reduceLT, Nat.reduceAdd, Nat.reduceEqDiff, Nat.reduceLeDiff, Nat.reduceSub, Nat.reduceMul, Int.reduceEq, eq_self, reduceIte, Int.ofNat_zero, Int.natCast_one, Int.cast_ofNat_Int, Int.reduceLT, Int.reduceLE, Int.reduceToNat, Nat.reduceLT, Int.toNat_zero, Int.natCast_zero, Int.le_refl, Int.lt_irrefl, Int.reduceAdd, frz, false_or, or_true, hln, hgn, cStr, List.length_map, List.getElem?_map, Option.map_some, List.map_cons, List.length_cons, hpos]
            rw [app_arr rfl rfl (by simp) (by simp; omega)]
            simp only [go_sem, Nat.reduceLT, Nat.reduceAdd, Nat.reduceEqDiff, Nat.reduceLeDiff, Nat.reduceSub, Nat.reduceMul, Int.reduceEq, eq_self, reduceIte, Int.ofNat_zero, Int.natCast_one, Int.cast_ofNat_Int, Int.reduceLT, Int.reduceLE, Int.reduceToNat, Nat.reduceLT, Int.toNat_zero, Int.natCast_zero, Int.le_refl, Int.lt_irrefl, Int.reduceAdd, frz, false_or, or_true, wn]
            refine ⟨by simp, q - 1, by omega, n + 1, v + 1, by omega, ?_⟩
            rw [hft]
            simp [trim_mk, go_sem, Nat.reduceLT, Nat.reduceAdd, Nat.reduceEqDiff, Nat.reduceLeDiff, Nat.reduceSub, Nat.reduceMul, Int.reduceEq, eq_self, reduceIte, subHeap, renObj, renCell, renLeaf, pos, List.range_succ, cPair, cStr]
        · have hkn : K.take n = K := List.take_of_length_le (by omega)
          simp only [go_sem, Nat.reduceLT, Nat.reduceAdd, Nat.reduceEqDiff, Nat.reduceLeDiff, Nat.reduceSub, Nat.reduceMul, Int.reduceEq, eq_self, reduceIte, Int.ofNat_zero, Int.natCast_one, Int.cast_ofNat_Int, Int.reduceLT, Int.reduceLE, Int.reduceToNat, Nat.reduceLT, Int.toNat_zero, Int.natCast_zero, Int.le_refl, Int.lt_irrefl, Int.reduceAdd, frz, false_or, or_true, hln, List.length_map, hkn]
          refine ret_pure hx ?_
          simp [go_sem, Nat.reduceLT, Nat.reduceAdd, Nat.reduceEqDiff, Nat.reduceLeDiff, Nat.reduceSub, Nat.reduceMul, Int.reduceEq, eq_self, reduceIte, L14, R14, frzAt, pos]
end Go.Proofs.YtfdolehffjmdmaaGreatDoor
/- Plain laws of pasts and heads: what the marks tell. No program in sight. -/
namespace Go.Proofs.YtfdolehffjmdmaaGreatDoor
theorem pastOf_trans {l : List Entry} (h : LogOk l) {j : Nat} (hj : j < l.length) : ∀ (a : Nat), a < l.length → (nth l j).id ∈ pastOf l a → ∀ y ∈ pastOf l j, y ∈ pastOf l a := by
  intro a
  induction a using Nat.strongRecOn with
  | _ a ih =>
    intro ha hm y hy
    obtain ⟨x, hx, he⟩ := (mem_pastOf h ha).1 hm
    obtain ⟨f1, f2⟩ := h.link_lt ha hx
    refine (mem_pastOf h ha).2 ⟨x, hx, .inr ?_⟩
    rcases he with rfl | he
    · rw [h.find hj, Int.toNat_natCast]; exact hy
    · exact ih _ (by omega) (by omega) he y hy
theorem nth_set {M : List Bool} {i k : Nat} (hk : k < M.length) : nth (M.set i true) k = (nth M k || decide (i = k)) := by
  rw [nth_eq _ _ (by simpa using hk), nth_eq _ _ hk, List.getElem_set]
  by_cases e : i = k
  · simp [e]
  · simp [e]
theorem nth_markL {l : List Entry} : ∀ (ls : List Id) (M : List Bool) (k : Nat), k < M.length → nth (markL l ls M) k = (nth M k || ls.any fun x => decide ((findE l x).toNat = k))
  | [], M, k, _ => by simp [markL]
  | x :: ls, M, k, h => by
    show nth (markL l ls (M.set (findE l x).toNat true)) k = _
    rw [nth_markL ls _ k (by simpa using h), nth_set h]
    simp [Bool.or_assoc]
theorem markL_link {l : List Entry} (h : LogOk l) {i k : Nat} (hi : i < l.length) (hk : k < l.length) {M : List Bool} (hM : M.length = l.length) :
    nth (markL l (nth l i).ls M) k = true ↔ nth M k = true ∨ (nth l k).id ∈ (nth l i).ls := by
  rw [nth_markL _ _ _ (by omega), Bool.or_eq_true, List.any_eq_true]
  constructor
  · rintro (h1 | ⟨x, hx, hd⟩)
    · exact .inl h1
    · obtain ⟨f1, f2⟩ := h.link_lt hi hx
      obtain ⟨m, g1, g2, g3⟩ := findE_spec f1
      have : m = k := by simpa [g1] using hd
      subst this
      exact .inr (by rw [g3]; exact hx)
  · rintro (h1 | hx)
    · exact .inl h1
    · exact .inr ⟨_, hx, by simp [h.find hk]⟩
theorem nth_repl {n k : Nat} (h : k < n) : nth (List.replicate n false) k = false := by
  rw [nth_eq _ _ (by simpa using h)]; simp
theorem marks_inv {l : List Entry} (h : LogOk l) {a : Nat} (ha : a < l.length) : ∀ s, s ≤ a →
    (∀ k, k < l.length → nth (marks l a (s + 1)) k = true → (nth l k).id ∈ pastOf l a) ∧
    (∀ k, k < l.length → (nth l k).id ∈ pastOf l a → nth (marks l a (s + 1)) k = true ∨ ∃ j, j < a - s ∧ nth (marks l a (s + 1)) j = true ∧ (nth l k).id ∈ pastOf l j)
  | 0, _ => by
    have e : marks l a 1 = markL l (nth l a).ls (List.replicate l.length false) := by simp [marks, markS]
    rw [Nat.zero_add, e]
    have hlk : ∀ k, k < l.length → (nth (markL l (nth l a).ls (List.replicate l.length false)) k = true ↔ (nth l k).id ∈ (nth l a).ls) := fun k hk => by
      rw [markL_link h ha hk (by simp), nth_repl hk]; simp
    refine ⟨fun k hk hm => (mem_pastOf h ha).2 ⟨_, (hlk k hk).1 hm, .inl rfl⟩, fun k hk hp => ?_⟩
    obtain ⟨x, hx, he⟩ := (mem_pastOf h ha).1 hp
    rcases he with rfl | he
    · exact .inl ((hlk k hk).2 hx)
    · obtain ⟨f1, f2⟩ := h.link_lt ha hx
      obtain ⟨m, g1, g2, g3⟩ := findE_spec f1
      rw [g1, Int.toNat_natCast] at he
      exact .inr ⟨m, by omega, (hlk m g2).2 (by rw [g3]; exact hx), he⟩
  | s + 1, hs => by
    obtain ⟨iA, iB⟩ := marks_inv h ha s (by omega)
    have hi : a - (s + 1) < l.length := by omega
    have e : marks l a (s + 1 + 1) = markS l a (a - (s + 1)) (marks l a (s + 1)) := rfl
    rw [e]
    generalize hM : marks l a (s + 1) = M at *
    have hMl : M.length = l.length := by rw [← hM]; exact marks_length l a _
    generalize hid : a - (s + 1) = i at *
    have hne : ¬ i = a := by omega
    unfold markS
    by_cases hm : nth M i = true
    · rw [if_pos (.inr hm)]
      have hlk : ∀ k, k < l.length → (nth (markL l (nth l i).ls M) k = true ↔ nth M k = true ∨ (nth l k).id ∈ (nth l i).ls) := fun k hk => markL_link h hi hk hMl
      refine ⟨fun k hk hkm => ?_, fun k hk hp => ?_⟩
      · rcases (hlk k hk).1 hkm with h1 | h1
        · exact iA k hk h1
        · exact pastOf_trans h hi a ha (iA i hi hm) _ ((mem_pastOf h hi).2 ⟨_, h1, .inl rfl⟩)
      · rcases iB k hk hp with h1 | ⟨j, hj, h2, h3⟩
        · exact .inl ((hlk k hk).2 (.inl h1))
        · by_cases hji : j = i
          · subst hji
            obtain ⟨x, hx, he⟩ := (mem_pastOf h hi).1 h3
            rcases he with rfl | he
            · exact .inl ((hlk k hk).2 (.inr hx))
            · obtain ⟨f1, f2⟩ := h.link_lt hi hx
              obtain ⟨m, g1, g2, g3⟩ := findE_spec f1
              rw [g1, Int.toNat_natCast] at he
              exact .inr ⟨m, by omega, (hlk m g2).2 (.inr (by rw [g3]; exact hx)), he⟩
          · exact .inr ⟨j, by omega, (hlk j (by omega)).2 (.inl h2), h3⟩
    · rw [if_neg (by simp [hne, hm])]
      refine ⟨iA, fun k hk hp => ?_⟩
      rcases iB k hk hp with h1 | ⟨j, hj, h2, h3⟩
      · exact .inl h1
      · have : j ≠ i := fun e => hm (e ▸ h2)
        exact .inr ⟨j, by omega, h2, h3⟩
theorem marksOf_iff {l : List Entry} (h : LogOk l) {a k : Nat} (ha : a < l.length) (hk : k < l.length) : nth (marksOf l a) k = true ↔ (nth l k).id ∈ pastOf l a := by
  obtain ⟨h1, h2⟩ := marks_inv h ha a (Nat.le_refl _)
  refine ⟨h1 k hk, fun hp => ?_⟩
  rcases h2 k hk hp with h3 | ⟨j, hj, -⟩
  · exact h3
  · omega
end Go.Proofs.YtfdolehffjmdmaaGreatDoor
/- The map of a log is the law text's map: plain law. -/
namespace Go.Proofs.YtfdolehffjmdmaaGreatDoor
open Go.RowKit
theorem grp_step {m : List KV} {k v : ByteArray} (h : GoodM m) (hle : ∀ p ∈ m, ∀ y ∈ p.2, cmpP (p.1, y) (k, v) ≤ 0) :
    GoodM (grp1 m (k, v)) ∧ ∀ k' v', inM (grp1 m (k, v)) k' v' ↔ inM m k' v' ∨ (k' = k ∧ v' = v) := by
  cases hl : m.getLast? with
  | none =>
    have hm : m = [] := List.getLast?_eq_none_iff.1 hl
    subst hm
    have e : grp1 [] (k, v) = [(k, [v])] := rfl
    rw [e]
    refine ⟨⟨by simp, fun p hp => ?_⟩, fun k' v' => ?_⟩
    · obtain rfl : p = (k, [v]) := by simpa using hp
      exact ⟨by simp [Up], by simp⟩
    · simp only [inM, List.mem_singleton, List.not_mem_nil, false_and, exists_false, false_or]
      constructor
      · rintro ⟨p, rfl, h1, h2⟩
        exact ⟨h1.symm, by simpa using h2⟩
      · rintro ⟨h1, h2⟩
        exact ⟨_, rfl, h1.symm, by simpa using h2⟩
  | some p =>
    obtain ⟨o, rfl⟩ := List.getLast?_eq_some_iff.1 hl
    obtain ⟨key, vs⟩ := p
    obtain ⟨k1, k2, k3⟩ := List.pairwise_append.1 h.keys
    have hp : (key, vs) ∈ o ++ [(key, vs)] := by simp
    obtain ⟨u1, u2⟩ := h.vals _ hp
    simp only at u1 u2
    by_cases hk : key = k
    · subst hk
      have hvle : ∀ y ∈ vs, cmpB y v ≤ 0 := fun y hy => by
        have := hle _ hp y hy
        rw [cmpP, if_pos (cmpB_refl _)] at this
        exact this
      cases hv : vs.any fun x => decide (v = x)
      · rw [grp1_app hv]
        have hlt : ∀ y ∈ vs, cmpB y v < 0 := fun y hy => by
          have h1 := hvle y hy
          have h2 := List.any_eq_false.1 hv y hy
          have h3 : ¬ cmpB y v = 0 := fun e => h2 (by rw [cmpB_zero e]; simp)
          omega
        refine ⟨⟨?_, fun p hp' => ?_⟩, fun k' v' => ?_⟩
        · refine List.pairwise_append.2 ⟨k1, by simp, fun a ha b hb => ?_⟩
          obtain rfl : b = (key, vs ++ [v]) := by simpa using hb
          exact k3 a ha (key, vs) (by simp)
        · rcases List.mem_append.1 hp' with h1 | h1
          · exact h.vals p (List.mem_append_left _ h1)
          · obtain rfl : p = (key, vs ++ [v]) := by simpa using h1
            refine ⟨List.pairwise_append.2 ⟨u1, by simp, fun a ha b hb => ?_⟩, by simp⟩
            obtain rfl : b = v := by simpa using hb
            exact hlt a ha
        · constructor
          · rintro ⟨p, hp', e1, e2⟩
            rcases List.mem_append.1 hp' with h1 | h1
            · exact .inl ⟨p, List.mem_append_left _ h1, e1, e2⟩
            · obtain rfl : p = (key, vs ++ [v]) := by simpa using h1
              rcases List.mem_append.1 e2 with e2 | e2
              · exact .inl ⟨_, hp, e1, e2⟩
              · exact .inr ⟨e1.symm, by simpa using e2⟩
          · rintro (⟨p, hp', e1, e2⟩ | ⟨rfl, rfl⟩)
            · rcases List.mem_append.1 hp' with h1 | h1
              · exact ⟨p, List.mem_append_left _ h1, e1, e2⟩
              · obtain rfl : p = (key, vs) := by simpa using h1
                exact ⟨(key, vs ++ [v]), by simp, e1, List.mem_append_left _ e2⟩
            · exact ⟨(k', vs ++ [v']), by simp, rfl, by simp⟩
      · rw [grp1_in hv]
        refine ⟨h, fun k' v' => ?_⟩
        constructor
        · exact .inl
        · rintro (h1 | ⟨rfl, rfl⟩)
          · exact h1
          · obtain ⟨y, hy, e⟩ := List.any_eq_true.1 hv
            have e : v' = y := by simpa using e
            exact ⟨_, hp, rfl, by rw [e]; exact hy⟩
    · rw [grp1_new hk]
      have hlast : cmpB key k < 0 := by
        obtain ⟨y, hy⟩ := List.exists_mem_of_ne_nil _ u2
        have := hle _ hp y hy
        have h0 : ¬ cmpB key k = 0 := fun e => hk (cmpB_zero e)
        rw [cmpP, if_neg h0] at this
        simp only at this
        omega
      refine ⟨⟨?_, fun p hp' => ?_⟩, fun k' v' => ?_⟩
      · refine List.pairwise_append.2 ⟨h.keys, by simp, fun a ha b hb => ?_⟩
        obtain rfl : b = (k, [v]) := by simpa using hb
        rcases List.mem_append.1 ha with h1 | h1
        · exact cmpB_trans (k3 a h1 (key, vs) (by simp)) hlast
        · obtain rfl : a = (key, vs) := by simpa using h1
          exact hlast
      · rcases List.mem_append.1 hp' with h1 | h1
        · exact h.vals p h1
        · obtain rfl : p = (k, [v]) := by simpa using h1
          exact ⟨by simp [Up], by simp⟩
      · constructor
        · rintro ⟨p, hp', e1, e2⟩
          rcases List.mem_append.1 hp' with h1 | h1
          · exact .inl ⟨p, h1, e1, e2⟩
          · obtain rfl : p = (k, [v]) := by simpa using h1
            exact .inr ⟨e1.symm, by simpa using e2⟩
        · rintro (⟨p, hp', e1, e2⟩ | ⟨rfl, rfl⟩)
          · exact ⟨p, List.mem_append_left _ hp', e1, e2⟩
          · exact ⟨(k', [v']), by simp, rfl, by simp⟩
theorem grp_good : ∀ (n : Nat) (L : List (ByteArray × ByteArray)), L.length = n → (L.Pairwise fun x y => ¬ cmpP y x < 0) → GoodM (grpL L) ∧ ∀ k v, inM (grpL L) k v ↔ (k, v) ∈ L
  | 0, L, hn, _ => by
    obtain rfl : L = [] := List.length_eq_zero_iff.1 hn
    exact ⟨⟨by simp [grpL], fun p hp => by simp [grpL] at hp⟩, fun k v => by simp [grpL, inM]⟩
  | n + 1, L, hn, hL => by
    have hne : L ≠ [] := by intro e; rw [e] at hn; simp at hn
    obtain ⟨L0, x, rfl⟩ : ∃ L0 x, L = L0 ++ [x] := ⟨L.dropLast, L.getLast hne, (List.dropLast_concat_getLast hne).symm⟩
    obtain ⟨p1, -, p3⟩ := List.pairwise_append.1 hL
    obtain ⟨g1, g2⟩ := grp_good n L0 (by simpa using hn) p1
    obtain ⟨k, v⟩ := x
    have e : grpL (L0 ++ [(k, v)]) = grp1 (grpL L0) (k, v) := by rw [grpL, List.foldl_append]; rfl
    have hst := grp_step (k := k) (v := v) g1 (fun p hp y hy => by
      have hm : (p.1, y) ∈ L0 := (g2 p.1 y).1 ⟨p, hp, rfl, hy⟩
      have := p3 _ hm (k, v) (by simp)
      have h2 := cmpP_swap (p.1, y) (k, v)
      omega)
    rw [e]
    refine ⟨hst.1, fun k' v' => ?_⟩
    rw [hst.2, g2, List.mem_append, List.mem_singleton, Prod.mk.injEq]
theorem raw_good (l : List Entry) (c : Int) : GoodM (rawL l c) ∧ ∀ k v, inM (rawL l c) k v ↔ ∃ o ∈ standsL l c, o.k = k ∧ o.v = v := by
  obtain ⟨h1, h2⟩ := sortF_spec (standsL l c)
  obtain ⟨g1, g2⟩ := grp_good _ ((sortF (standsL l c)).map FOp.kv) rfl (List.pairwise_map.2 h2)
  refine ⟨g1, fun k v => ?_⟩
  rw [rawL, g2, List.mem_map]
  constructor
  · rintro ⟨o, ho, e⟩
    simp only [FOp.kv, Prod.mk.injEq] at e
    exact ⟨o, h1.mem_iff.1 ho, e⟩
  · rintro ⟨o, ho, e⟩
    exact ⟨o, h1.mem_iff.2 ho, by simp only [FOp.kv, Prod.mk.injEq]; exact e⟩
theorem mapR_good (l : List Entry) (c : Int) : GoodM (mapR l c) ∧ ∀ k v, inM (mapR l c) k v ↔ ∃ i, i < l.length ∧ condR l c k i = true ∧ standR l c k i l.length = true ∧ v = (opOf (nth l i).t).2.2 := by
  have hup := (keysTo_up l.length (Nat.le_refl _)).1
  rw [List.take_length] at hup
  refine ⟨⟨?_, fun p hp => ?_⟩, fun k v => ?_⟩
  · refine List.pairwise_filterMap.2 (hup.imp fun {a b} hab x hx y hy => ?_)
    unfold mapOne at hx hy
    split at hx
    · cases hx
    · split at hy
      · cases hy
      · cases hx; cases hy; exact hab
  · obtain ⟨k, -, hk⟩ := List.mem_filterMap.1 hp
    unfold mapOne at hk
    split at hk
    · cases hk
    · rename_i hne
      cases hk
      exact ⟨(valsTo_up l c k l.length).1, hne⟩
  · constructor
    · rintro ⟨p, hp, rfl, hv⟩
      obtain ⟨k, -, hk⟩ := List.mem_filterMap.1 hp
      unfold mapOne at hk
      split at hk
      · cases hk
      · cases hk
        exact valsTo_mem.1 hv
    · rintro ⟨i, h1, h2, h3, h4⟩
      have hv : v ∈ valsR l c k := valsTo_mem.2 ⟨i, h1, h2, h3, h4⟩
      have hne : valsR l c k ≠ [] := List.ne_nil_of_mem hv
      have hcr := h2
      simp only [condR, Bool.and_eq_true, decide_eq_true_eq] at hcr
      have hk : k ∈ keysTo l := by
        have := (keysTo_mem (l := l) (v := k) (Nat.le_refl _)).2 ⟨i, h1, hcr.1, hcr.2.1.symm⟩
        rwa [List.take_length] at this
      exact ⟨(k, valsR l c k), List.mem_filterMap.2 ⟨k, hk, by rw [mapOne, if_neg hne]⟩, rfl, hv⟩
theorem memN {l : List Entry} {e : Entry} : e ∈ l ↔ ∃ k, k < l.length ∧ nth l k = e := by
  constructor
  · intro h
    obtain ⟨k, hk, rfl⟩ := List.getElem_of_mem h
    exact ⟨k, hk, nth_eq _ _ hk⟩
  · rintro ⟨k, hk, rfl⟩
    rw [nth_eq _ _ hk]; exact List.getElem_mem hk
theorem ops_iff {l : List Entry} {c : Int} {o : FOp} : o ∈ opsL l c ↔ ∃ i, i < l.length ∧ meetB (nth l i).c c = true ∧ (opOf (nth l i).t).1 ≠ 0 ∧ o = ⟨(nth l i).id, (opOf (nth l i).t).2.1, (opOf (nth l i).t).2.2, decide ((opOf (nth l i).t).1 = 1)⟩ := by
  constructor
  · intro h
    obtain ⟨e, he, hi, hm, hs⟩ := opsL_mem h
    obtain ⟨i, hi', rfl⟩ := memN.1 he
    unfold opE at hs
    split at hs
    · cases hs
    · rename_i hne; cases hs; exact ⟨i, hi', hm, hne, rfl⟩
  · rintro ⟨i, hi, hm, hne, rfl⟩
    refine List.mem_filterMap.2 ⟨nth l i, List.mem_filter.2 ⟨memN.2 ⟨i, hi, rfl⟩, hm⟩, ?_⟩
    rw [opE, if_neg hne]
theorem past_mark {l : List Entry} (h : LogOk l) {i n : Nat} (hi : i < l.length) (hn : n < l.length) : hasI (pastAt (pasts l) l (nth l n).id) (nth l i).id = nth (marksOf l n) i := by
  rw [pastAt_eq, h.find hn, Int.toNat_natCast, Bool.eq_iff_iff, hasI_iff, marksOf_iff h hn hi]
theorem raw_map {l : List Entry} {c : Int} (h : LogOk l) : mapR l c = rawL l c := by
  obtain ⟨a1, a2⟩ := mapR_good l c
  obtain ⟨b1, b2⟩ := raw_good l c
  refine good_eq a1 b1 fun k v => ?_
  rw [a2, b2]
  constructor
  · rintro ⟨i, hi, hc, hs, rfl⟩
    simp only [condR, Bool.and_eq_true, decide_eq_true_eq] at hc
    obtain ⟨c1, c2, c3⟩ := hc
    refine ⟨⟨(nth l i).id, (opOf (nth l i).t).2.1, (opOf (nth l i).t).2.2, decide ((opOf (nth l i).t).1 = 1)⟩, List.mem_filter.2 ⟨ops_iff.2 ⟨i, hi, c3, by omega, rfl⟩, ?_⟩, c2, rfl⟩
    rw [standB]
    simp only [c1, decide_true, Bool.true_and, Bool.not_eq_true', List.any_eq_false, Bool.and_eq_true, decide_eq_true_eq, not_and, Bool.not_eq_true]
    intro y hy hyk
    obtain ⟨n, hn, m1, m2, rfl⟩ := ops_iff.1 hy
    rw [past_mark h hi hn]
    have := List.all_eq_true.1 hs n (List.mem_range.2 hn)
    simp only at hyk
    have hb : blkR l c k i n = false := by simpa using this
    cases hm : nth (marksOf l n) i
    · rfl
    · simp [blkR, m1, m2, hm, hyk, c2] at hb
  · rintro ⟨o, ho, rfl, rfl⟩
    obtain ⟨ho, hsb⟩ := List.mem_filter.1 ho
    obtain ⟨i, hi, m1, m2, rfl⟩ := ops_iff.1 ho
    rw [standB] at hsb
    simp only [Bool.and_eq_true, decide_eq_true_eq, Bool.not_eq_true', List.any_eq_false, not_and, Bool.not_eq_true] at hsb
    obtain ⟨s1, s2⟩ := hsb
    refine ⟨i, hi, by simp [condR, s1, m1], ?_, rfl⟩
    refine List.all_eq_true.2 fun n hn => ?_
    have hn := List.mem_range.1 hn
    cases hb : blkR l c (opOf (nth l i).t).2.1 i n
    · rfl
    · exfalso
      simp only [blkR, Bool.and_eq_true, decide_eq_true_eq] at hb
      obtain ⟨d1, d2, d3, d4⟩ := hb
      have := s2 _ (ops_iff.2 ⟨n, hn, d3, d1, rfl⟩) d2
      simp only at this
      rw [past_mark h hi hn, d4] at this
      cases this
end Go.Proofs.YtfdolehffjmdmaaGreatDoor
/- Bytes: writing an entry. -/
namespace Go.Proofs.YtfdolehffjmdmaaGreatDoor
set_option linter.unusedSimpArgs false
set_option linter.unusedVariables false
open Go.RowKit
def e0 : Entry := ⟨⟨0, 1⟩, 1, BA [112, 117, 116, 32, 97, 32, 120], []⟩
def e1 : Entry := ⟨⟨1, 1⟩, 3, BA [112, 117, 116, 32, 97, 32, 121], []⟩
def e2 : Entry := ⟨⟨0, 2⟩, 3, BA [100, 114, 111, 112, 32, 97], [⟨0, 1⟩]⟩
def e3 : Entry := ⟨⟨1, 2⟩, 2, BA [112, 117, 116, 32, 98, 32, 122], [⟨0, 2⟩, ⟨1, 1⟩]⟩
def cE0 (e : Entry) : List PV := [.int .i64 e.id.r, .int .i64 e.id.n, .int .i64 e.c, .str e.t, if e.ls = [] then .nilsl else .list (e.ls.map cId)]
theorem entries_meets : Meets Tryz.prog 53 [] [] (.list [cE e0, cE e1, cE e2, cE e3]) [] := by
  refine Meets.nl (r := .list [cE0 e0, cE0 e1, cE0 e2, cE0 e3]) 4 ?_ (by simp [nlN, cE0, cE, cId, e0, e1, e2, e3])
  refine Meets.of_walk Tryz.func53 Tryz.ntmps53 low53 res53 (by simp) fun x hx => ?_
  simp only [go_sem, Nat.reduceLT, Nat.reduceAdd, Nat.reduceEqDiff, Nat.reduceLeDiff, Nat.reduceSub, Nat.reduceMul, Int.reduceEq, eq_self, reduceIte, L53, R53]
  iterate 7
    refine ops_call (.pure (lawId_meets _ _)) ?_
    simp only [go_sem, Nat.reduceLT, Nat.reduceAdd, Nat.reduceEqDiff, Nat.reduceLeDiff, Nat.reduceSub, Nat.reduceMul, Int.reduceEq, eq_self, reduceIte]
  refine ret_pure hx ?_
  simp [go_sem, Nat.reduceLT, Nat.reduceAdd, Nat.reduceEqDiff, Nat.reduceLeDiff, Nat.reduceSub, Nat.reduceMul, Int.reduceEq, eq_self, reduceIte, L53, R53, cE0, cId, e0, e1, e2, e3, BA]
end Go.Proofs.YtfdolehffjmdmaaGreatDoor
/- What must be in any case of logs; DagTells, as a contract. -/
namespace Go.Proofs.YtfdolehffjmdmaaGreatDoor
set_option linter.unusedSimpArgs false
set_option linter.unusedVariables false
open Go.RowKit
end Go.Proofs.YtfdolehffjmdmaaGreatDoor
/- FoldTells, as a contract. -/
namespace Go.Proofs.YtfdolehffjmdmaaGreatDoor
set_option linter.unusedSimpArgs false
set_option linter.unusedVariables false
open Go.RowKit
def entsF : List Entry := [e0, e1, e2, e3]
theorem ents_check : checkLog entsF = 0 := by decide +kernel
theorem ents_map : mapR entsF 3 = [(⟨#[97]⟩, [⟨#[121]⟩]), (⟨#[98]⟩, [⟨#[122]⟩])] := by decide +kernel
theorem ents_raw : rawL entsF 3 = [(⟨#[97]⟩, [⟨#[121]⟩]), (⟨#[98]⟩, [⟨#[122]⟩])] := by rw [← raw_map (log_ok.1 ents_check), ents_map]
theorem vals_in {l : List Entry} {c : Int} (k : ByteArray) : valsIn (mapR l c) k = valsR l c k := by
  obtain ⟨hg, -⟩ := mapR_good l c
  unfold valsIn
  cases hf : (mapR l c).find? fun p => decide (p.1 = k) with
  | some p =>
    have hp := List.mem_of_find?_eq_some hf
    have hk : p.1 = k := by simpa using List.find?_some hf
    obtain ⟨k', -, h2⟩ := List.mem_filterMap.1 hp
    unfold mapOne at h2
    split at h2
    · cases h2
    · cases h2
      simp only at hk ⊢
      rw [hk]
  | none =>
    simp only
    by_cases hv : valsR l c k = []
    · exact hv.symm
    · exfalso
      obtain ⟨v, hm⟩ := List.exists_mem_of_ne_nil _ hv
      obtain ⟨i, h1, h2, h3, h4⟩ := valsTo_mem.1 hm
      obtain ⟨p, hp, e, -⟩ := ((mapR_good l c).2 k v).2 ⟨i, h1, h2, h3, h4⟩
      have := List.find?_eq_none.1 hf p hp
      simp [e] at this
set_option maxRecDepth 20000 in
set_option maxHeartbeats 4000000 in
theorem foldBegun_meets : Meets Tryz.prog 17 [] [] (.bool true) [] := by
  have hme : mapErr entsF 3 = 0 := by decide +kernel
  have hge : getErr entsF 3 ⟨#[97]⟩ = 0 := by decide +kernel
  have hml : mapL entsF 3 = [(⟨#[97]⟩, [⟨#[121]⟩]), (⟨#[98]⟩, [⟨#[122]⟩])] := by rw [mapL, if_pos hme, ents_raw]
  have hgl : getL entsF 3 ⟨#[97]⟩ = [⟨#[121]⟩] := by rw [getL, if_pos hge, ents_raw]; decide +kernel
  have ho1 : opOf ⟨#[112, 117, 116, 32, 97, 98, 32, 99, 49]⟩ = (1, ⟨#[97, 98]⟩, ⟨#[99, 49]⟩) := by decide +kernel
  have ho2 : opOf ⟨#[112, 117, 116, 32, 97, 98]⟩ = (0, ⟨#[]⟩, ⟨#[]⟩) := by decide +kernel
  have m1 := map_meets entsF 3 (by decide)
  have m2 := get_meets entsF 3 ⟨#[97]⟩ (by decide) (by decide)
  have m3 := op_meets ⟨#[112, 117, 116, 32, 97, 98, 32, 99, 49]⟩ (by decide)
  have m4 := op_meets ⟨#[112, 117, 116, 32, 97, 98]⟩ (by decide)
  have m5 := ftexts_meets [⟨#[121]⟩] [⟨#[121]⟩] (by decide)
  rw [hme, hml] at m1
  rw [hge, hgl] at m2
  rw [ho1] at m3
  rw [ho2] at m4
  refine Meets.of_walk Tryz.func17 Tryz.ntmps17 low17 res17 (by simp) fun x hx => ?_
  simp only [go_sem, Nat.reduceLT, Nat.reduceAdd, Nat.reduceEqDiff, Nat.reduceLeDiff, Nat.reduceSub, Nat.reduceMul, Int.reduceEq, eq_self, reduceIte, L17, R17]
  refine ops_call (.pure entries_meets) ?_
  simp only [go_sem, Nat.reduceLT, Nat.reduceAdd, Nat.reduceEqDiff, Nat.reduceLeDiff, Nat.reduceSub, Nat.reduceMul, Int.reduceEq, eq_self, reduceIte]
  refine ops_call (.pureE m1 (by simp [go_sem, Nat.reduceLT, Nat.reduceAdd, Nat.reduceEqDiff, Nat.reduceLeDiff, Nat.reduceSub, Nat.reduceMul, Int.reduceEq, eq_self, reduceIte, entsF])) ?_
  simp only [go_sem, Nat.reduceLT, Nat.reduceAdd, Nat.reduceEqDiff, Nat.reduceLeDiff, Nat.reduceSub, Nat.reduceMul, Int.reduceEq, eq_self, reduceIte]
  refine ops_call (.pure entries_meets) ?_
  simp only [go_sem, Nat.reduceLT, Nat.reduceAdd, Nat.reduceEqDiff, Nat.reduceLeDiff, Nat.reduceSub, Nat.reduceMul, Int.reduceEq, eq_self, reduceIte]
  refine ops_call (.pureE m2 (by simp [go_sem, Nat.reduceLT, Nat.reduceAdd, Nat.reduceEqDiff, Nat.reduceLeDiff, Nat.reduceSub, Nat.reduceMul, Int.reduceEq, eq_self, reduceIte, entsF])) ?_
  simp only [go_sem, Nat.reduceLT, Nat.reduceAdd, Nat.reduceEqDiff, Nat.reduceLeDiff, Nat.reduceSub, Nat.reduceMul, Int.reduceEq, eq_self, reduceIte]
  refine ops_call (.pureE m3 (by simp [go_sem, Nat.reduceLT, Nat.reduceAdd, Nat.reduceEqDiff, Nat.reduceLeDiff, Nat.reduceSub, Nat.reduceMul, Int.reduceEq, eq_self, reduceIte])) ?_
  simp only [go_sem, Nat.reduceLT, Nat.reduceAdd, Nat.reduceEqDiff, Nat.reduceLeDiff, Nat.reduceSub, Nat.reduceMul, Int.reduceEq, eq_self, reduceIte, cOp4]
  refine ops_call (.pureE m4 (by simp [go_sem, Nat.reduceLT, Nat.reduceAdd, Nat.reduceEqDiff, Nat.reduceLeDiff, Nat.reduceSub, Nat.reduceMul, Int.reduceEq, eq_self, reduceIte])) ?_
  have hb : ((⟨#[98]⟩ : ByteArray) = ⟨#[98]⟩) = True := eq_self _
  simp only [go_sem, Nat.reduceLT, Nat.reduceAdd, Nat.reduceEqDiff, Nat.reduceLeDiff, Nat.reduceSub, Nat.reduceMul, Int.reduceEq, eq_self, reduceIte, Int.ofNat_zero, Int.natCast_one, Int.cast_ofNat_Int, Int.reduceLT, Int.reduceLE, Int.reduceToNat, Nat.reduceLT, Int.toNat_zero, Int.natCast_zero, Int.le_refl, Int.lt_irrefl, Int.reduceAdd, frz, false_or, or_true, cOp4, cPair, List.map_cons, List.map_nil, List.length_cons, List.length_nil, decide_true, PV.isPure, List.all_cons, List.all_nil, Bool.and_self]
  refine ops_call (.scalarE m5 rfl (by simp [go_sem, Nat.reduceLT, Nat.reduceAdd, Nat.reduceEqDiff, Nat.reduceLeDiff, Nat.reduceSub, Nat.reduceMul, Int.reduceEq, eq_self, reduceIte, frzAt, pos, cStr])) ?_
  simp only [go_sem, Nat.reduceLT, Nat.reduceAdd, Nat.reduceEqDiff, Nat.reduceLeDiff, Nat.reduceSub, Nat.reduceMul, Int.reduceEq, eq_self, reduceIte, Int.ofNat_zero, Int.natCast_one, Int.cast_ofNat_Int, Int.reduceLT, Int.reduceLE, Int.reduceToNat, Nat.reduceLT, Int.toNat_zero, Int.natCast_zero, Int.le_refl, Int.lt_irrefl, Int.reduceAdd, frz, false_or, or_true, decide_true]
  refine ret_pure hx ?_
  simp [go_sem, Nat.reduceLT, Nat.reduceAdd, Nat.reduceEqDiff, Nat.reduceLeDiff, Nat.reduceSub, Nat.reduceMul, Int.reduceEq, eq_self, reduceIte, L17, R17]
set_option maxRecDepth 20000 in
set_option maxHeartbeats 8000000 in
theorem foldTells_meets (l : List Entry) (c : Int) (key tx : ByteArray) (hl : l.length ≤ 9223372036854775806) (hk : key.size ≤ 1000000000000000) (ht : tx.size < 4294967281) : Meets Tryz.prog 3 [.list (l.map cE), .int .i64 c, .str key, .str tx] [] (.bool true) [] := by
  refine Meets.of_walk Tryz.func3 Tryz.ntmps3 low3 res3 (by simp) fun x hx => ?_
  simp only [go_sem, Nat.reduceLT, Nat.reduceAdd, Nat.reduceEqDiff, Nat.reduceLeDiff, Nat.reduceSub, Nat.reduceMul, Int.reduceEq, eq_self, reduceIte, L3, R3]
  refine ops_call (.pureE (map_meets l c hl) (by simp [go_sem, Nat.reduceLT, Nat.reduceAdd, Nat.reduceEqDiff, Nat.reduceLeDiff, Nat.reduceSub, Nat.reduceMul, Int.reduceEq, eq_self, reduceIte])) ?_
  simp only [go_sem, Nat.reduceLT, Nat.reduceAdd, Nat.reduceEqDiff, Nat.reduceLeDiff, Nat.reduceSub, Nat.reduceMul, Int.reduceEq, eq_self, reduceIte]
  refine ops_call (.pureE (get_meets l c key hl hk) (by simp [go_sem, Nat.reduceLT, Nat.reduceAdd, Nat.reduceEqDiff, Nat.reduceLeDiff, Nat.reduceSub, Nat.reduceMul, Int.reduceEq, eq_self, reduceIte])) ?_
  simp only [go_sem, Nat.reduceLT, Nat.reduceAdd, Nat.reduceEqDiff, Nat.reduceLeDiff, Nat.reduceSub, Nat.reduceMul, Int.reduceEq, eq_self, reduceIte]
  refine ops_call (.pureE (op_meets tx ht) (by simp [go_sem, Nat.reduceLT, Nat.reduceAdd, Nat.reduceEqDiff, Nat.reduceLeDiff, Nat.reduceSub, Nat.reduceMul, Int.reduceEq, eq_self, reduceIte])) ?_
  simp only [go_sem, Nat.reduceLT, Nat.reduceAdd, Nat.reduceEqDiff, Nat.reduceLeDiff, Nat.reduceSub, Nat.reduceMul, Int.reduceEq, eq_self, reduceIte, cOp4]
  refine ops_call (.pureE (checkLog_meets l hl) (by simp [go_sem, Nat.reduceLT, Nat.reduceAdd, Nat.reduceEqDiff, Nat.reduceLeDiff, Nat.reduceSub, Nat.reduceMul, Int.reduceEq, eq_self, reduceIte])) ?_
  by_cases h1 : checkLog l = 0
  · have hok := log_ok.1 h1
    have hm := hok.len
    by_cases h2 : c < 1
    · have hw : wthn c 1 7 = false := by rw [← Bool.not_eq_true, wthn_iff]; omega
      have he : mapErr l c = 3 := by simp [mapErr, h1, hw]
      have hg : getErr l c key = 3 := by simp [getErr, he]
      have hml : mapL l c = [] := by simp [mapL, he]
      have hgl : getL l c key = [] := by simp [getL, hg]
      simp only [go_sem, Nat.reduceLT, Nat.reduceAdd, Nat.reduceEqDiff, Nat.reduceLeDiff, Nat.reduceSub, Nat.reduceMul, Int.reduceEq, eq_self, reduceIte, Int.ofNat_zero, Int.natCast_one, Int.cast_ofNat_Int, Int.reduceLT, Int.reduceLE, Int.reduceToNat, Nat.reduceLT, Int.toNat_zero, Int.natCast_zero, Int.le_refl, Int.lt_irrefl, Int.reduceAdd, frz, false_or, or_true, h1, h2, he, hg, hml, hgl, decide_true]
      refine ops_call (.pureE (opOf_meets tx (by omega)) (by simp [go_sem, Nat.reduceLT, Nat.reduceAdd, Nat.reduceEqDiff, Nat.reduceLeDiff, Nat.reduceSub, Nat.reduceMul, Int.reduceEq, eq_self, reduceIte])) ?_
      by_cases ho : (opOf tx).1 = 0
      all_goals
        simp only [go_sem, Nat.reduceLT, Nat.reduceAdd, Nat.reduceEqDiff, Nat.reduceLeDiff, Nat.reduceSub, Nat.reduceMul, Int.reduceEq, eq_self, reduceIte, Int.ofNat_zero, Int.natCast_one, Int.cast_ofNat_Int, Int.reduceLT, Int.reduceLE, Int.reduceToNat, Nat.reduceLT, Int.toNat_zero, Int.natCast_zero, Int.le_refl, Int.lt_irrefl, Int.reduceAdd, frz, false_or, or_true, cOp3, cOp4, ho, decide_true, decide_false, List.map_nil]
        refine ops_call (.pureE foldBegun_meets (by simp [go_sem, Nat.reduceLT, Nat.reduceAdd, Nat.reduceEqDiff, Nat.reduceLeDiff, Nat.reduceSub, Nat.reduceMul, Int.reduceEq, eq_self, reduceIte])) ?_
        simp only [go_sem, Nat.reduceLT, Nat.reduceAdd, Nat.reduceEqDiff, Nat.reduceLeDiff, Nat.reduceSub, Nat.reduceMul, Int.reduceEq, eq_self, reduceIte, Int.ofNat_zero, Int.natCast_one, Int.cast_ofNat_Int, Int.reduceLT, Int.reduceLE, Int.reduceToNat, Nat.reduceLT, Int.toNat_zero, Int.natCast_zero, Int.le_refl, Int.lt_irrefl, Int.reduceAdd, frz, false_or, or_true, cOp3, cOp4, ho, decide_true, decide_false, List.map_nil]
        refine ops_call (.pureE (sameMap_meets ([] : List KV) ([] : List KV) (by simp) (by simp)) (by simp [go_sem, Nat.reduceLT, Nat.reduceAdd, Nat.reduceEqDiff, Nat.reduceLeDiff, Nat.reduceSub, Nat.reduceMul, Int.reduceEq, eq_self, reduceIte])) ?_
        simp only [go_sem, Nat.reduceLT, Nat.reduceAdd, Nat.reduceEqDiff, Nat.reduceLeDiff, Nat.reduceSub, Nat.reduceMul, Int.reduceEq, eq_self, reduceIte, Int.ofNat_zero, Int.natCast_one, Int.cast_ofNat_Int, Int.reduceLT, Int.reduceLE, Int.reduceToNat, Nat.reduceLT, Int.toNat_zero, Int.natCast_zero, Int.le_refl, Int.lt_irrefl, Int.reduceAdd, frz, false_or, or_true, cOp3, cOp4, ho, decide_true, decide_false, List.map_nil]
        refine ops_call (.pureE (ftexts_meets ([] : List ByteArray) ([] : List ByteArray) (by simp)) (by simp [go_sem, Nat.reduceLT, Nat.reduceAdd, Nat.reduceEqDiff, Nat.reduceLeDiff, Nat.reduceSub, Nat.reduceMul, Int.reduceEq, eq_self, reduceIte])) ?_
        simp only [go_sem, Nat.reduceLT, Nat.reduceAdd, Nat.reduceEqDiff, Nat.reduceLeDiff, Nat.reduceSub, Nat.reduceMul, Int.reduceEq, eq_self, reduceIte, Int.ofNat_zero, Int.natCast_one, Int.cast_ofNat_Int, Int.reduceLT, Int.reduceLE, Int.reduceToNat, Nat.reduceLT, Int.toNat_zero, Int.natCast_zero, Int.le_refl, Int.lt_irrefl, Int.reduceAdd, frz, false_or, or_true, cOp3, cOp4, ho, decide_true, decide_false, List.map_nil]
        refine ret_pure hx ?_
        simp [go_sem, Nat.reduceLT, Nat.reduceAdd, Nat.reduceEqDiff, Nat.reduceLeDiff, Nat.reduceSub, Nat.reduceMul, Int.reduceEq, eq_self, reduceIte, L3, R3, ho]
    · by_cases h3 : (7 : Int) < c
      · have hw : wthn c 1 7 = false := by rw [← Bool.not_eq_true, wthn_iff]; omega
        have he : mapErr l c = 3 := by simp [mapErr, h1, hw]
        have hg : getErr l c key = 3 := by simp [getErr, he]
        have hml : mapL l c = [] := by simp [mapL, he]
        have hgl : getL l c key = [] := by simp [getL, hg]
        simp only [go_sem, Nat.reduceLT, Nat.reduceAdd, Nat.reduceEqDiff, Nat.reduceLeDiff, Nat.reduceSub, Nat.reduceMul, Int.reduceEq, eq_self, reduceIte, Int.ofNat_zero, Int.natCast_one, Int.cast_ofNat_Int, Int.reduceLT, Int.reduceLE, Int.reduceToNat, Nat.reduceLT, Int.toNat_zero, Int.natCast_zero, Int.le_refl, Int.lt_irrefl, Int.reduceAdd, frz, false_or, or_true, h1, h2, h3, he, hg, hml, hgl, decide_true, decide_false]
        refine ops_call (.pureE (opOf_meets tx (by omega)) (by simp [go_sem, Nat.reduceLT, Nat.reduceAdd, Nat.reduceEqDiff, Nat.reduceLeDiff, Nat.reduceSub, Nat.reduceMul, Int.reduceEq, eq_self, reduceIte])) ?_
        by_cases ho : (opOf tx).1 = 0
        all_goals
          simp only [go_sem, Nat.reduceLT, Nat.reduceAdd, Nat.reduceEqDiff, Nat.reduceLeDiff, Nat.reduceSub, Nat.reduceMul, Int.reduceEq, eq_self, reduceIte, Int.ofNat_zero, Int.natCast_one, Int.cast_ofNat_Int, Int.reduceLT, Int.reduceLE, Int.reduceToNat, Nat.reduceLT, Int.toNat_zero, Int.natCast_zero, Int.le_refl, Int.lt_irrefl, Int.reduceAdd, frz, false_or, or_true, cOp3, cOp4, ho, decide_true, decide_false, List.map_nil]
          refine ops_call (.pureE foldBegun_meets (by simp [go_sem, Nat.reduceLT, Nat.reduceAdd, Nat.reduceEqDiff, Nat.reduceLeDiff, Nat.reduceSub, Nat.reduceMul, Int.reduceEq, eq_self, reduceIte])) ?_
          simp only [go_sem, Nat.reduceLT, Nat.reduceAdd, Nat.reduceEqDiff, Nat.reduceLeDiff, Nat.reduceSub, Nat.reduceMul, Int.reduceEq, eq_self, reduceIte, Int.ofNat_zero, Int.natCast_one, Int.cast_ofNat_Int, Int.reduceLT, Int.reduceLE, Int.reduceToNat, Nat.reduceLT, Int.toNat_zero, Int.natCast_zero, Int.le_refl, Int.lt_irrefl, Int.reduceAdd, frz, false_or, or_true, cOp3, cOp4, ho, decide_true, decide_false, List.map_nil]
          refine ops_call (.pureE (sameMap_meets ([] : List KV) ([] : List KV) (by simp) (by simp)) (by simp [go_sem, Nat.reduceLT, Nat.reduceAdd, Nat.reduceEqDiff, Nat.reduceLeDiff, Nat.reduceSub, Nat.reduceMul, Int.reduceEq, eq_self, reduceIte])) ?_
          simp only [go_sem, Nat.reduceLT, Nat.reduceAdd, Nat.reduceEqDiff, Nat.reduceLeDiff, Nat.reduceSub, Nat.reduceMul, Int.reduceEq, eq_self, reduceIte, Int.ofNat_zero, Int.natCast_one, Int.cast_ofNat_Int, Int.reduceLT, Int.reduceLE, Int.reduceToNat, Nat.reduceLT, Int.toNat_zero, Int.natCast_zero, Int.le_refl, Int.lt_irrefl, Int.reduceAdd, frz, false_or, or_true, cOp3, cOp4, ho, decide_true, decide_false, List.map_nil]
          refine ops_call (.pureE (ftexts_meets ([] : List ByteArray) ([] : List ByteArray) (by simp)) (by simp [go_sem, Nat.reduceLT, Nat.reduceAdd, Nat.reduceEqDiff, Nat.reduceLeDiff, Nat.reduceSub, Nat.reduceMul, Int.reduceEq, eq_self, reduceIte])) ?_
          simp only [go_sem, Nat.reduceLT, Nat.reduceAdd, Nat.reduceEqDiff, Nat.reduceLeDiff, Nat.reduceSub, Nat.reduceMul, Int.reduceEq, eq_self, reduceIte, Int.ofNat_zero, Int.natCast_one, Int.cast_ofNat_Int, Int.reduceLT, Int.reduceLE, Int.reduceToNat, Nat.reduceLT, Int.toNat_zero, Int.natCast_zero, Int.le_refl, Int.lt_irrefl, Int.reduceAdd, frz, false_or, or_true, cOp3, cOp4, ho, decide_true, decide_false, List.map_nil]
          refine ret_pure hx ?_
          simp [go_sem, Nat.reduceLT, Nat.reduceAdd, Nat.reduceEqDiff, Nat.reduceLeDiff, Nat.reduceSub, Nat.reduceMul, Int.reduceEq, eq_self, reduceIte, L3, R3, ho]
      · have hw : wthn c 1 7 = true := by rw [wthn_iff]; omega
        have he : mapErr l c = 0 := by simp [mapErr, h1, hw]
        have hml : mapL l c = mapR l c := by rw [mapL, if_pos he, raw_map hok]
        have hlen : (mapR l c).length ≤ 40 := by rw [raw_map hok]; have := rawL_len l c; omega
        have hvl : ∀ p ∈ mapR l c, p.2.length ≤ 9223372036854775806 := fun p hp => by
          obtain ⟨k', -, h2⟩ := List.mem_filterMap.1 hp
          unfold mapOne at h2
          split at h2
          · cases h2
          · cases h2
            have := (valsTo_up l c k' l.length).2
            show (valsTo l c k' l.length).length ≤ _
            omega
        simp only [go_sem, Nat.reduceLT, Nat.reduceAdd, Nat.reduceEqDiff, Nat.reduceLeDiff, Nat.reduceSub, Nat.reduceMul, Int.reduceEq, eq_self, reduceIte, Int.ofNat_zero, Int.natCast_one, Int.cast_ofNat_Int, Int.reduceLT, Int.reduceLE, Int.reduceToNat, Nat.reduceLT, Int.toNat_zero, Int.natCast_zero, Int.le_refl, Int.lt_irrefl, Int.reduceAdd, frz, false_or, or_true, h1, h2, h3, he, hml, decide_true, decide_false]
        refine ops_call (.pureE (isWord_meets key hk) (by simp [go_sem, Nat.reduceLT, Nat.reduceAdd, Nat.reduceEqDiff, Nat.reduceLeDiff, Nat.reduceSub, Nat.reduceMul, Int.reduceEq, eq_self, reduceIte])) ?_
        cases h4 : wordS key
        · have hg : getErr l c key = 1 := by simp [getErr, he, h4]
          have hgl : getL l c key = [] := by simp [getL, hg]
          simp only [go_sem, Nat.reduceLT, Nat.reduceAdd, Nat.reduceEqDiff, Nat.reduceLeDiff, Nat.reduceSub, Nat.reduceMul, Int.reduceEq, eq_self, reduceIte, Int.ofNat_zero, Int.natCast_one, Int.cast_ofNat_Int, Int.reduceLT, Int.reduceLE, Int.reduceToNat, Nat.reduceLT, Int.toNat_zero, Int.natCast_zero, Int.le_refl, Int.lt_irrefl, Int.reduceAdd, frz, false_or, or_true, hg, hgl, decide_true, decide_false]
          refine ops_call (.pureE (mapOf_meets l c hok hw) (by simp [go_sem, Nat.reduceLT, Nat.reduceAdd, Nat.reduceEqDiff, Nat.reduceLeDiff, Nat.reduceSub, Nat.reduceMul, Int.reduceEq, eq_self, reduceIte])) ?_
          simp only [go_sem, Nat.reduceLT, Nat.reduceAdd, Nat.reduceEqDiff, Nat.reduceLeDiff, Nat.reduceSub, Nat.reduceMul, Int.reduceEq, eq_self, reduceIte, Int.ofNat_zero, Int.natCast_one, Int.cast_ofNat_Int, Int.reduceLT, Int.reduceLE, Int.reduceToNat, Nat.reduceLT, Int.toNat_zero, Int.natCast_zero, Int.le_refl, Int.lt_irrefl, Int.reduceAdd, frz, false_or, or_true, decide_true, decide_false]
          refine ops_call (.pureE (opOf_meets tx (by omega)) (by simp [go_sem, Nat.reduceLT, Nat.reduceAdd, Nat.reduceEqDiff, Nat.reduceLeDiff, Nat.reduceSub, Nat.reduceMul, Int.reduceEq, eq_self, reduceIte])) ?_
          by_cases ho : (opOf tx).1 = 0
          all_goals
            simp only [go_sem, Nat.reduceLT, Nat.reduceAdd, Nat.reduceEqDiff, Nat.reduceLeDiff, Nat.reduceSub, Nat.reduceMul, Int.reduceEq, eq_self, reduceIte, Int.ofNat_zero, Int.natCast_one, Int.cast_ofNat_Int, Int.reduceLT, Int.reduceLE, Int.reduceToNat, Nat.reduceLT, Int.toNat_zero, Int.natCast_zero, Int.le_refl, Int.lt_irrefl, Int.reduceAdd, frz, false_or, or_true, cOp3, cOp4, ho, decide_true, decide_false, List.map_nil]
            refine ops_call (.pureE foldBegun_meets (by simp [go_sem, Nat.reduceLT, Nat.reduceAdd, Nat.reduceEqDiff, Nat.reduceLeDiff, Nat.reduceSub, Nat.reduceMul, Int.reduceEq, eq_self, reduceIte])) ?_
            simp only [go_sem, Nat.reduceLT, Nat.reduceAdd, Nat.reduceEqDiff, Nat.reduceLeDiff, Nat.reduceSub, Nat.reduceMul, Int.reduceEq, eq_self, reduceIte, Int.ofNat_zero, Int.natCast_one, Int.cast_ofNat_Int, Int.reduceLT, Int.reduceLE, Int.reduceToNat, Nat.reduceLT, Int.toNat_zero, Int.natCast_zero, Int.le_refl, Int.lt_irrefl, Int.reduceAdd, frz, false_or, or_true, cOp3, cOp4, ho, decide_true, decide_false, List.map_nil]
            refine ops_call (.pureE (sameMap_meets (mapR l c) (mapR l c) (by omega) hvl) (by simp [go_sem, Nat.reduceLT, Nat.reduceAdd, Nat.reduceEqDiff, Nat.reduceLeDiff, Nat.reduceSub, Nat.reduceMul, Int.reduceEq, eq_self, reduceIte])) ?_
            simp only [go_sem, Nat.reduceLT, Nat.reduceAdd, Nat.reduceEqDiff, Nat.reduceLeDiff, Nat.reduceSub, Nat.reduceMul, Int.reduceEq, eq_self, reduceIte, Int.ofNat_zero, Int.natCast_one, Int.cast_ofNat_Int, Int.reduceLT, Int.reduceLE, Int.reduceToNat, Nat.reduceLT, Int.toNat_zero, Int.natCast_zero, Int.le_refl, Int.lt_irrefl, Int.reduceAdd, frz, false_or, or_true, cOp3, cOp4, ho, decide_true, decide_false, List.map_nil]
            refine ops_call (.pureE (ftexts_meets ([] : List ByteArray) ([] : List ByteArray) (by simp)) (by simp [go_sem, Nat.reduceLT, Nat.reduceAdd, Nat.reduceEqDiff, Nat.reduceLeDiff, Nat.reduceSub, Nat.reduceMul, Int.reduceEq, eq_self, reduceIte])) ?_
            simp only [go_sem, Nat.reduceLT, Nat.reduceAdd, Nat.reduceEqDiff, Nat.reduceLeDiff, Nat.reduceSub, Nat.reduceMul, Int.reduceEq, eq_self, reduceIte, Int.ofNat_zero, Int.natCast_one, Int.cast_ofNat_Int, Int.reduceLT, Int.reduceLE, Int.reduceToNat, Nat.reduceLT, Int.toNat_zero, Int.natCast_zero, Int.le_refl, Int.lt_irrefl, Int.reduceAdd, frz, false_or, or_true, cOp3, cOp4, ho, decide_true, decide_false, List.map_nil]
            refine ret_pure hx ?_
            simp [go_sem, Nat.reduceLT, Nat.reduceAdd, Nat.reduceEqDiff, Nat.reduceLeDiff, Nat.reduceSub, Nat.reduceMul, Int.reduceEq, eq_self, reduceIte, L3, R3, ho]
        · have hg : getErr l c key = 0 := by simp [getErr, he, h4]
          have hgl : getL l c key = valsR l c key := by rw [getL, if_pos hg, ← raw_map hok, vals_in]
          have hvb := (valsTo_up l c key l.length).2
          simp only [go_sem, Nat.reduceLT, Nat.reduceAdd, Nat.reduceEqDiff, Nat.reduceLeDiff, Nat.reduceSub, Nat.reduceMul, Int.reduceEq, eq_self, reduceIte, Int.ofNat_zero, Int.natCast_one, Int.cast_ofNat_Int, Int.reduceLT, Int.reduceLE, Int.reduceToNat, Nat.reduceLT, Int.toNat_zero, Int.natCast_zero, Int.le_refl, Int.lt_irrefl, Int.reduceAdd, frz, false_or, or_true, hg, hgl, decide_true, decide_false]
          refine ops_call (.pureE (mapOf_meets l c hok hw) (by simp [go_sem, Nat.reduceLT, Nat.reduceAdd, Nat.reduceEqDiff, Nat.reduceLeDiff, Nat.reduceSub, Nat.reduceMul, Int.reduceEq, eq_self, reduceIte])) ?_
          simp only [go_sem, Nat.reduceLT, Nat.reduceAdd, Nat.reduceEqDiff, Nat.reduceLeDiff, Nat.reduceSub, Nat.reduceMul, Int.reduceEq, eq_self, reduceIte, Int.ofNat_zero, Int.natCast_one, Int.cast_ofNat_Int, Int.reduceLT, Int.reduceLE, Int.reduceToNat, Nat.reduceLT, Int.toNat_zero, Int.natCast_zero, Int.le_refl, Int.lt_irrefl, Int.reduceAdd, frz, false_or, or_true, decide_true, decide_false]
          refine ops_call (.pureE (valuesOf_meets l c key hok hw (fun k hk => by have := (valsTo_up l c key k).2; omega)) (by simp [go_sem, Nat.reduceLT, Nat.reduceAdd, Nat.reduceEqDiff, Nat.reduceLeDiff, Nat.reduceSub, Nat.reduceMul, Int.reduceEq, eq_self, reduceIte])) ?_
          simp only [go_sem, Nat.reduceLT, Nat.reduceAdd, Nat.reduceEqDiff, Nat.reduceLeDiff, Nat.reduceSub, Nat.reduceMul, Int.reduceEq, eq_self, reduceIte, Int.ofNat_zero, Int.natCast_one, Int.cast_ofNat_Int, Int.reduceLT, Int.reduceLE, Int.reduceToNat, Nat.reduceLT, Int.toNat_zero, Int.natCast_zero, Int.le_refl, Int.lt_irrefl, Int.reduceAdd, frz, false_or, or_true, decide_true, decide_false]
          refine ops_call (.pureE (opOf_meets tx (by omega)) (by simp [go_sem, Nat.reduceLT, Nat.reduceAdd, Nat.reduceEqDiff, Nat.reduceLeDiff, Nat.reduceSub, Nat.reduceMul, Int.reduceEq, eq_self, reduceIte])) ?_
          by_cases ho : (opOf tx).1 = 0
          all_goals
            simp only [go_sem, Nat.reduceLT, Nat.reduceAdd, Nat.reduceEqDiff, Nat.reduceLeDiff, Nat.reduceSub, Nat.reduceMul, Int.reduceEq, eq_self, reduceIte, Int.ofNat_zero, Int.natCast_one, Int.cast_ofNat_Int, Int.reduceLT, Int.reduceLE, Int.reduceToNat, Nat.reduceLT, Int.toNat_zero, Int.natCast_zero, Int.le_refl, Int.lt_irrefl, Int.reduceAdd, frz, false_or, or_true, cOp3, cOp4, ho, decide_true, decide_false, List.map_nil]
            refine ops_call (.pureE foldBegun_meets (by simp [go_sem, Nat.reduceLT, Nat.reduceAdd, Nat.reduceEqDiff, Nat.reduceLeDiff, Nat.reduceSub, Nat.reduceMul, Int.reduceEq, eq_self, reduceIte])) ?_
            simp only [go_sem, Nat.reduceLT, Nat.reduceAdd, Nat.reduceEqDiff, Nat.reduceLeDiff, Nat.reduceSub, Nat.reduceMul, Int.reduceEq, eq_self, reduceIte, Int.ofNat_zero, Int.natCast_one, Int.cast_ofNat_Int, Int.reduceLT, Int.reduceLE, Int.reduceToNat, Nat.reduceLT, Int.toNat_zero, Int.natCast_zero, Int.le_refl, Int.lt_irrefl, Int.reduceAdd, frz, false_or, or_true, cOp3, cOp4, ho, decide_true, decide_false, List.map_nil]
            refine ops_call (.pureE (sameMap_meets (mapR l c) (mapR l c) (by omega) hvl) (by simp [go_sem, Nat.reduceLT, Nat.reduceAdd, Nat.reduceEqDiff, Nat.reduceLeDiff, Nat.reduceSub, Nat.reduceMul, Int.reduceEq, eq_self, reduceIte])) ?_
            simp only [go_sem, Nat.reduceLT, Nat.reduceAdd, Nat.reduceEqDiff, Nat.reduceLeDiff, Nat.reduceSub, Nat.reduceMul, Int.reduceEq, eq_self, reduceIte, Int.ofNat_zero, Int.natCast_one, Int.cast_ofNat_Int, Int.reduceLT, Int.reduceLE, Int.reduceToNat, Nat.reduceLT, Int.toNat_zero, Int.natCast_zero, Int.le_refl, Int.lt_irrefl, Int.reduceAdd, frz, false_or, or_true, cOp3, cOp4, ho, decide_true, decide_false, List.map_nil]
            refine ops_call (.pureE (ftexts_meets (valsR l c key) (valsR l c key) (by unfold valsR; omega)) (by simp [go_sem, Nat.reduceLT, Nat.reduceAdd, Nat.reduceEqDiff, Nat.reduceLeDiff, Nat.reduceSub, Nat.reduceMul, Int.reduceEq, eq_self, reduceIte])) ?_
            simp only [go_sem, Nat.reduceLT, Nat.reduceAdd, Nat.reduceEqDiff, Nat.reduceLeDiff, Nat.reduceSub, Nat.reduceMul, Int.reduceEq, eq_self, reduceIte, Int.ofNat_zero, Int.natCast_one, Int.cast_ofNat_Int, Int.reduceLT, Int.reduceLE, Int.reduceToNat, Nat.reduceLT, Int.toNat_zero, Int.natCast_zero, Int.le_refl, Int.lt_irrefl, Int.reduceAdd, frz, false_or, or_true, cOp3, cOp4, ho, decide_true, decide_false, List.map_nil]
            refine ret_pure hx ?_
            simp [go_sem, Nat.reduceLT, Nat.reduceAdd, Nat.reduceEqDiff, Nat.reduceLeDiff, Nat.reduceSub, Nat.reduceMul, Int.reduceEq, eq_self, reduceIte, L3, R3, ho]
  · have he : mapErr l c = checkLog l := by simp [mapErr, h1]
    have hg : getErr l c key = checkLog l := by simp [getErr, he, h1]
    have hml : mapL l c = [] := by simp [mapL, he, h1]
    have hgl : getL l c key = [] := by simp [getL, hg, h1]
    simp only [go_sem, Nat.reduceLT, Nat.reduceAdd, Nat.reduceEqDiff, Nat.reduceLeDiff, Nat.reduceSub, Nat.reduceMul, Int.reduceEq, eq_self, reduceIte, Int.ofNat_zero, Int.natCast_one, Int.cast_ofNat_Int, Int.reduceLT, Int.reduceLE, Int.reduceToNat, Nat.reduceLT, Int.toNat_zero, Int.natCast_zero, Int.le_refl, Int.lt_irrefl, Int.reduceAdd, frz, false_or, or_true, h1, he, hg, hml, hgl, decide_false]
    refine ops_call (.pureE (opOf_meets tx (by omega)) (by simp [go_sem, Nat.reduceLT, Nat.reduceAdd, Nat.reduceEqDiff, Nat.reduceLeDiff, Nat.reduceSub, Nat.reduceMul, Int.reduceEq, eq_self, reduceIte])) ?_
    by_cases ho : (opOf tx).1 = 0
    all_goals
      simp only [go_sem, Nat.reduceLT, Nat.reduceAdd, Nat.reduceEqDiff, Nat.reduceLeDiff, Nat.reduceSub, Nat.reduceMul, Int.reduceEq, eq_self, reduceIte, Int.ofNat_zero, Int.natCast_one, Int.cast_ofNat_Int, Int.reduceLT, Int.reduceLE, Int.reduceToNat, Nat.reduceLT, Int.toNat_zero, Int.natCast_zero, Int.le_refl, Int.lt_irrefl, Int.reduceAdd, frz, false_or, or_true, cOp3, cOp4, ho, decide_true, decide_false, List.map_nil]
      refine ops_call (.pureE foldBegun_meets (by simp [go_sem, Nat.reduceLT, Nat.reduceAdd, Nat.reduceEqDiff, Nat.reduceLeDiff, Nat.reduceSub, Nat.reduceMul, Int.reduceEq, eq_self, reduceIte])) ?_
      simp only [go_sem, Nat.reduceLT, Nat.reduceAdd, Nat.reduceEqDiff, Nat.reduceLeDiff, Nat.reduceSub, Nat.reduceMul, Int.reduceEq, eq_self, reduceIte, Int.ofNat_zero, Int.natCast_one, Int.cast_ofNat_Int, Int.reduceLT, Int.reduceLE, Int.reduceToNat, Nat.reduceLT, Int.toNat_zero, Int.natCast_zero, Int.le_refl, Int.lt_irrefl, Int.reduceAdd, frz, false_or, or_true, cOp3, cOp4, ho, decide_true, decide_false, List.map_nil]
      refine ops_call (.pureE (sameMap_meets ([] : List KV) ([] : List KV) (by simp) (by simp)) (by simp [go_sem, Nat.reduceLT, Nat.reduceAdd, Nat.reduceEqDiff, Nat.reduceLeDiff, Nat.reduceSub, Nat.reduceMul, Int.reduceEq, eq_self, reduceIte])) ?_
      simp only [go_sem, Nat.reduceLT, Nat.reduceAdd, Nat.reduceEqDiff, Nat.reduceLeDiff, Nat.reduceSub, Nat.reduceMul, Int.reduceEq, eq_self, reduceIte, Int.ofNat_zero, Int.natCast_one, Int.cast_ofNat_Int, Int.reduceLT, Int.reduceLE, Int.reduceToNat, Nat.reduceLT, Int.toNat_zero, Int.natCast_zero, Int.le_refl, Int.lt_irrefl, Int.reduceAdd, frz, false_or, or_true, cOp3, cOp4, ho, decide_true, decide_false, List.map_nil]
      refine ops_call (.pureE (ftexts_meets ([] : List ByteArray) ([] : List ByteArray) (by simp)) (by simp [go_sem, Nat.reduceLT, Nat.reduceAdd, Nat.reduceEqDiff, Nat.reduceLeDiff, Nat.reduceSub, Nat.reduceMul, Int.reduceEq, eq_self, reduceIte])) ?_
      simp only [go_sem, Nat.reduceLT, Nat.reduceAdd, Nat.reduceEqDiff, Nat.reduceLeDiff, Nat.reduceSub, Nat.reduceMul, Int.reduceEq, eq_self, reduceIte, Int.ofNat_zero, Int.natCast_one, Int.cast_ofNat_Int, Int.reduceLT, Int.reduceLE, Int.reduceToNat, Nat.reduceLT, Int.toNat_zero, Int.natCast_zero, Int.le_refl, Int.lt_irrefl, Int.reduceAdd, frz, false_or, or_true, cOp3, cOp4, ho, decide_true, decide_false, List.map_nil]
      refine ret_pure hx ?_
      simp [go_sem, Nat.reduceLT, Nat.reduceAdd, Nat.reduceEqDiff, Nat.reduceLeDiff, Nat.reduceSub, Nat.reduceMul, Int.reduceEq, eq_self, reduceIte, L3, R3, ho]
end Go.Proofs.YtfdolehffjmdmaaGreatDoor
/- From an argument's reading as data to what the walks ask of memory; and from a walk that ends in 'true' to a law's statement. -/
namespace Go.Proofs.YtfdolehffjmdmaaGreatDoor
open Go.RowKit Go.ChangeShapes Go.WideShapes Go.ChangeAt
section
variable {H : Type} {enc : TypeId × Value → H} {P : Program} {w : World} {sp : Nat → Bool} {held : Bool}
theorem trodAll_stays (hl : laidOutB P = true) {W W' : World} (hb : Below W.heap.size W W') : ∀ {ts : List TypeId} {vs : List Value} {ds : List (DataW H)} {ps : List MemPlace},
    (∀ t ∈ ts, P.readableRec t = true ∧ t < P.types.size) → (∀ x ∈ ps, x.block < W.heap.size) → DataW.TrodAll enc P W 0 (fun _ => true) true ts vs ds ps → DataW.TrodAll enc P W' 0 (fun b => decide (b < W.heap.size)) true ts vs ds ps
  | [], [], [], _, _, _, h => h
  | t :: ts, v :: vs, d :: ds, _, hr, hlt, h => by
    obtain ⟨p, q, h1, h2, rfl⟩ := h
    refine ⟨p, q, Below.trod hl (hr t (by simp)).1 (hr t (by simp)).2 h1 hb (fun x hx => hlt x (by simp [hx])), trodAll_stays hl hb (fun t' ht => hr t' (by simp [ht])) (fun x hx => hlt x (by simp [hx])) h2, rfl⟩
  | [], [], _ :: _, _, _, _, h => h.elim
  | [], _ :: _, _, _, _, _, h => by cases h
  | _ :: _, [], _, _, _, _, h => by cases h
  | _ :: _, _ :: _, [], _, _, _, h => h.elim
theorem law_post {f : Func} {s : ChangeSpec} {apart : Bool} {W W' : World} {args : Array Value} {ds gs : List (DataW H)} {before : List MemPlace} {tb : TypeId}
    (hl : laidOutB P = true) (hpar : ∀ t ∈ f.params.toList, P.readableRec t = true ∧ t < P.types.size) (hres : f.resultTypes = #[tb]) (hub : P.underlying tb = some .bool) (hvars : s.vars = [])
    (hW : DataW.Whole enc P f.params.toList s.vars apart W args.toList ds gs before)
    (hs : s.fn H (ds ++ gs) = { results := [.lit (.bool true)], args := ds }) (hb : Below W.heap.size W W') : s.post enc P f apart true false false W args (.bool true) W' := by
  have hlt := hW.lt
  have hW' := hW
  obtain ⟨p, q, hA, hV, rfl, hfz, hnd⟩ := hW
  rw [hvars] at hV
  have hq : gs = [] ∧ q = [] := by
    cases gs with
    | nil => exact ⟨rfl, hV⟩
    | cons g gs => exact hV.elim
  obtain ⟨rfl, rfl⟩ := hq
  refine ⟨ds, [], _, [], p, [], hW', ?_, ?_, ?_, hb.frame _, fun h => by cases h⟩
  · rw [hs, hres]
    exact trodAll_mk1 (shut_bool hub true)
  · rw [hs]
    exact trodAll_stays hl hb hpar (fun x hx => hlt x (by simp [hx])) hA
  · rw [hs, hvars]
    rfl
theorem parsOf {ts : List TypeId} (h : (ts.all fun t => P.readableRec t && decide (t < P.types.size)) = true) : ∀ t ∈ ts, P.readableRec t = true ∧ t < P.types.size := by
  intro t ht
  have := List.all_eq_true.1 h t ht
  simpa only [Bool.and_eq_true, decide_eq_true_eq] using this
end
def I64 (n : Int) : Prop := -9223372036854775808 ≤ n ∧ n ≤ 9223372036854775807
theorem i64_of_wf {n : Int} (h : (Lit.int .i64 n).wf = true) : I64 n := by simpa [Lit.wf, IntKind.min, IntKind.max, IntKind.signed, IntKind.bits, I64] using h
section
variable {H : Type} {enc : TypeId × Value → H} {w : World} {sp : Nat → Bool} {held : Bool}
theorem lawOwn : ownKnob Tryz.prog.godebug = none := by kernel_rfl
theorem lawLaid : laidOutB Tryz.prog = true := by kernel_rfl
theorem lawBool : Tryz.prog.underlying 4 = some .bool := by kernel_rfl
theorem undInt' : Tryz.prog.underlying 3 = some (.int .i64) := by kernel_rfl
theorem cellsInt : Tryz.prog.cellsOf 3 = 1 := by kernel_rfl
theorem undId : Tryz.prog.underlying 43 = some (.struct (Tryz.prog.fieldsOf 43)) := by kernel_rfl
theorem cellsId : Tryz.prog.cellsOf 43 = 2 := by kernel_rfl
end
end Go.Proofs.YtfdolehffjmdmaaGreatDoor
/- From an argument's reading as data to abstract values; from a contract of a law to its statement. -/
namespace Go.Proofs.YtfdolehffjmdmaaGreatDoor
open Go.RowKit Go.ChangeShapes Go.WideShapes Go.ChangeAt
def Shows (w : World) (ps : List PV) (cs : List Value) : Prop := cs.length = ps.length ∧ ∀ (j : Nat) p v, ps[j]? = some p → cs[j]? = some v → RepP (fun b _ => b < w.heap.size) w p v
section
variable {H : Type} {enc : TypeId × Value → H} {P : Program} {w : World} {sp : Nat → Bool} {held : Bool}
def Opens (enc : TypeId × Value → H) (P : Program) (w : World) (sp : Nat → Bool) (held : Bool) (t : TypeId) (n : Nat) (R : List PV → Prop) : Prop :=
  P.cellsOf t = n ∧ ∀ fuel cs (y : DataW H × List MemPlace), DataW.trod enc P w 0 sp held fuel t cs = some y → (∀ k ∈ y.1.weights P t, k ≤ reachBytes) → ∃ ps, ps.length = n ∧ R ps ∧ Shows w ps cs
theorem Opens.mono {t : TypeId} {n : Nat} {R R' : List PV → Prop} (h : Opens enc P w sp held t n R) (hR : ∀ ps, R ps → R' ps) : Opens enc P w sp held t n R' :=
  ⟨h.1, fun fuel cs y hy hw => by obtain ⟨ps, h1, h2, h3⟩ := h.2 fuel cs y hy hw; exact ⟨ps, h1, hR ps h2, h3⟩⟩
theorem shows1 {p : PV} {v : Value} (h : RepP (fun b _ => b < w.heap.size) w p v) : Shows w [p] [v] := by
  refine ⟨rfl, fun j q u hj hu => ?_⟩
  cases j with
  | zero => simp at hj hu; subst hj; subst hu; exact h
  | succ j => simp at hj
theorem opens_int {t : TypeId} (ht : P.underlying t = some (.int .i64)) (hc : P.cellsOf t = 1) : Opens enc P w sp held t 1 fun ps => ∃ n, I64 n ∧ ps = [.int .i64 n] := by
  refine ⟨hc, fun fuel cs y h _ => ?_⟩
  obtain ⟨n, rfl, -, hw⟩ := DataW.trod_int ht h
  exact ⟨[.int .i64 n], rfl, ⟨n, i64_of_wf hw, rfl⟩, shows1 (.int _ _)⟩
theorem opens_str {t : TypeId} (ht : P.underlying t = some .string) (hc : P.cellsOf t = 1) : Opens enc P w sp held t 1 fun ps => ∃ s : ByteArray, s.size ≤ reachBytes ∧ ps = [.str s] := by
  refine ⟨hc, fun fuel cs y h hw => ?_⟩
  obtain ⟨s, rfl, rfl, -⟩ := DataW.trod_string ht h
  have hs := hw s.data.toList.length (by simp [DataW.weights])
  exact ⟨[.str s], rfl, ⟨s, by simpa using hs, rfl⟩, shows1 (.str _)⟩
theorem trod_elems2 {t e : TypeId} {fuel : Nat} {v : Value} {x : DataW H × List MemPlace} (ht : P.underlying t = some (.slice e)) (hsz : 0 < P.cellsOf e) (h : DataW.trod enc P w 0 sp held fuel t [v] = some x) (hw : ∀ k ∈ x.1.weights P t, k ≤ reachBytes) :
    ∃ a n c, v = .slice a n c ∧ n ≤ c ∧ c ≤ maxLen ∧ n * P.bytesOf e ≤ reachBytes ∧ ∀ k, k < n → ∃ b o cs m y, a = some ⟨b, o, none⟩ ∧ b < w.heap.size ∧ cs.length = P.cellsOf e ∧ (∀ j, j < P.cellsOf e → w.cell? ⟨b, o + k * P.cellsOf e + j, none⟩ = cs[j]?) ∧
      DataW.trod enc P w 0 sp held m e cs = some y ∧ ∀ q ∈ y.1.weights P e, q ≤ reachBytes := by
  have memAll : ∀ (ds : List (DataW H)) (d : DataW H), d ∈ ds → ∀ q ∈ d.weights P e, q ∈ DataW.weightsAll P e ds := by
    intro ds
    induction ds with
    | nil => intro d hd; cases hd
    | cons d0 ds ih =>
      intro d hd q hq
      simp only [DataW.weightsAll, List.mem_append]
      rcases List.mem_cons.1 hd with rfl | hd
      · exact .inl hq
      · exact .inr (ih d hd q hq)
  rcases DataW.trod_slice ht h with ⟨hv, -⟩ | ⟨a, len, cap, elems, rest, m, -, hv, hx, -, h1, h2, hl, hel, -, -⟩
  · exact ⟨none, 0, 0, by simpa using hv, by omega, by unfold maxLen; omega, by omega, fun k hk => by omega⟩
  · obtain rfl : v = .slice (some a) len cap := by simpa using hv
    have hwt : len * P.bytesOf e ≤ reachBytes := by
      have := hw ((elems.length + rest.length) * P.bytesOf e) (by rw [hx]; simp [DataW.weights, ht])
      have h3 : len * P.bytesOf e ≤ (elems.length + rest.length) * P.bytesOf e := Nat.mul_le_mul_right _ (by omega)
      omega
    have key : ∀ k, k < len → ∃ cs y, w.cells? 0 (a.add (k * P.cellsOf e)) (P.cellsOf e) = some cs ∧ DataW.trod enc P w 0 sp held m e cs = some y ∧ ∀ q ∈ y.1.weights P e, q ≤ reachBytes := by
      intro k hk
      have := hel k hk
      rw [List.getElem?_eq_getElem (by omega)] at this
      obtain ⟨cs, hcs, hy⟩ := Option.bind_eq_some_iff.1 this
      refine ⟨cs, _, hcs, hy, fun q hq => hw q ?_⟩
      rw [hx]
      simp only [DataW.weights, ht, List.mem_cons, List.mem_append]
      exact .inr (.inl (memAll _ _ (List.mem_map.2 ⟨_, List.getElem_mem _, rfl⟩) q hq))
    refine ⟨some a, len, cap, rfl, h1, h2, hwt, fun k hk => ?_⟩
    obtain ⟨cs0, y0, hc0, -⟩ := key 0 (by omega)
    have h0 := (World.cells?_some hc0).2.2 0 hsz
    obtain ⟨ab, ao, asp⟩ := a
    have hl0 := (World.cells?_some hc0).2.1
    have has : asp = none := by
      simp only [Nat.zero_mul, Addr.add, if_true] at h0
      rw [List.getElem?_eq_getElem (by omega)] at h0
      cases asp with
      | none => rfl
      | some s =>
        simp only [World.cell?] at h0
        split at h0 <;> simp at h0
    subst has
    obtain ⟨cs, y, hcs, hy, hq⟩ := key k hk
    have h3 := World.cells?_some hcs
    have add_eq : ∀ (o n : Nat), (⟨ab, o, none⟩ : Addr).add n = ⟨ab, o + n, none⟩ := by
      intro o n; unfold Addr.add; split <;> simp_all
    refine ⟨ab, ao, cs, m, y, rfl, ?_, h3.2.1, fun j hj => ?_, hy, hq⟩
    · exact World.cells?_block (a := ⟨ab, ao, none⟩) (by simpa [add_eq] using hc0) hsz
    · have := h3.2.2 j hj
      simpa [add_eq] using this
theorem list_choose {α : Type} {n : Nat} {Q : Nat → α → Prop} (h : ∀ k, k < n → ∃ x, Q k x) : ∃ l : List α, l.length = n ∧ ∀ (k : Nat) x, l[k]? = some x → Q k x := by
  induction n with
  | zero => exact ⟨[], rfl, fun k x hk => by simp at hk⟩
  | succ n ih =>
    obtain ⟨l, h1, h2⟩ := ih fun k hk => h k (by omega)
    obtain ⟨x, hx⟩ := h n (by omega)
    refine ⟨l ++ [x], by simp [h1], fun k y hk => ?_⟩
    by_cases hlt : k < l.length
    · rw [List.getElem?_append_left hlt] at hk; exact h2 k y hk
    · rw [List.getElem?_append_right (by omega)] at hk
      have : k - l.length = 0 := by
        have := (List.getElem?_eq_some_iff.1 hk).1
        simp at this; omega
      rw [this] at hk
      simp at hk
      subst hk
      rw [show k = n by omega]; exact hx
theorem opens_slice {t e : TypeId} {n : Nat} {R : List PV → Prop} (ht : P.underlying t = some (.slice e)) (hc : P.cellsOf t = 1) (hn : 0 < n) (he : Opens enc P w sp held e n R) :
    Opens enc P w sp held t 1 fun ps => ∃ rows, rows.length * P.bytesOf e ≤ reachBytes ∧ (∀ row ∈ rows, row.length = n ∧ R row) ∧ ps = [.list rows] := by
  refine ⟨hc, fun fuel cs y h hw => ?_⟩
  have hcs : ∃ v, cs = [v] := by
    rcases DataW.trod_slice ht h with ⟨hv, -⟩ | ⟨a, len, cap, elems, rest, m, -, hv, -⟩ <;> exact ⟨_, hv⟩
  obtain ⟨v, rfl⟩ := hcs
  obtain ⟨hce, he⟩ := he
  obtain ⟨a, len, c, rfl, h1, h2, hby, h3⟩ := trod_elems2 ht (by omega) h hw
  rw [hce] at h3
  obtain ⟨rows, r1, r2⟩ := list_choose (Q := fun k (row : List PV) => row.length = n ∧ R row ∧ ∃ b o cs, a = some ⟨b, o, none⟩ ∧ b < w.heap.size ∧ cs.length = n ∧ (∀ j, j < n → w.cell? ⟨b, o + k * n + j, none⟩ = cs[j]?) ∧ Shows w row cs) fun k hk => by
    obtain ⟨b, o, cs, m, y, q1, q2, q3, q4, q5, q6⟩ := h3 k hk
    obtain ⟨ps, p1, p2, p3⟩ := he m cs y q5 q6
    exact ⟨ps, p1, p2, b, o, cs, q1, q2, q3, q4, p3⟩
  refine ⟨[.list rows], rfl, ⟨rows, by rw [r1]; exact hby, fun row hr => ?_, rfl⟩, shows1 ?_⟩
  · obtain ⟨k, hk⟩ := List.getElem?_of_mem hr
    exact ⟨(r2 k row hk).1, (r2 k row hk).2.1⟩
  · have key : ∀ k row j p, rows[k]? = some row → row[j]? = some p → ∃ b o, a = some ⟨b, o, none⟩ ∧ b < w.heap.size ∧ ∃ u, w.cell? ⟨b, o + k * n + j, none⟩ = some u ∧ RepP (fun b _ => b < w.heap.size) w p u := by
      intro k row j p hk hj
      obtain ⟨hl, -, b, o, cs, q1, q2, q3, q4, q5⟩ := r2 k row hk
      have hlt : j < n := by rw [← hl]; exact (List.getElem?_eq_some_iff.1 hj).1
      refine ⟨b, o, q1, q2, cs[j]'(by omega), ?_, ?_⟩
      · rw [q4 j hlt, List.getElem?_eq_getElem (by omega)]
      · exact q5.2 j p _ hj (List.getElem?_eq_getElem (by omega))
    have := RepP.list (S := fun b _ => b < w.heap.size) (w := w) rows a c n (fun k j => match a with | some ad => (w.cell? ⟨ad.block, ad.off + k * n + j, none⟩).getD Go.undef | none => Go.undef) (by omega) h2 hn (fun row hr => by
        obtain ⟨k, hk⟩ := List.getElem?_of_mem hr
        exact (r2 k row hk).1) (fun k row j p hk hj => by
        obtain ⟨b, o, q1, q2, u, q3, q4⟩ := key k row j p hk hj
        subst q1
        exact ⟨b, o, rfl, q2, by simp [q3]⟩) (fun k row j p hk hj => by
        obtain ⟨b, o, q1, q2, u, q3, q4⟩ := key k row j p hk hj
        subst q1
        simp only [q3, Option.getD_some]
        exact q4)
    rw [r1] at this
    exact this
def offs : Nat → List (TypeId × Nat) → List (TypeId × Nat)
  | _, [] => []
  | o, (t, n) :: r => (t, o) :: offs (o + n) r
def RAll : List (Nat × (List PV → Prop)) → List PV → Prop
  | [], ps => ps = []
  | (n, R) :: r, ps => ∃ a b, ps = a ++ b ∧ a.length = n ∧ R a ∧ RAll r b
def OpensAll (enc : TypeId × Value → H) (P : Program) (w : World) (sp : Nat → Bool) (held : Bool) : List (TypeId × Nat × (List PV → Prop)) → Prop
  | [] => True
  | (t, n, R) :: r => Opens enc P w sp held t n R ∧ OpensAll enc P w sp held r
theorem shows_append {a b : List PV} {cs ds : List Value} (h1 : Shows w a cs) (h2 : Shows w b ds) : Shows w (a ++ b) (cs ++ ds) := by
  refine ⟨by simp [h1.1, h2.1], fun j p v hj hv => ?_⟩
  by_cases hlt : j < a.length
  · rw [List.getElem?_append_left hlt] at hj
    rw [List.getElem?_append_left (by rw [h1.1]; exact hlt)] at hv
    exact h1.2 j p v hj hv
  · rw [List.getElem?_append_right (by omega)] at hj
    rw [List.getElem?_append_right (by rw [h1.1]; omega), h1.1] at hv
    exact h2.2 _ p v hj hv
theorem opens_fields : ∀ (fl : List (TypeId × Nat × (List PV → Prop))) (o : Nat) (cs : List Value), OpensAll enc P w sp held fl → cs.length = o + (fl.map (·.2.1)).sum →
    (∀ (i : Nat) (t' : TypeId) (o' : Nat), (offs o (fl.map fun f => (f.1, f.2.1)))[i]? = some (t', o') → ∃ n y, DataW.trod enc P w 0 sp held n t' ((cs.drop o').take (P.cellsOf t')) = some y ∧ ∀ k ∈ y.1.weights P t', k ≤ reachBytes) →
    ∃ ps, ps.length = (fl.map (·.2.1)).sum ∧ RAll (fl.map (·.2)) ps ∧ Shows w ps (cs.drop o)
  | [], o, cs, _, hl, _ => ⟨[], rfl, rfl, by
      rw [List.drop_eq_nil_of_le (by simp at hl; omega)]
      exact ⟨rfl, fun j p v hj => by simp at hj⟩⟩
  | (t, n, R) :: fl, o, cs, ho, hl, hx => by
    obtain ⟨⟨hc, h1⟩, h2⟩ := ho
    obtain ⟨m, y, hy, hwy⟩ := hx 0 t o rfl
    obtain ⟨ps, p1, p2, p3⟩ := h1 m _ y hy hwy
    simp only [List.map_cons, List.sum_cons] at hl
    obtain ⟨qs, q1, q2, q3⟩ := opens_fields fl (o + n) cs h2 (by omega) fun i t' o' hi => hx (i + 1) t' o' hi
    refine ⟨ps ++ qs, by simp [p1, q1], ⟨ps, qs, rfl, p1, p2, q2⟩, ?_⟩
    rw [hc] at p3
    have : cs.drop o = (cs.drop o).take n ++ cs.drop (o + n) := by rw [← List.drop_drop, List.take_append_drop]
    rw [this]
    exact shows_append p3 q3
theorem opens_struct {t : TypeId} {n : Nat} (fl : List (TypeId × Nat × (List PV → Prop))) (hs : P.underlying t = some (.struct (P.fieldsOf t))) (hf : (P.fieldsOf t).toList.map (fun f => (f.type, f.offset)) = offs 0 (fl.map fun f => (f.1, f.2.1)))
    (hc : P.cellsOf t = n) (hn : (fl.map (·.2.1)).sum = n) (ho : OpensAll enc P w sp held fl) : Opens enc P w sp held t n (RAll (fl.map (·.2))) := by
  refine ⟨hc, fun fuel cs y h hw => ?_⟩
  obtain ⟨xs, m, _, hy, hl, hlen, hq⟩ := DataW.trod_struct hs h
  have hx : ∀ (i : Nat) (t' : TypeId) (o' : Nat), (offs 0 (fl.map fun f => (f.1, f.2.1)))[i]? = some (t', o') → ∃ n y, DataW.trod enc P w 0 sp held n t' ((cs.drop o').take (P.cellsOf t')) = some y ∧ ∀ k ∈ y.1.weights P t', k ≤ reachBytes := by
    intro i t' o' hi
    rw [← hf, List.getElem?_map] at hi
    obtain ⟨f, h1, h2⟩ := Option.map_eq_some_iff.1 hi
    simp only [Prod.mk.injEq] at h2
    obtain ⟨rfl, rfl⟩ := h2
    have h3 := hq i f (by simpa using h1)
    have hi2 : i < (P.fieldsOf t).toList.length := (List.getElem?_eq_some_iff.1 h1).1
    have hi3 : i < xs.length := by rw [hlen]; simpa using hi2
    refine ⟨m, xs[i], by rw [h3]; simp, fun k hk => hw k ?_⟩
    rw [hy]
    simp only [DataW.weights, hs]
    refine DataW.weights_mem_each (j := i) (t := f.type) (d := xs[i].1) ?_ ?_ k hk
    · rw [List.getElem?_map, h1]; rfl
    · rw [List.getElem?_map, List.getElem?_eq_getElem hi3]; rfl
  obtain ⟨ps, h1, h2, h3⟩ := opens_fields fl 0 cs ho (by omega) hx
  exact ⟨ps, by omega, h2, h3⟩
theorem open_cell {t : TypeId} {R : List PV → Prop} (ho : Opens enc P w sp held t 1 R) {v : Value} (h1 : ∀ cs, v ≠ .agg cs) {d : DataW H} {p : List MemPlace} (h : DataW.Trod enc P w 0 sp held t v d p) (hw : ∀ k ∈ d.weights P t, k ≤ reachBytes) : ∃ q, R [q] ∧ RepP (fun b _ => b < w.heap.size) w q v := by
  obtain ⟨fuel, hf⟩ := h
  obtain ⟨ps, p1, p2, p3⟩ := ho.2 fuel _ _ hf hw
  have hv : v.cells.toList = [v] := by cases v <;> first | rfl | exact (h1 _ rfl).elim
  match ps, p1 with
  | [q], _ => exact ⟨q, p2, p3.2 0 q v rfl (by rw [hv]; rfl)⟩
end
def lawCx (w : World) : Cx := ⟨w, fun b _ => b < w.heap.size, ⟨0, fun _ => 0, fun _ => Go.undef, fun _ => 0⟩, []⟩
theorem lawHR (w : World) : HR (lawCx w) (lawCx w).C0 [] w :=
  ⟨rfl, fun id ob h => by simp at h, fun id id' ob ob' b h => by simp at h, fun id ob b h => by simp at h, fun b o h => ⟨h, fun id ob h => by simp at h, rfl⟩, Nat.le_refl _, rfl, rfl, rfl, fun b _ _ => rfl, Nat.le_refl _, fun i hi => rfl, fun i hi => .inl ⟨rfl, rfl⟩⟩
theorem lawStab {w : World} {b o : Nat} (h : b < w.heap.size) : Stab (lawCx w) (lawCx w).C0 [] w b o := ⟨.inl h, h, fun id ob h => by simp at h⟩
def Arg (w : World) (p : PV) (v : Value) : Prop := RepV (Stab (lawCx w) (lawCx w).C0 [] w) w (lawCx w).C0 p v
theorem Arg.of {w : World} {p : PV} {v : Value} (h : RepP (fun b _ => b < w.heap.size) w p v) : Arg w p v := .pure (h.mono (fun _ _ h => lawStab h) fun _ _ _ => rfl)
inductive ArgsAre (w : World) : List PV → List Value → Prop
  | nil : ArgsAre w [] []
  | cons {p : PV} {v : Value} {ps : List PV} {vs : List Value} (h : Arg w p v) (t : ArgsAre w ps vs) : ArgsAre w (p :: ps) (v :: vs)
theorem ArgsAre.reps {w : World} {ps : List PV} {vs : List Value} (h : ArgsAre w ps vs) : Reps (Stab (lawCx w) (lawCx w).C0 [] w) w (lawCx w).C0 ps vs := by
  induction h with
  | nil => exact ⟨rfl, fun j p v hj => by simp at hj⟩
  | cons h t ih =>
    refine ⟨by simp [ih.1], fun j p v hj hv => ?_⟩
    cases j with
    | zero => simp at hj hv; subst hj; subst hv; exact h
    | succ j => exact ih.2 j p v (by simpa using hj) (by simpa using hv)
theorem law_calls {P : Program} {f : Nat} {args : List PV} {vs : Array Value} {w : World} (h : Meets P f args [] (.bool true) []) (hp : ArgsAre w args vs.toList) : Calls P f vs w fun e w' => e = .returned (.bool true) ∧ Below w.heap.size w w' := by
  refine (h (lawCx w) vs rfl (lawHR w) hp.reps).mono fun e w' ⟨v, C', h1, h2, h3⟩ => ?_
  have hv := h3.bool_inv
  subst hv
  exact ⟨h1, ⟨h2.os, h2.tape, h2.output, h2.size, fun b hb => h2.frame b hb fun i ob0 hi => by simp [lawCx] at hi⟩⟩
end Go.Proofs.YtfdolehffjmdmaaGreatDoor
/- Arguments of laws, opened: ids, entries, lists of them. -/
namespace Go.Proofs.YtfdolehffjmdmaaGreatDoor
open Go.RowKit Go.ChangeShapes Go.WideShapes Go.ChangeAt
section
variable {H : Type} {enc : TypeId × Value → H} {w : World} {sp : Nat → Bool} {held : Bool}
theorem rows_map {α : Type} {f : α → List PV} {Q : α → Prop} {n : Nat} : ∀ {rows : List (List PV)}, (∀ row ∈ rows, row.length = n ∧ ∃ x, Q x ∧ row = f x) → ∃ l : List α, (∀ x ∈ l, Q x) ∧ rows = l.map f
  | [], _ => ⟨[], by simp, rfl⟩
  | row :: rows, h => by
    obtain ⟨-, x, h1, rfl⟩ := h row (by simp)
    obtain ⟨l, h2, rfl⟩ := rows_map (rows := rows) fun row hr => h row (by simp [hr])
    exact ⟨x :: l, by simpa using ⟨h1, h2⟩, rfl⟩
theorem opInt : Opens enc Tryz.prog w sp held 3 1 fun ps => ∃ n, I64 n ∧ ps = [.int .i64 n] := opens_int undInt' cellsInt
theorem opStr : Opens enc Tryz.prog w sp held 9 1 fun ps => ∃ s : ByteArray, s.size ≤ reachBytes ∧ ps = [.str s] := opens_str (by kernel_rfl) (by kernel_rfl)
def wfId (x : Id) : Prop := I64 x.r ∧ I64 x.n
theorem opId : Opens enc Tryz.prog w sp held 43 2 fun ps => ∃ x : Id, wfId x ∧ ps = cId x :=
  (opens_struct [(3, 1, _), (3, 1, _)] undId (by kernel_rfl) cellsId rfl ⟨opInt, opInt, trivial⟩).mono (by
    rintro ps ⟨a, b, rfl, -, ⟨n, hn, rfl⟩, c, d, rfl, -, ⟨m, hm, rfl⟩, rfl⟩
    exact ⟨⟨n, m⟩, ⟨hn, hm⟩, rfl⟩)
theorem opIds : Opens enc Tryz.prog w sp held 44 1 fun ps => ∃ l : List Id, l.length * 16 ≤ reachBytes ∧ (∀ x ∈ l, wfId x) ∧ ps = [.list (l.map cId)] :=
  (opens_slice (by kernel_rfl) (by kernel_rfl) (by omega) opId).mono (by
    rintro ps ⟨rows, hm, hr, rfl⟩
    obtain ⟨l, h1, rfl⟩ := rows_map hr
    rw [show Tryz.prog.bytesOf 43 = 16 by kernel_rfl] at hm
    exact ⟨l, by simpa using hm, h1, rfl⟩)
def wfE (e : Entry) : Prop := wfId e.id ∧ I64 e.c ∧ e.t.size ≤ reachBytes ∧ e.ls.length * 16 ≤ reachBytes ∧ ∀ x ∈ e.ls, wfId x
theorem undEntry : Tryz.prog.underlying 46 = some (.struct (Tryz.prog.fieldsOf 46)) := by kernel_rfl
theorem opEntry : Opens enc Tryz.prog w sp held 46 5 fun ps => ∃ e : Entry, wfE e ∧ ps = cE e :=
  (opens_struct [(43, 2, _), (3, 1, _), (9, 1, _), (44, 1, _)] undEntry (by kernel_rfl) (by kernel_rfl) rfl ⟨opId, opInt, opStr, opIds, trivial⟩).mono (by
    rintro ps ⟨a, b, rfl, -, ⟨x, hx, rfl⟩, c, d, rfl, -, ⟨n, hn, rfl⟩, f, g, rfl, -, ⟨s, hs, rfl⟩, k, q, rfl, -, ⟨l, hl, hq, rfl⟩, rfl⟩
    exact ⟨⟨x, n, s, l⟩, ⟨hx, hn, hs, hl, hq⟩, rfl⟩)
set_option maxRecDepth 100000 in
theorem argInt {b0 : Nat} {v : Value} {d : DataW H} {p : List MemPlace} (hv : Value.okWide Tryz.prog w .any b0 3 v) (h : DataW.Trod enc Tryz.prog w 0 sp held 3 v d p) (hw : ∀ k ∈ d.weights Tryz.prog 3, k ≤ reachBytes) : ∃ n, I64 n ∧ Arg w (.int .i64 n) v := by
  obtain ⟨m, rfl⟩ := okWide_int undInt' hv
  obtain ⟨q, ⟨n, hn, hq⟩, h2⟩ := open_cell opInt (by simp) h hw
  simp at hq; subst hq
  exact ⟨n, hn, .of h2⟩
set_option maxRecDepth 100000 in
theorem argStr {b0 : Nat} {v : Value} {d : DataW H} {p : List MemPlace} (hv : Value.okWide Tryz.prog w .any b0 9 v) (h : DataW.Trod enc Tryz.prog w 0 sp held 9 v d p) (hw : ∀ k ∈ d.weights Tryz.prog 9, k ≤ reachBytes) : ∃ s : ByteArray, s.size ≤ reachBytes ∧ Arg w (.str s) v := by
  obtain ⟨m, rfl⟩ := okWide_string (by kernel_rfl) hv
  obtain ⟨q, ⟨n, hn, hq⟩, h2⟩ := open_cell opStr (by simp) h hw
  simp at hq; subst hq
  exact ⟨n, hn, .of h2⟩
end
end Go.Proofs.YtfdolehffjmdmaaGreatDoor
/- Arguments of laws, opened: lists of entries, of ids. -/
namespace Go.Proofs.YtfdolehffjmdmaaGreatDoor
open Go.RowKit Go.ChangeShapes Go.WideShapes Go.ChangeAt
section
variable {H : Type} {enc : TypeId × Value → H} {w : World} {sp : Nat → Bool} {held : Bool}
theorem opEntries : Opens enc Tryz.prog w sp held 22 1 fun ps => ∃ l : List Entry, l.length ≤ reachBytes ∧ (∀ e ∈ l, wfE e) ∧ ps = [.list (l.map cE)] :=
  (opens_slice (by kernel_rfl) (by kernel_rfl) (by omega) opEntry).mono (by
    rintro ps ⟨rows, hm, hr, rfl⟩
    obtain ⟨l, h1, rfl⟩ := rows_map hr
    have hb : 1 ≤ Tryz.prog.bytesOf 46 := by decide +kernel
    refine ⟨l, ?_, h1, rfl⟩
    have h2 : (l.map cE).length * 1 ≤ (l.map cE).length * Tryz.prog.bytesOf 46 := Nat.mul_le_mul_left _ hb
    rw [List.length_map] at h2 hm
    omega)
set_option maxRecDepth 100000 in
theorem argEntries {b0 : Nat} {v : Value} {d : DataW H} {p : List MemPlace} (hv : Value.okWide Tryz.prog w .any b0 22 v) (h : DataW.Trod enc Tryz.prog w 0 sp held 22 v d p) (hw : ∀ k ∈ d.weights Tryz.prog 22, k ≤ reachBytes) :
    ∃ l : List Entry, l.length ≤ reachBytes ∧ (∀ e ∈ l, wfE e) ∧ Arg w (.list (l.map cE)) v := by
  obtain ⟨a, n, c, rfl⟩ := okWide_slice (e := 46) (by kernel_rfl) hv
  obtain ⟨q, ⟨l, h1, h2, hq⟩, h3⟩ := open_cell opEntries (by simp) h hw
  simp at hq; subst hq
  exact ⟨l, h1, h2, .of h3⟩
end
end Go.Proofs.YtfdolehffjmdmaaGreatDoor
/- Players of a log: contracts. -/
namespace Go.Proofs.YtfdolehffjmdmaaGreatDoor
set_option linter.unusedSimpArgs false
set_option linter.unusedVariables false
open Go.RowKit
def blkB (l : List Entry) (out : List Id) (y : Id) (e : Entry) : Bool := hasI (pastAt (pasts l) l y) e.id && !hasI out e.id
def mayB (l : List Entry) (c : Int) (out : List Id) (y : Id) : Bool := !(withC l c).any (blkB l out y)
end Go.Proofs.YtfdolehffjmdmaaGreatDoor
/- Plain laws of orders: what comes next, and what comes at all. No program in sight. -/
namespace Go.Proofs.YtfdolehffjmdmaaGreatDoor
end Go.Proofs.YtfdolehffjmdmaaGreatDoor
/- Orders: contracts. -/
namespace Go.Proofs.YtfdolehffjmdmaaGreatDoor
set_option linter.unusedSimpArgs false
set_option linter.unusedVariables false
open Go.RowKit
structure SomeOk (l : List Entry) (ids : List Id) : Prop where
  there : ∀ x ∈ ids, 0 ≤ findE l x
  once : ids.Nodup
end Go.Proofs.YtfdolehffjmdmaaGreatDoor
/- order.Begun, Is, More, First: contracts. -/
namespace Go.Proofs.YtfdolehffjmdmaaGreatDoor
set_option linter.unusedSimpArgs false
set_option linter.unusedVariables false
open Go.RowKit
end Go.Proofs.YtfdolehffjmdmaaGreatDoor
/- Orders in the law text's words: contracts. -/
namespace Go.Proofs.YtfdolehffjmdmaaGreatDoor
set_option linter.unusedSimpArgs false
set_option linter.unusedVariables false
open Go.RowKit
end Go.Proofs.YtfdolehffjmdmaaGreatDoor
/- All that comes, in the law text's words: a contract. -/
namespace Go.Proofs.YtfdolehffjmdmaaGreatDoor
set_option linter.unusedSimpArgs false
set_option linter.unusedVariables false
open Go.RowKit
end Go.Proofs.YtfdolehffjmdmaaGreatDoor
/- Plain laws of orders: what is begun, and how it goes on. No program in sight. -/
namespace Go.Proofs.YtfdolehffjmdmaaGreatDoor
structure Good (l : List Entry) (c : Int) (out : List Id) : Prop where
  once : out.Nodup
  col : ∀ x ∈ out, ∃ k, k < l.length ∧ (nth l k).id = x ∧ meetB (nth l k).c c = true
  may : ∀ x ∈ out, mayB l c out x = true
  ord : ∀ i k, i < k → k < out.length → hasI (pastAt (pasts l) l (nth out i)) (nth out k) = false
end Go.Proofs.YtfdolehffjmdmaaGreatDoor
/- Plain laws of what a vector has of a log. No program in sight. -/
namespace Go.Proofs.YtfdolehffjmdmaaGreatDoor
end Go.Proofs.YtfdolehffjmdmaaGreatDoor
/- Vectors, readers of a log: contracts. -/
namespace Go.Proofs.YtfdolehffjmdmaaGreatDoor
set_option linter.unusedSimpArgs false
set_option linter.unusedVariables false
open Go.RowKit
/-! method values asked by a function -/
end Go.Proofs.YtfdolehffjmdmaaGreatDoor
/- Clients: contracts. -/
namespace Go.Proofs.YtfdolehffjmdmaaGreatDoor
set_option linter.unusedSimpArgs false
set_option linter.unusedVariables false
open Go.RowKit
end Go.Proofs.YtfdolehffjmdmaaGreatDoor
/- Arguments of laws, opened: clients, vectors. -/
namespace Go.Proofs.YtfdolehffjmdmaaGreatDoor
open Go.RowKit Go.ChangeShapes Go.WideShapes Go.ChangeAt
section
variable {H : Type} {enc : TypeId × Value → H} {w : World} {sp : Nat → Bool} {held : Bool}
end
end Go.Proofs.YtfdolehffjmdmaaGreatDoor
/- Rows that list variables: a start that fits, and the way from a contract to the row, with a condition of the specification's own. -/
namespace Go.Proofs.YtfdolehffjmdmaaGreatDoor
open Go.RowKit Go.ChangeShapes Go.WideShapes Go.ChangeAt
section
variable {H : Type} {enc : TypeId × Value → H}
theorem returns_cond_and {a : Assume} {C : Checked} {os : Os} {f : FuncId} {fn : Func} {s : OpenSpec} {k : (H : Type) → List (DataW H) → Bool} (hk : s.cond = some k) {F : Stop.Interp} {conds : List PathCond} {apart fresh handsOn again : Bool} {X : World → Array Value → Prop}
    (hX : ∀ (w w' : World) (args : Array Value), w.heap = w'.heap → X w args → X w' args)
    (own : ownKnob C.prog.godebug = none) (started : os.Started) (noInit : C.prog.inits.idxOf? f = none) (hfn : C.prog.funcs[f]? = some fn)
    (witness : ∃ (w : World) (tape : Tape) (i : Input), w.os = os ∧ (w.forCall tape i).Shaped C.prog ∧ i.vars = [] ∧ Input.okWide C.prog (w.forCall tape i) .any w.heap.size f i ∧
      ((s.pre enc C.prog fn conds apart (w.forCall tape i).memory i.args ∧ X (w.forCall tape i).memory i.args) ∧ sizedMet enc C.prog fn s apart (w.forCall tape i).memory i.args) ∧ a.holds C.prog (lone (Frame.enter C.prog f i.args .normal) [] (w.forCall tape i)))
    (contract : ∀ (W : World) (base : Nat) (args : Array Value) (ds gs : List (DataW H)) (before : List MemPlace),
      (∀ (j : Nat) t v, fn.params[j]? = some t → args[j]? = some v → Value.okWide C.prog W .any base t v) →
      DataW.Whole enc C.prog fn.params.toList s.vars apart W args.toList ds gs before →
      conds.all (PathCond.test C.prog ⟨fn.params.toList, ds, s.bare.plain.varTypes C.prog, gs⟩) = true →
      (DataW.weightsEach C.prog (fn.params.toList ++ s.bare.plain.varTypes C.prog) (ds ++ gs)).all (· ≤ reachBytes) = true → X W args → k H (ds ++ gs) = true →
      a.holds C.prog (lone (Frame.enter C.prog f args .normal) [] W) →
      Calls C.prog f args W fun e W' => ∃ v, e = .returned v ∧ (s.at F).post enc C.prog fn apart fresh handsOn again W args v W') :
    ReturnsInHanded a C os f .any (fun w args => (s.pre enc C.prog fn conds apart w args ∧ X w args) ∧ sizedMet enc C.prog fn s apart w args) ((s.at F).post enc C.prog fn apart fresh handsOn again) := by
  refine returnsInHanded_of_calls own started noInit witness ?_
  intro w tape i _ _ _ hok hpre hholds
  obtain ⟨_, _, _, fn', hfn', _, _, _, _, hval⟩ := hok
  have e : fn' = fn := Option.some.inj (hfn'.symm.trans hfn)
  subst e
  obtain ⟨⟨hp, hx⟩, hz⟩ := hpre
  obtain ⟨ds, gs, before, hw, hc, hkk⟩ := (OpenSpec.pre_some hk conds apart _ _).1 hp
  have hw' := DataW.Whole.of_heap (w' := w.forCall tape i) (by rfl) hw
  refine (contract (w.forCall tape i) w.heap.size i.args ds gs before hval hw' hc (hz.weights hw) (hX _ _ _ (by rfl) hx) hkk hholds).mono fun e W' ⟨v, he, hp⟩ => ?_
  subst he
  exact ChangeSpec.post_blind hp
theorem witness_cond {C : Checked} {os : Os} {f : FuncId} {fn : Func} {s : OpenSpec} {k : (H : Type) → List (DataW H) → Bool} (hk : s.cond = some k) {conds : List PathCond} {apart : Bool} {X : World → Array Value → Prop} (w0 : World) (args : Array Value) (fuel : Nat) (hos : w0.os = os)
    (hsh : (w0.forCall (fun _ _ => 0) ⟨#[], args, []⟩).Shaped C.prog)
    (hok : Input.okWideB C.prog (w0.forCall (fun _ _ => 0) ⟨#[], args, []⟩) f ⟨#[], args, []⟩ = true)
    {x : List (DataW H) × List (DataW H) × List MemPlace} (hx : DataW.whole enc C.prog (w0.forCall (fun _ _ => 0) ⟨#[], args, []⟩).memory fn.params.toList s.vars apart args.toList fuel = some x)
    (hconds : conds.all (PathCond.test C.prog ⟨fn.params.toList, x.1, s.bare.plain.varTypes C.prog, x.2.1⟩) = true) (hkk : k H (x.1 ++ x.2.1) = true)
    (hsz : s.bare.sizedB enc C.prog fn apart (w0.forCall (fun _ _ => 0) ⟨#[], args, []⟩).memory args fuel = true)
    (hX : X (w0.forCall (fun _ _ => 0) ⟨#[], args, []⟩).memory args) :
    ∃ (w : World) (tape : Tape) (i : Input), w.os = os ∧ (w.forCall tape i).Shaped C.prog ∧ i.vars = [] ∧ Input.okWide C.prog (w.forCall tape i) .any w.heap.size f i ∧
      ((s.pre enc C.prog fn conds apart (w.forCall tape i).memory i.args ∧ X (w.forCall tape i).memory i.args) ∧ sizedMet enc C.prog fn s apart (w.forCall tape i).memory i.args) ∧ ({} : Assume).holds C.prog (lone (Frame.enter C.prog f i.args .normal) [] (w.forCall tape i)) :=
  ⟨w0, fun _ _ => 0, ⟨#[], args, []⟩, hos, hsh, (Input.okWide_of_okWideB (base := 0) hok).1, (Input.okWide_of_okWideB hok).2, ⟨⟨(OpenSpec.pre_some hk conds apart _ _).2 ⟨x.1, x.2.1, x.2.2, DataW.Whole_of_whole hx, hconds, hkk⟩, hX⟩, sizedMet_of_sizedB hsz⟩, by
    simp only [Assume.holds]
    exact ⟨by simp, by simp, fun _ => Modest.zero, by simp, by simp⟩⟩
end
end Go.Proofs.YtfdolehffjmdmaaGreatDoor
