/- Joined texts of this claim: E5 E6 E7 E8 EntryW RefA Eq RefE BytesW PutW EncW ReadW ToldW DecW E9 E10 E11 L1 E12 E13 L2 PE L3 Open Op1 Op2. -/
import Derived.Test.YthhkafjkhogbmaaKC
import Derived.Test.YthhkafjkhogbmaaKB
import Derived.Test.YthhkafjkhogbmaaProg
import Derived.Lib.AppendStr
import Derived.WalkLawsBesides
import Derived.Deep.RegionWith
import Derived.Deep.RegionHeld3
import Derived.Deep.AppendLies
import Derived.Deep.RegionLaw
import Derived.Defers
import Derived.Recover
import Derived.Laws.Pointers
import Derived.ProofKit
import Derived.OpenShut
import Derived.Carry
import Derived.SizedLaws
set_option linter.unusedSimpArgs false
set_option linter.unusedVariables false
set_option linter.unusedSectionVars false
/- Ids and entries that are the same. -/
namespace Go.Proofs.Ythhkafjkhogbmaa
set_option linter.unusedSimpArgs false
set_option linter.unusedVariables false
open Go.RowKit
theorem ids_ext' {x y : List Id} (hl : x.length = y.length) (h : ∀ k, k < x.length → nth x k = nth y k) : x = y := by
  refine List.ext_getElem hl fun k h1 h2 => ?_
  have := h k h1
  rwa [nth_eq _ _ h1, nth_eq _ _ h2] at this
theorem i64_up {k : Nat} (h : k < 9223372036854775807) : IntKind.i64.wrap ((k : Int) + 1) = ((k + 1 : Nat) : Int) := by
  rw [IntWalk.i64_in _ (by omega)]; omega
theorem beqId (a b : Id) : (decide (a.r = b.r) && decide (a.n = b.n)) = decide (a = b) := by
  rw [Bool.eq_iff_iff]; simp [Id.eq_iff]
theorem sameIds_meets (a b : List Id) (hm : a.length ≤ 9223372036854775807) : Meets Try.prog 57 [.list (a.map cId), .list (b.map cId)] [] (.bool (decide (a = b))) [] := by
  refine Meets.of_walk Try.func57 Try.ntmps57 low57 res57 (by simp) fun x hx => ?_
  by_cases hl : a.length = b.length
  · have hl' : ((a.length : Int) = (b.length : Int)) = True := by simp [hl]
    simp only [go_sem, Nat.reduceLT, Nat.reduceAdd, Nat.reduceEqDiff, Nat.reduceLeDiff, Nat.reduceSub, Nat.reduceMul, Int.reduceEq, eq_self, reduceIte, L57, R57, hl']
    refine loop_inv [0, 1, 5] 0 (fun n st => ∃ k : Nat, k + n = a.length ∧ (∀ j, j < k → nth a j = nth b j) ∧
      st = ⟨mkE .top [(0, .list (a.map cId)), (1, .list (b.map cId)), (5, .int .i64 k)], []⟩) a.length (by simp [hx]) (by simp) ?_ ?_
    · refine ⟨0, by omega, fun j h => by omega, ?_⟩
      simp [trim_mk, go_sem, Nat.reduceLT, Nat.reduceAdd, Nat.reduceEqDiff, Nat.reduceLeDiff, Nat.reduceSub, Nat.reduceMul, Int.reduceEq, eq_self, reduceIte, subHeap, renObj, pos, List.range_succ]
    · rintro n st ⟨k, hk, hz, rfl⟩
      simp only [go_sem, Nat.reduceLT, Nat.reduceAdd, Nat.reduceEqDiff, Nat.reduceLeDiff, Nat.reduceSub, Nat.reduceMul, Int.reduceEq, eq_self, reduceIte]
      by_cases hlt : k < a.length
      · have hg : a[k]? = some (nth a k) := nth_get? _ _ hlt
        have hlt2 : k < b.length := by omega
        have hg2 : b[k]? = some (nth b k) := nth_get? _ _ hlt2
        have hw := i64_up (k := k) (by omega)
        by_cases he : nth a k = nth b k
        · simp only [go_sem, Nat.reduceLT, Nat.reduceAdd, Nat.reduceEqDiff, Nat.reduceLeDiff, Nat.reduceSub, Nat.reduceMul, Int.reduceEq, eq_self, reduceIte, hlt, hlt2, hg, hg2, cId, he, hw]
          refine ⟨by simp, n - 1, by omega, k + 1, by omega, fun j hj => ?_, ?_⟩
          · by_cases e : j = k
            · rw [e]; exact he
            · exact hz j (by omega)
          · simp [trim_mk, go_sem, Nat.reduceLT, Nat.reduceAdd, Nat.reduceEqDiff, Nat.reduceLeDiff, Nat.reduceSub, Nat.reduceMul, Int.reduceEq, eq_self, reduceIte, subHeap, renObj, pos]
        · simp only [go_sem, Nat.reduceLT, Nat.reduceAdd, Nat.reduceEqDiff, Nat.reduceLeDiff, Nat.reduceSub, Nat.reduceMul, Int.reduceEq, eq_self, reduceIte, hlt, hlt2, hg, hg2, cId, beqId, he]
          refine ret_pure hx ?_
          have : ¬ a = b := fun e => he (by rw [e])
          simp [go_sem, Nat.reduceLT, Nat.reduceAdd, Nat.reduceEqDiff, Nat.reduceLeDiff, Nat.reduceSub, Nat.reduceMul, Int.reduceEq, eq_self, reduceIte, L57, R57, this]
      · simp only [go_sem, Nat.reduceLT, Nat.reduceAdd, Nat.reduceEqDiff, Nat.reduceLeDiff, Nat.reduceSub, Nat.reduceMul, Int.reduceEq, eq_self, reduceIte, hlt, decide_false]
        refine ret_pure hx ?_
        have : a = b := ids_ext' hl fun j hj => hz j (by omega)
        simp [go_sem, Nat.reduceLT, Nat.reduceAdd, Nat.reduceEqDiff, Nat.reduceLeDiff, Nat.reduceSub, Nat.reduceMul, Int.reduceEq, eq_self, reduceIte, L57, R57, this]
  · have hl' : ((a.length : Int) = (b.length : Int)) = False := by simp; omega
    simp only [go_sem, Nat.reduceLT, Nat.reduceAdd, Nat.reduceEqDiff, Nat.reduceLeDiff, Nat.reduceSub, Nat.reduceMul, Int.reduceEq, eq_self, reduceIte, L57, R57, hl']
    refine ret_pure hx ?_
    have : ¬ a = b := fun e => hl (by rw [e])
    simp [go_sem, Nat.reduceLT, Nat.reduceAdd, Nat.reduceEqDiff, Nat.reduceLeDiff, Nat.reduceSub, Nat.reduceMul, Int.reduceEq, eq_self, reduceIte, L57, R57, this]
end Go.Proofs.Ythhkafjkhogbmaa
/- Entries that are the same; what is wrong with an entry, in the law text's words. -/
namespace Go.Proofs.Ythhkafjkhogbmaa
set_option linter.unusedSimpArgs false
set_option linter.unusedVariables false
open Go.RowKit
def sameE (a b : Entry) : Bool := decide (a.id = b.id) && decide (a.c = b.c) && decide (a.t = b.t) && decide (a.ls = b.ls)
theorem sameEntry_meets (a b : Entry) : Meets Try.prog 29 [.agg (cE a), .agg (cE b)] [] (.bool (sameE a b)) [] := by
  refine Meets.len2 0 4 rfl (by simp [cE]; rfl) fun hm => ?_
  have hm' : a.ls.length ≤ 9223372036854775807 := by simp [maxLen] at hm; omega
  refine Meets.of_walk Try.func29 Try.ntmps29 low29 res29 (by simp) fun x hx => ?_
  by_cases h1 : a.id = b.id
  · by_cases h2 : a.c = b.c
    · by_cases h3 : a.t = b.t
      · simp only [go_sem, Nat.reduceLT, Nat.reduceAdd, Nat.reduceEqDiff, Nat.reduceLeDiff, Nat.reduceSub, Nat.reduceMul, Int.reduceEq, eq_self, reduceIte, L29, R29, cE, beqId, h1, h2, h3]
        refine ops_call (.pure (sameIds_meets _ _ hm')) ?_
        simp only [go_sem, Nat.reduceLT, Nat.reduceAdd, Nat.reduceEqDiff, Nat.reduceLeDiff, Nat.reduceSub, Nat.reduceMul, Int.reduceEq, eq_self, reduceIte]
        refine ret_pure hx ?_
        simp [go_sem, Nat.reduceLT, Nat.reduceAdd, Nat.reduceEqDiff, Nat.reduceLeDiff, Nat.reduceSub, Nat.reduceMul, Int.reduceEq, eq_self, reduceIte, L29, R29, sameE, h1, h2, h3]
      · simp only [go_sem, Nat.reduceLT, Nat.reduceAdd, Nat.reduceEqDiff, Nat.reduceLeDiff, Nat.reduceSub, Nat.reduceMul, Int.reduceEq, eq_self, reduceIte, L29, R29, cE, beqId, h1, h2, h3]
        refine ret_pure hx ?_
        simp [go_sem, Nat.reduceLT, Nat.reduceAdd, Nat.reduceEqDiff, Nat.reduceLeDiff, Nat.reduceSub, Nat.reduceMul, Int.reduceEq, eq_self, reduceIte, L29, R29, sameE, h1, h2, h3]
    · simp only [go_sem, Nat.reduceLT, Nat.reduceAdd, Nat.reduceEqDiff, Nat.reduceLeDiff, Nat.reduceSub, Nat.reduceMul, Int.reduceEq, eq_self, reduceIte, L29, R29, cE, beqId, h1, h2]
      refine ret_pure hx ?_
      simp [go_sem, Nat.reduceLT, Nat.reduceAdd, Nat.reduceEqDiff, Nat.reduceLeDiff, Nat.reduceSub, Nat.reduceMul, Int.reduceEq, eq_self, reduceIte, L29, R29, sameE, h1, h2]
  · simp only [go_sem, Nat.reduceLT, Nat.reduceAdd, Nat.reduceEqDiff, Nat.reduceLeDiff, Nat.reduceSub, Nat.reduceMul, Int.reduceEq, eq_self, reduceIte, L29, R29, cE, beqId, h1]
    refine ret_pure hx ?_
    simp [go_sem, Nat.reduceLT, Nat.reduceAdd, Nat.reduceEqDiff, Nat.reduceLeDiff, Nat.reduceSub, Nat.reduceMul, Int.reduceEq, eq_self, reduceIte, L29, R29, sameE, h1]
end Go.Proofs.Ythhkafjkhogbmaa
/- Bytes: writing an entry. -/
namespace Go.Proofs.Ythhkafjkhogbmaa
set_option linter.unusedSimpArgs false
set_option linter.unusedVariables false
open Go.RowKit
theorem bytesOf_one (n : Int) : bytesOf [[PV.int IntKind.u8 (IntKind.u8.wrap n)]] = some [byt n] := by
  simp only [bytesOf, byteRow, byt]
  have : IntKind.u8.wrap n = n % 256 := by simp [IntKind.wrap, IntKind.signed, IntKind.bits]
  rw [this]
theorem oneByte_meets (n : Int) : Meets Try.prog 53 [.int .i64 n] [] (.str (BA [byt n])) [] := by
  refine Meets.of_walk Try.func53 Try.ntmps53 low53 res53 (by simp) fun x hx => ?_
  simp only [go_sem, Nat.reduceLT, Nat.reduceAdd, Nat.reduceEqDiff, Nat.reduceLeDiff, Nat.reduceSub, Nat.reduceMul, Int.reduceEq, eq_self, reduceIte, L53, R53, bytesOf_one]
  refine ret_pure hx ?_
  simp [go_sem, Nat.reduceLT, Nat.reduceAdd, Nat.reduceEqDiff, Nat.reduceLeDiff, Nat.reduceSub, Nat.reduceMul, Int.reduceEq, eq_self, reduceIte, L53, R53, BA]
def e0 : Entry := ⟨⟨0, 1⟩, 1, BA [112, 117, 116, 32, 97, 32, 120], []⟩
def e1 : Entry := ⟨⟨1, 1⟩, 3, BA [112, 117, 116, 32, 97, 32, 121], []⟩
def e2 : Entry := ⟨⟨0, 2⟩, 3, BA [100, 114, 111, 112, 32, 97], [⟨0, 1⟩]⟩
def e3 : Entry := ⟨⟨1, 2⟩, 2, BA [112, 117, 116, 32, 98, 32, 122], [⟨0, 2⟩, ⟨1, 1⟩]⟩
def cE0 (e : Entry) : List PV := [.int .i64 e.id.r, .int .i64 e.id.n, .int .i64 e.c, .str e.t, if e.ls = [] then .nilsl else .list (e.ls.map cId)]
theorem entries_meets : Meets Try.prog 54 [] [] (.list [cE e0, cE e1, cE e2, cE e3]) [] := by
  refine Meets.nl (r := .list [cE0 e0, cE0 e1, cE0 e2, cE0 e3]) 4 ?_ (by simp [nlN, cE0, cE, cId, e0, e1, e2, e3])
  refine Meets.of_walk Try.func54 Try.ntmps54 low54 res54 (by simp) fun x hx => ?_
  simp only [go_sem, Nat.reduceLT, Nat.reduceAdd, Nat.reduceEqDiff, Nat.reduceLeDiff, Nat.reduceSub, Nat.reduceMul, Int.reduceEq, eq_self, reduceIte, L54, R54]
  iterate 7
    refine ops_call (.pure (lawId_meets _ _)) ?_
    simp only [go_sem, Nat.reduceLT, Nat.reduceAdd, Nat.reduceEqDiff, Nat.reduceLeDiff, Nat.reduceSub, Nat.reduceMul, Int.reduceEq, eq_self, reduceIte]
  refine ret_pure hx ?_
  simp [go_sem, Nat.reduceLT, Nat.reduceAdd, Nat.reduceEqDiff, Nat.reduceLeDiff, Nat.reduceSub, Nat.reduceMul, Int.reduceEq, eq_self, reduceIte, L54, R54, cE0, cId, e0, e1, e2, e3, BA]
end Go.Proofs.Ythhkafjkhogbmaa
/- An entry's bytes in the law text's words. -/
namespace Go.Proofs.Ythhkafjkhogbmaa
set_option linter.unusedSimpArgs false
set_option linter.unusedVariables false
open Go.RowKit
theorem BA_list (l : List UInt8) : (BA l).data.toList = l := by simp [BA]
theorem entryBytes_meets (e : Entry) (ht : e.t.size ≤ 12) (h6 : e.ls.length ≤ 6) : Meets Try.prog 23 [.agg (cE e)] [] (.str (BA (encL e))) [] := by
  refine Meets.of_walk Try.func23 Try.ntmps23 low23 res23 (by simp) fun x hx => ?_
  simp only [go_sem, Nat.reduceLT, Nat.reduceAdd, Nat.reduceEqDiff, Nat.reduceLeDiff, Nat.reduceSub, Nat.reduceMul, Int.reduceEq, eq_self, reduceIte, L23, R23, cE]
  iterate 4
    refine ops_call (.pure (oneByte_meets _)) ?_
    simp only [go_sem, Nat.reduceLT, Nat.reduceAdd, Nat.reduceEqDiff, Nat.reduceLeDiff, Nat.reduceSub, Nat.reduceMul, Int.reduceEq, eq_self, reduceIte, BA_app, BA_size]
  refine loop_inv [1, 3, 4] 1 (fun n st => ∃ k : Nat, k + n = e.ls.length ∧
    st = ⟨mkE .top [(1, .ptr 0 0), (3, .str (BA (preL e k))), (4, .int .i64 k)], [.box (cE e)]⟩) e.ls.length (by simp [hx]) (by simp) ?_ ?_
  · refine ⟨0, by omega, ?_⟩
    simp [trim_mk, go_sem, Nat.reduceLT, Nat.reduceAdd, Nat.reduceEqDiff, Nat.reduceLeDiff, Nat.reduceSub, Nat.reduceMul, Int.reduceEq, eq_self, reduceIte, subHeap, renObj, pos, List.range_succ, cE, preL, headL]
  · rintro n st ⟨k, hk, rfl⟩
    simp only [go_sem, Nat.reduceLT, Nat.reduceAdd, Nat.reduceEqDiff, Nat.reduceLeDiff, Nat.reduceSub, Nat.reduceMul, Int.reduceEq, eq_self, reduceIte, cE]
    by_cases hlt : k < e.ls.length
    · have hg : e.ls[k]? = some (nth e.ls k) := nth_get? _ _ hlt
      have hw := i64_up (k := k) (by omega)
      have hz : (preL e k).length + 2 ≤ 4611686018427387904 := by rw [preL_len e k (by omega)]; omega
      simp only [go_sem, Nat.reduceLT, Nat.reduceAdd, Nat.reduceEqDiff, Nat.reduceLeDiff, Nat.reduceSub, Nat.reduceMul, Int.reduceEq, eq_self, reduceIte, hlt, hg, cId]
      iterate 2
        refine ops_call (.pure (oneByte_meets _)) ?_
        simp only [go_sem, Nat.reduceLT, Nat.reduceAdd, Nat.reduceEqDiff, Nat.reduceLeDiff, Nat.reduceSub, Nat.reduceMul, Int.reduceEq, eq_self, reduceIte, BA_app, BA_size, hlt, hg, cId, hw, hz]
      refine ⟨by simp, n - 1, by omega, k + 1, by omega, ?_⟩
      simp [trim_mk, go_sem, Nat.reduceLT, Nat.reduceAdd, Nat.reduceEqDiff, Nat.reduceLeDiff, Nat.reduceSub, Nat.reduceMul, Int.reduceEq, eq_self, reduceIte, subHeap, renObj, pos, List.range_succ, cE, preL_succ e k hlt, idL]
    · simp only [go_sem, Nat.reduceLT, Nat.reduceAdd, Nat.reduceEqDiff, Nat.reduceLeDiff, Nat.reduceSub, Nat.reduceMul, Int.reduceEq, eq_self, reduceIte, hlt, decide_false]
      refine ops_call (.pure (oneByte_meets _)) ?_
      have hz : (preL e k).length + 1 ≤ 4611686018427387904 := by rw [preL_len e k (by omega)]; omega
      have hz2 : (preL e k).length + 1 + e.t.size ≤ 4611686018427387904 := by rw [preL_len e k (by omega)]; omega
      simp only [go_sem, Nat.reduceLT, Nat.reduceAdd, Nat.reduceEqDiff, Nat.reduceLeDiff, Nat.reduceSub, Nat.reduceMul, Int.reduceEq, eq_self, reduceIte, BA_app, BA_app_t, BA_list, BA_size, List.length_append, hz, hz2]
      refine ret_pure hx ?_
      have : e.ls.take k = e.ls := List.take_of_length_le (by omega)
      simp [go_sem, Nat.reduceLT, Nat.reduceAdd, Nat.reduceEqDiff, Nat.reduceLeDiff, Nat.reduceSub, Nat.reduceMul, Int.reduceEq, eq_self, reduceIte, L23, R23, encL, preL, this]
end Go.Proofs.Ythhkafjkhogbmaa
/- Walks through the functions on ids and entries. -/
namespace Go.Proofs.Ythhkafjkhogbmaa
open Go.RowKit

theorem within_calls (n a b : Int) (w : World) : Calls Try.prog 65 #[.int .i64 n, .int .i64 a, .int .i64 b] w fun e w' => e = .returned (.bool (wthn n a b)) ∧ w = w' := by
  by_cases h1 : a ≤ n
  · go_enter Try.func65, Try.ntmps65
    go_wp2
    go_ret
    exact ⟨by simp [wthn, h1], rfl⟩
  · go_enter Try.func65, Try.ntmps65
    go_wp2
    go_ret
    exact ⟨by simp [wthn]; omega, rfl⟩

theorem id_calls (r n : Int) (w : World) : Calls Try.prog 46 #[.agg #[.int .i64 r, .int .i64 n]] w fun e w' => e = .returned (.bool (okId ⟨r, n⟩)) ∧ Below w.heap.size w w' := by
  cases h1 : wthn r 0 1
  · have e : okId ⟨r, n⟩ = false := by simp [okId, h1]
    rw [e]
    go_enter Try.func46, Try.ntmps46
    go_wp2_with (go_at_call 65; refine (within_calls _ _ _ _).mono ?_; rintro e w' ⟨rfl, rfl⟩)
    go_ret
    exact ⟨rfl, (Below.refl _ _).alloc (Nat.le_refl _) _⟩
  · have e : okId ⟨r, n⟩ = wthn n 1 20 := by simp [okId, h1]
    rw [e]
    go_enter Try.func46, Try.ntmps46
    go_wp2_with (go_at_call 65; refine (within_calls _ _ _ _).mono ?_; rintro e w' ⟨rfl, rfl⟩)
    go_ret
    exact ⟨rfl, (Below.refl _ _).alloc (Nat.le_refl _) _⟩
theorem cmp_calls (a b : Int) (w : World) : Calls Try.prog 69 #[.int .i64 a, .int .i64 b] w fun e w' => e = .returned (.int .i64 (cmpI a b)) ∧ w = w' := by
  by_cases h1 : a < b
  · go_enter Try.func69, Try.ntmps69
    go_wp2
    go_ret
    exact ⟨by simp [cmpI, h1], rfl⟩
  · by_cases h2 : b < a
    · go_enter Try.func69, Try.ntmps69
      go_wp2
      go_ret
      exact ⟨by simp [cmpI, h1, h2], rfl⟩
    · go_enter Try.func69, Try.ntmps69
      go_wp2
      go_ret
      exact ⟨ret_int (by unfold cmpI; rw [if_neg (by omega), if_neg (by omega)]), rfl⟩
theorem order_calls (a b : Id) (w : World) : Calls Try.prog 55 #[.agg #[.int .i64 a.r, .int .i64 a.n], .agg #[.int .i64 b.r, .int .i64 b.n]] w fun e w' => e = .returned (.int .i64 (ordI a b)) ∧ Below w.heap.size w w' := by
  go_enter Try.func55, Try.ntmps55
  go_wp2_with (go_at_call 69; refine (cmp_calls _ _ _).mono ?_; rintro e w' ⟨rfl, rfl⟩)
  · go_ret
    have h : (cmpI a.r b.r != 0) = true := by assumption
    exact ⟨ret_int (by rw [ordI, if_neg (by simpa using h)]), by (repeat (first | exact Below.refl _ _ | assumption | refine Below.drew ?_ | refine below_drewN ?_ | refine Below.alloc ?_ (by first | (simp; done) | (simp; omega) | omega) _ | refine Below.setCell ?_ (by first | (simp; done) | (simp; omega) | omega) _))⟩
  · go_ret
    have h : (cmpI a.r b.r != 0) = false := by assumption
    exact ⟨ret_int (by rw [ordI, if_pos (by simpa using h)]), by (repeat (first | exact Below.refl _ _ | assumption | refine Below.drew ?_ | refine below_drewN ?_ | refine Below.alloc ?_ (by first | (simp; done) | (simp; omega) | omega) _ | refine Below.setCell ?_ (by first | (simp; done) | (simp; omega) | omega) _))⟩
theorem less_calls (a b : Id) (w : World) : Calls Try.prog 26 #[.agg #[.int .i64 a.r, .int .i64 a.n], .agg #[.int .i64 b.r, .int .i64 b.n]] w fun e w' => e = .returned (.bool (lessB a b)) ∧ Below w.heap.size w w' := by
  have h : lessB a b = decide (ordI a b < 0) := by rw [Bool.eq_iff_iff, decide_eq_true_iff, ordI_lt]
  rw [h]
  go_enter Try.func26, Try.ntmps26
  go_wp2_with (go_at_call 55; refine (order_calls _ _ _).mono ?_; rintro e w' ⟨rfl, hb⟩)
  go_ret
  exact ⟨rfl, below_after (by (repeat (first | exact Below.refl _ _ | assumption | refine Below.drew ?_ | refine below_drewN ?_ | refine Below.alloc ?_ (by first | (simp; done) | (simp; omega) | omega) _ | refine Below.setCell ?_ (by first | (simp; done) | (simp; omega) | omega) _))) hb⟩
theorem colors_calls (n : Int) (w : World) : Calls Try.prog 56 #[.int .i64 n] w fun e w' => e = .returned (.bool (wthn n 1 7)) ∧ w = w' := by
  go_enter Try.func56, Try.ntmps56
  go_wp2_with (go_at_call 65; refine (within_calls _ _ _ _).mono ?_; rintro e w' ⟨rfl, rfl⟩)
  go_ret
  exact ⟨rfl, rfl⟩

set_option maxHeartbeats 1000000 in
theorem check_calls (S : Nat → Prop) (e : Entry) (lv : Value) (w : World) (hl : IdsIn S w lv e.ls) (ht : e.t.size ≤ maxLen) :
    Calls Try.prog 28 #[.agg #[.int .i64 e.id.r, .int .i64 e.id.n, .int .i64 e.c, .string e.t, lv]] w fun x w' => x = .returned (.int .i64 (checkEntry e)) ∧ Below w.heap.size w w' := by
  obtain ⟨a, c, rfl, hc1, hc2⟩ := hl.form
  have HL := Lib.hid hl; clear hl
  unfold maxLen at ht
  cases h1 : okId e.id
  · have H : Hid (checkEntry e = 3) := by show _ = _; rw [checkEntry, if_pos h1]
    go_enter Try.func28, Try.ntmps28
    go_wp2_with (go_at_call 46; refine (id_calls _ _ _).mono ?_; rintro x w1 ⟨rfl, hb⟩)
    go_ret
    exact ⟨ret_int H.out.symm, below_after (by (repeat (first | exact Below.refl _ _ | assumption | refine Below.drew ?_ | refine below_drewN ?_ | refine Below.alloc ?_ (by first | (simp; done) | (simp; omega) | omega) _ | refine Below.setCell ?_ (by first | (simp; done) | (simp; omega) | omega) _))) hb⟩
  cases h2 : wthn e.c 1 7
  · have H : Hid (checkEntry e = 3) := by show _ = _; rw [checkEntry, if_neg (by simp [h1]), if_pos h2]
    go_enter Try.func28, Try.ntmps28
    go_wp2_with (first | (go_at_call 46; refine (id_calls _ _ _).mono ?_; rintro x w1 ⟨rfl, hb⟩; (have B := below_after (w := w) (by (repeat (first | exact Below.refl _ _ | assumption | refine Below.drew ?_ | refine below_drewN ?_ | refine Below.alloc ?_ (by first | (simp; done) | (simp; omega) | omega) _ | refine Below.setCell ?_ (by first | (simp; done) | (simp; omega) | omega) _))) hb; obtain ⟨hc, hf⟩ := bcell hb; have hz := hb.size; (try simp only [World.size_alloc] at hz); clear hb)) | (go_at_call 56; refine (colors_calls _ _).mono ?_; rintro x w2 ⟨rfl, rfl⟩))
    go_ret
    exact ⟨ret_int H.out.symm, B⟩
  have g1 : (okId e.id = false) = False := by simp [h1]
  have g2 : (wthn e.c 1 7 = false) = False := by simp [h2]
  by_cases h3 : 12 < e.t.size
  · have H : Hid (checkEntry e = 2) := by show _ = _; simp only [checkEntry, g1, g2, if_false, if_pos h3]
    clear g1 g2
    go_enter Try.func28, Try.ntmps28
    go_wp2_with (first | (go_at_call 46; refine (id_calls _ _ _).mono ?_; rintro x w1 ⟨rfl, hb⟩; (have B := below_after (w := w) (by (repeat (first | exact Below.refl _ _ | assumption | refine Below.drew ?_ | refine below_drewN ?_ | refine Below.alloc ?_ (by first | (simp; done) | (simp; omega) | omega) _ | refine Below.setCell ?_ (by first | (simp; done) | (simp; omega) | omega) _))) hb; obtain ⟨hc, hf⟩ := bcell hb; have hz := hb.size; (try simp only [World.size_alloc] at hz); clear hb)) | (go_at_call 56; refine (colors_calls _ _).mono ?_; rintro x w2 ⟨rfl, rfl⟩))
    go_ret
    exact ⟨ret_int H.out.symm, B⟩
  by_cases h4 : 6 < e.ls.length
  · have H : Hid (checkEntry e = 2) := by show _ = _; simp only [checkEntry, g1, g2, if_false, if_neg h3, if_pos h4]
    clear g1 g2
    go_enter Try.func28, Try.ntmps28
    go_wp2_with (first | (go_at_call 46; refine (id_calls _ _ _).mono ?_; rintro x w1 ⟨rfl, hb⟩; (have B := below_after (w := w) (by (repeat (first | exact Below.refl _ _ | assumption | refine Below.drew ?_ | refine below_drewN ?_ | refine Below.alloc ?_ (by first | (simp; done) | (simp; omega) | omega) _ | refine Below.setCell ?_ (by first | (simp; done) | (simp; omega) | omega) _))) hb; obtain ⟨hc, hf⟩ := bcell hb; have hz := hb.size; (try simp only [World.size_alloc] at hz); clear hb)) | (go_at_call 56; refine (colors_calls _ _).mono ?_; rintro x w2 ⟨rfl, rfl⟩))
    go_ret
    exact ⟨ret_int H.out.symm, B⟩
  have H : Hid (checkEntry e = firstNZ (linkErr e.id e.ls) e.ls.length) := by show _ = _; simp only [checkEntry, g1, g2, if_false, if_neg h3, if_neg h4]
  clear g1 g2
  go_enter Try.func28, Try.ntmps28
  go_wp2_with (first | (go_at_call 46; refine (id_calls _ _ _).mono ?_; rintro x w1 ⟨rfl, hb⟩; (have B := below_after (w := w) (by (repeat (first | exact Below.refl _ _ | assumption | refine Below.drew ?_ | refine below_drewN ?_ | refine Below.alloc ?_ (by first | (simp; done) | (simp; omega) | omega) _ | refine Below.setCell ?_ (by first | (simp; done) | (simp; omega) | omega) _))) hb; obtain ⟨hc, hf⟩ := bcell hb; have hz := hb.size; (try simp only [World.size_alloc] at hz); clear hb)) | (go_at_call 56; refine (colors_calls _ _).mono ?_; rintro x w2 ⟨rfl, rfl⟩))
  go_loopw [30] (fun i wr => ∃ k : Nat, k ≤ e.ls.length ∧ i = .int .i64 k ∧ Hid (firstNZ (linkErr e.id e.ls) k = 0) ∧ Below w1.heap.size w1 wr) (fun i _ => e.ls.length - (intOf i).toNat)
  case atStart => exact ⟨0, by omega, rfl, rfl, Below.refl _ _⟩
  case round =>
    obtain ⟨k, hk, rfl, hz0, hbe⟩ := hrel
    by_cases hlt : k < e.ls.length
    · obtain ⟨b, o, rfl, hS, hbs, c1, c2⟩ := ((HL.out.below B).below hbe).get hlt
      obtain ⟨hcr, hfr⟩ := bcell hbe
      have hzr := hbe.size
      cases h5 : okId (nth e.ls k)
      · have HE : Hid (linkErr e.id e.ls k = 3) := by show _ = _; rw [linkErr, if_pos h5]
        go_wp2_with (go_at_call 46; refine (id_calls _ _ _).mono ?_; rintro x w3 ⟨rfl, hb⟩)
        go_ret
        exact ⟨ret_int (by rw [H.out, firstNZ_hit hz0.out (by rw [HE.out]; decide) hlt, HE.out]), B.trans (below_after (by (repeat (first | exact Below.refl _ _ | assumption | refine Below.drew ?_ | refine below_drewN ?_ | refine Below.alloc ?_ (by first | (simp; done) | (simp; omega) | omega) _ | refine Below.setCell ?_ (by first | (simp; done) | (simp; omega) | omega) _))) hb |>.mono B.size)⟩
      · by_cases hk0 : 0 < k
        · have hd : decide ((0 : Int) < (k : Int)) = true := by simpa using hk0
          obtain ⟨b', o', hb', -, -, c3, c4⟩ := ((HL.out.below B).below hbe).get (k := k - 1) (by omega)
          obtain ⟨rfl, rfl⟩ : b = b' ∧ o = o' := by simpa using hb'
          clear hb'
          go_wp2_with (first | (go_at_call 46; refine (id_calls _ _ _).mono ?_; rintro x w3 ⟨rfl, hb⟩; have B3 := below_after (w := w1) (by (repeat (first | exact Below.refl _ _ | assumption | refine Below.drew ?_ | refine below_drewN ?_ | refine Below.alloc ?_ (by first | (simp; done) | (simp; omega) | omega) _ | refine Below.setCell ?_ (by first | (simp; done) | (simp; omega) | omega) _))) hb; obtain ⟨hc3, hf3⟩ := bcell hb; have hz3 := hb.size; (try simp only [World.size_alloc] at hz3); clear hb))
          have z1 : w.heap.size < w3.heap.size := by omega
          have z2 : b < w3.heap.size := by omega
          have z3 : wr.heap.size < w3.heap.size := by omega
          have z4 : w.heap.size < wr.heap.size := by omega
          have z5 : w.heap.size < w1.heap.size := by omega
          have hg := grow_cell w3
          refine wp_region_quiet_below (by kernel_rfl) (by kernel_rfl) ?_
          repeat (go_big_quiet_step ((go_at_call 55; exact Calls.regrown_of (order_calls _ _ _))))
          (refine wpQuiet_nil ?_; intro wq hwq; have hbq := below_of_class hwq; clear hwq hg)
          obtain ⟨hcq, hfq⟩ := bcell hbq
          have hzq := hbq.size
          have BQ : Below w.heap.size w wq := B.trans ((B3.trans (hbq.mono B3.size)).mono B.size)
          have BR : Below w1.heap.size w1 wq := B3.trans (hbq.mono B3.size)
          go_wp2
          · go_ret
            have h : 0 ≤ ordI (nth e.ls (k - 1)) (nth e.ls k) := by assumption
            have h' := linkErr_ord (e := e.id) h5 hk0 h
            exact ⟨ret_int (by rw [H.out, firstNZ_hit hz0.out (by rw [h']; decide) hlt, h']), BQ⟩
          · go_ret
            have h' := linkErr_own (ls := e.ls) (k := k) (e := e.id) h5 (by assumption) (by assumption)
            exact ⟨ret_int (by rw [H.out, firstNZ_hit hz0.out (by rw [h']; decide) hlt, h']), BQ⟩
          all_goals
            have h : ordI (nth e.ls (k - 1)) (nth e.ls k) < 0 := by assumption
            have h' := linkErr_ok (ls := e.ls) (k := k) (e := e.id) h5 (.inr h) (by first | (rintro ⟨-, h2⟩; omega) | (rintro ⟨h2, -⟩; contradiction))
            go_roundw
            case rel => exact ⟨k + 1, by omega, by go_num, firstNZ_succ hz0.out h', BR⟩
            case measure => simp [intOf]; omega
        · have hd : decide ((0 : Int) < (k : Int)) = false := by simpa using hk0
          go_wp2_with (first | (go_at_call 46; refine (id_calls _ _ _).mono ?_; rintro x w3 ⟨rfl, hb⟩; have B3 := below_after (w := w1) (by (repeat (first | exact Below.refl _ _ | assumption | refine Below.drew ?_ | refine below_drewN ?_ | refine Below.alloc ?_ (by first | (simp; done) | (simp; omega) | omega) _ | refine Below.setCell ?_ (by first | (simp; done) | (simp; omega) | omega) _))) hb; obtain ⟨hc3, hf3⟩ := bcell hb; have hz3 := hb.size; (try simp only [World.size_alloc] at hz3); clear hb))
          have z1 : w.heap.size < w3.heap.size := by omega
          have z2 : b < w3.heap.size := by omega
          have z3 : wr.heap.size < w3.heap.size := by omega
          have z4 : w.heap.size < wr.heap.size := by omega
          have z5 : w.heap.size < w1.heap.size := by omega
          have hg := grow_cell w3
          refine wp_region_quiet_below (by kernel_rfl) (by kernel_rfl) ?_
          repeat (go_big_quiet_step ((go_at_call 55; exact Calls.regrown_of (order_calls _ _ _))))
          (refine wpQuiet_nil ?_; intro wq hwq; have hbq := below_of_class hwq; clear hwq hg)
          obtain ⟨hcq, hfq⟩ := bcell hbq
          have hzq := hbq.size
          have BQ : Below w.heap.size w wq := B.trans ((B3.trans (hbq.mono B3.size)).mono B.size)
          have BR : Below w1.heap.size w1 wq := B3.trans (hbq.mono B3.size)
          go_wp2
          · go_ret
            have h' := linkErr_own (ls := e.ls) (k := k) (e := e.id) h5 (by assumption) (by assumption)
            exact ⟨ret_int (by rw [H.out, firstNZ_hit hz0.out (by rw [h']; decide) hlt, h']), BQ⟩
          all_goals
            have h' := linkErr_ok (ls := e.ls) (k := k) (e := e.id) h5 (.inl (by omega)) (by first | (rintro ⟨-, h2⟩; omega) | (rintro ⟨h2, -⟩; contradiction))
            go_roundw
            case rel => exact ⟨k + 1, by omega, by go_num, firstNZ_succ hz0.out h', BR⟩
            case measure => simp [intOf]; omega
    · go_wp2
      go_ret
      exact ⟨ret_int (by rw [H.out, show e.ls.length = k from by omega, hz0.out]), B.trans (hbe.mono B.size)⟩

end Go.Proofs.Ythhkafjkhogbmaa
/- Walks through the reference's small words: numbers, ids. -/
namespace Go.Proofs.Ythhkafjkhogbmaa
set_option linter.unusedSimpArgs false
set_option linter.unusedVariables false
open Go.RowKit

theorem between_calls (n a b : Int) (w : World) : Calls Try.prog 49 #[.int .i64 n, .int .i64 a, .int .i64 b] w fun e w' => e = .returned (.bool (wthn n a b)) ∧ w = w' := by
  by_cases h1 : a ≤ n
  · go_enter Try.func49, Try.ntmps49
    go_wp2
    go_ret
    exact ⟨by simp [wthn, h1], rfl⟩
  · go_enter Try.func49, Try.ntmps49
    go_wp2
    go_ret
    exact ⟨by simp [wthn]; omega, rfl⟩
theorem isId_calls (r n : Int) (w : World) : Calls Try.prog 17 #[.agg #[.int .i64 r, .int .i64 n]] w fun e w' => e = .returned (.bool (okId ⟨r, n⟩)) ∧ Below w.heap.size w w' := by
  cases h1 : wthn r 0 1
  · have e : okId ⟨r, n⟩ = false := by simp [okId, h1]
    rw [e]
    go_enter Try.func17, Try.ntmps17
    go_wp2_with (go_at_call 49; refine (between_calls _ _ _ _).mono ?_; rintro x w1 ⟨rfl, rfl⟩)
    go_ret
    exact ⟨rfl, (Below.refl _ _).alloc (Nat.le_refl _) _⟩
  · have e : okId ⟨r, n⟩ = wthn n 1 20 := by simp [okId, h1]
    rw [e]
    go_enter Try.func17, Try.ntmps17
    go_wp2_with (go_at_call 49; refine (between_calls _ _ _ _).mono ?_; rintro x w1 ⟨rfl, rfl⟩)
    go_ret
    exact ⟨rfl, (Below.refl _ _).alloc (Nat.le_refl _) _⟩
theorem isAhead_calls (a b : Id) (w : World) : Calls Try.prog 27 #[.agg #[.int .i64 a.r, .int .i64 a.n], .agg #[.int .i64 b.r, .int .i64 b.n]] w fun e w' => e = .returned (.bool (lessB a b)) ∧ Below w.heap.size w w' := by
  by_cases h1 : a.r < b.r
  · have e : lessB a b = true := by simp [lessB, h1]
    rw [e]
    go_enter Try.func27, Try.ntmps27
    go_wp2
    go_ret
    exact ⟨rfl, by (repeat (first | exact Below.refl _ _ | assumption | refine Below.drew ?_ | refine below_drewN ?_ | refine Below.alloc ?_ (by first | (simp; done) | (simp; omega) | omega) _ | refine Below.setCell ?_ (by first | (simp; done) | (simp; omega) | omega) _))⟩
  · cases h2 : (a.r == b.r)
    · have e : lessB a b = false := by
        have h3 : a.r ≠ b.r := by simpa using h2
        simp only [lessB, decide_eq_false_iff_not]; omega
      rw [e]
      go_enter Try.func27, Try.ntmps27
      go_wp2
      go_ret
      exact ⟨rfl, by (repeat (first | exact Below.refl _ _ | assumption | refine Below.drew ?_ | refine below_drewN ?_ | refine Below.alloc ?_ (by first | (simp; done) | (simp; omega) | omega) _ | refine Below.setCell ?_ (by first | (simp; done) | (simp; omega) | omega) _))⟩
    · have e : lessB a b = decide (a.n < b.n) := by
        have h3 : a.r = b.r := by simpa using h2
        simp only [lessB, decide_eq_decide]; omega
      rw [e]
      go_enter Try.func27, Try.ntmps27
      go_wp2
      go_ret
      exact ⟨rfl, by (repeat (first | exact Below.refl _ _ | assumption | refine Below.drew ?_ | refine below_drewN ?_ | refine Below.alloc ?_ (by first | (simp; done) | (simp; omega) | omega) _ | refine Below.setCell ?_ (by first | (simp; done) | (simp; omega) | omega) _))⟩
theorem lawId_calls (r n : Int) (w : World) : Calls Try.prog 50 #[.int .i64 r, .int .i64 n] w fun e w' => e = .returned (.agg #[.int .i64 r, .int .i64 n]) ∧ Below w.heap.size w w' := by
  go_enter Try.func50, Try.ntmps50
  go_wp2
  exact bodyPost_ret (v := .agg #[.int .i64 r, .int .i64 n]) (by simp [results, Try.results50, go_sem]) rfl ⟨rfl, by (repeat (first | exact Below.refl _ _ | assumption | refine Below.drew ?_ | refine below_drewN ?_ | refine Below.alloc ?_ (by first | (simp; done) | (simp; omega) | omega) _ | refine Below.setCell ?_ (by first | (simp; done) | (simp; omega) | omega) _))⟩

end Go.Proofs.Ythhkafjkhogbmaa
/- '==' and '!=' between vectors and between ids, as the walk meets them. -/
namespace Go.Proofs.Ythhkafjkhogbmaa
open Go.RowKit

theorem undInt : Try.prog.underlying 3 = some (.int .i64) := by kernel_rfl
theorem aggInt (w : World) : (isAgg 3).run Try.prog w = .ok false w := by kernel_rfl
theorem sizeInt (w : World) : (sizeOf 3).run Try.prog w = .ok 1 w := by kernel_rfl
theorem undVec : Try.prog.underlying 23 = some (.array 2 3) := by kernel_rfl
theorem eqlIn_V (w : World) (N : Nat) (a b c d : Int) : (Op.equalIn (N + 2) 23 (.agg #[.int .i64 a, .int .i64 b]) (.agg #[.int .i64 c, .int .i64 d])).run Try.prog w = .ok (a == c && b == d) w := by
  have e := fun w a b => run_equalIn_int (P := Try.prog) w N 3 .i64 .i64 a b undInt
  rw [Op.equalIn]
  simp only [Sem.run_bind, run_underlying undVec, Result.andThen_ok, sizeInt]
  simp [Std.Legacy.Range.forIn_eq_forIn_range', List.range', part, Sem.run_bind, Sem.run_ite, e]
  cases h1 : (a == c) <;> cases h2 : (b == d) <;> simp_all
theorem eqlV (w : World) (a b c d : Int) : (binOp .eql 23 (.agg #[.int .i64 a, .int .i64 b]) (.agg #[.int .i64 c, .int .i64 d])).run Try.prog w = .ok (.bool (a == c && b == d)) w := by
  rw [run_eql_struct, eqlIn_V w 9998]; rfl
theorem neqV (w : World) (a b c d : Int) : (binOp .neq 23 (.agg #[.int .i64 a, .int .i64 b]) (.agg #[.int .i64 c, .int .i64 d])).run Try.prog w = .ok (.bool (!(a == c && b == d))) w := by
  rw [run_neq_struct, eqlIn_V w 9998]; rfl
theorem eqgV (w : World) (op : BinOp) (x y : Operand) (a b c d : Int) : (eqGuard op 23 x y (.agg #[.int .i64 a, .int .i64 b]) (.agg #[.int .i64 c, .int .i64 d])).run Try.prog w = .ok () w :=
  run_eqGuard_agg w op 23 x y _ _ (by kernel_rfl)
theorem fldId : (Try.prog.fieldsOf 25).toList.map (fun f => (f.name, f.type, f.offset)) = [("Region", 3, 0), ("Number", 3, 1)] := by kernel_rfl
theorem eqlIn_Id (w : World) (N : Nat) (a b c d : Int) : (Op.equalIn (N + 2) 25 (.agg #[.int .i64 a, .int .i64 b]) (.agg #[.int .i64 c, .int .i64 d])).run Try.prog w = .ok (a == c && b == d) w := by
  have e := fun w a b => run_equalIn_int (P := Try.prog) w N 3 .i64 .i64 a b undInt
  rw [run_equalIn_struct w _ 25 _ _ (by kernel_rfl) (by kernel_rfl)]
  have h := fldId
  generalize (Try.prog.fieldsOf 25).toList = fs at h
  obtain ⟨f, fs, rfl⟩ : ∃ f r, fs = f :: r := by cases fs <;> simp_all
  obtain ⟨g, fs, rfl⟩ : ∃ f r, fs = f :: r := by cases fs <;> simp_all
  obtain rfl : fs = [] := by cases fs <;> simp_all
  simp only [List.map_cons, List.map_nil, List.cons.injEq, Prod.mk.injEq, and_true] at h
  obtain ⟨⟨h1, h2, h3⟩, h4, h5, h6⟩ := h
  simp [Op.eqFields, h1, h2, h3, h4, h5, h6, part, Sem.run_bind, Sem.run_ite, e]
  cases h1 : (a == c) <;> cases h2 : (b == d) <;> simp_all
theorem eqlId (w : World) (a b c d : Int) : (binOp .eql 25 (.agg #[.int .i64 a, .int .i64 b]) (.agg #[.int .i64 c, .int .i64 d])).run Try.prog w = .ok (.bool (a == c && b == d)) w := by
  rw [run_eql_struct, eqlIn_Id w 9998]; rfl
theorem neqId (w : World) (a b c d : Int) : (binOp .neq 25 (.agg #[.int .i64 a, .int .i64 b]) (.agg #[.int .i64 c, .int .i64 d])).run Try.prog w = .ok (.bool (!(a == c && b == d))) w := by
  rw [run_neq_struct, eqlIn_Id w 9998]; rfl
theorem eqgId (w : World) (op : BinOp) (x y : Operand) (a b c d : Int) : (eqGuard op 25 x y (.agg #[.int .i64 a, .int .i64 b]) (.agg #[.int .i64 c, .int .i64 d])).run Try.prog w = .ok () w :=
  run_eqGuard_agg w op 25 x y _ _ (by kernel_rfl)

end Go.Proofs.Ythhkafjkhogbmaa
/- Walks through what the reference says of entries: alike, right. -/
namespace Go.Proofs.Ythhkafjkhogbmaa
open Go.RowKit

theorem ids_ext {x y : List Id} (hl : x.length = y.length) (h : ∀ k, k < x.length → nth x k = nth y k) : x = y := by
  apply List.ext_getElem hl
  intro k h1 h2
  have := h k h1
  rwa [nth_eq x k h1, nth_eq y k h2] at this
theorem all_lt_succ {p : Nat → Prop} {k : Nat} (h : ∀ j, j < k → p j) (hk : p k) : ∀ j, j < k + 1 → p j := by
  intro j hj
  rcases Nat.lt_succ_iff_lt_or_eq.1 hj with h5 | h5
  · exact h j h5
  · rw [h5]; exact hk
theorem id_eq {a b : Id} (h1 : a.r = b.r) (h2 : a.n = b.n) : a = b := by cases a; cases b; simp_all

set_option maxHeartbeats 1000000 in
theorem sameIds_calls (S S' : Nat → Prop) (x y : List Id) (u v : Value) (w : World) (hx : IdsIn S w u x) (hy : IdsIn S' w v y) :
    Calls Try.prog 57 #[u, v] w fun e w' => e = .returned (.bool (decide (x = y))) ∧ Below w.heap.size w w' := by
  obtain ⟨a, ca, rfl, la, lca⟩ := hx.form
  obtain ⟨b, cb, rfl, lb, lcb⟩ := hy.form
  have HX := Lib.hid hx; clear hx
  have HY := Lib.hid hy; clear hy
  by_cases hn : x.length = y.length
  · rw [← hn] at HY ⊢
    have HN := Lib.hid hn; clear hn
    have q1 := @eqgId
    have q2 := @neqId
    go_enter Try.func57, Try.ntmps57
    go_wp2
    go_loopw [5] (fun i wr => ∃ k : Nat, k ≤ x.length ∧ i = .int .i64 k ∧ Hid (∀ j, j < k → nth x j = nth y j) ∧ Below w.heap.size w wr) (fun i _ => x.length - (intOf i).toNat)
    case atStart => exact ⟨0, by omega, rfl, fun j hj => by omega, Below.refl _ _⟩
    case round =>
      obtain ⟨k, hk, rfl, hj, hbe⟩ := hrel
      by_cases hlt : k < x.length
      · obtain ⟨b1, o1, rfl, -, hb1, h1, h2⟩ := (HX.out.below hbe).get hlt
        obtain ⟨b2, o2, rfl, -, hb2, h3, h4⟩ := (HY.out.below hbe).get (by rw [← HN.out]; exact hlt)
        go_wp2
        go_quiet (fail)
        go_wp2
        · go_ret
          refine ⟨ret_bool ?_, by (repeat (first | exact Below.refl _ _ | assumption | refine Below.drew ?_ | refine below_drewN ?_ | refine Below.alloc ?_ (by first | (simp; done) | (simp; omega) | omega) _ | refine Below.setCell ?_ (by first | (simp; done) | (simp; omega) | omega) _))⟩
          have h : (!(nth x k).r == (nth y k).r) = true ∨ (!(nth x k).n == (nth y k).n) = true := by assumption
          rw [eq_comm, decide_eq_false_iff_not]
          intro e
          rw [e] at h
          simp at h
        · have h : (!(nth x k).r == (nth y k).r) = false ∧ (!(nth x k).n == (nth y k).n) = false := by assumption
          have e : nth x k = nth y k := id_eq (by simpa using h.1) (by simpa using h.2)
          go_roundw
          case rel => exact ⟨k + 1, by omega, by go_num, all_lt_succ hj.out e, by (repeat (first | exact Below.refl _ _ | assumption | refine Below.drew ?_ | refine below_drewN ?_ | refine Below.alloc ?_ (by first | (simp; done) | (simp; omega) | omega) _ | refine Below.setCell ?_ (by first | (simp; done) | (simp; omega) | omega) _))⟩
          case measure => simp [intOf]; omega
      · go_wp2
        go_ret
        exact ⟨ret_bool (by rw [eq_comm, decide_eq_true_iff]; exact ids_ext HN.out (fun j hj' => hj.out j (by omega))), hbe⟩
  · have hd : (x.length == y.length) = false := by simpa using hn
    have HN : Hid (decide (x = y) = false) := by show _ = _; rw [decide_eq_false_iff_not]; intro e; exact hn (by rw [e])
    rw [HN.out]
    clear hn
    go_enter Try.func57, Try.ntmps57
    go_wp2
    go_ret
    exact ⟨rfl, Below.refl _ _⟩

theorem bytes_eqE (a b : ByteArray) : (a.toList == b.toList) = decide (a = b) := by
  rw [Bool.eq_iff_iff, beq_iff_eq, decide_eq_true_iff, ByteArray.toList_eq, ByteArray.toList_eq]
  constructor
  · intro h
    have h2 : a.data = b.data := Array.toList_inj.1 h
    cases a; cases b
    simp only at h2
    rw [h2]
  · intro h
    rw [h]
theorem sameEntry_calls (S S' : Nat → Prop) (x y : Entry) (u v : Value) (w : World) (hx : IdsIn S w u x.ls) (hy : IdsIn S' w v y.ls) :
    Calls Try.prog 29 #[.agg #[.int .i64 x.id.r, .int .i64 x.id.n, .int .i64 x.c, .string x.t, u], .agg #[.int .i64 y.id.r, .int .i64 y.id.n, .int .i64 y.c, .string y.t, v]] w fun e w' => e = .returned (.bool (decide (x = y))) ∧ Below w.heap.size w w' := by
  have q1 := @eqgId
  have q2 := @eqlId
  have HX := Lib.hid hx; clear hx
  have HY := Lib.hid hy; clear hy
  have q3 := bytes_eqE
  cases t1 : (x.id.r == y.id.r)
  · have H : Hid (decide (x = y) = false) := by
      show _ = _
      rw [decide_eq_false_iff_not]
      intro h; rw [h] at t1; simp at t1
    rw [H.out]
    go_enter Try.func29, Try.ntmps29
    go_wp2
    go_ret
    exact ⟨rfl, by (repeat (first | exact Below.refl _ _ | assumption | refine Below.drew ?_ | refine below_drewN ?_ | refine Below.alloc ?_ (by first | (simp; done) | (simp; omega) | omega) _ | refine Below.setCell ?_ (by first | (simp; done) | (simp; omega) | omega) _))⟩
  cases t2 : (x.id.n == y.id.n)
  · have H : Hid (decide (x = y) = false) := by
      show _ = _
      rw [decide_eq_false_iff_not]
      intro h; rw [h] at t2; simp at t2
    rw [H.out]
    go_enter Try.func29, Try.ntmps29
    go_wp2
    go_ret
    exact ⟨rfl, by (repeat (first | exact Below.refl _ _ | assumption | refine Below.drew ?_ | refine below_drewN ?_ | refine Below.alloc ?_ (by first | (simp; done) | (simp; omega) | omega) _ | refine Below.setCell ?_ (by first | (simp; done) | (simp; omega) | omega) _))⟩
  cases t3 : (x.c == y.c)
  · have H : Hid (decide (x = y) = false) := by
      show _ = _
      rw [decide_eq_false_iff_not]
      intro h; rw [h] at t3; simp at t3
    rw [H.out]
    go_enter Try.func29, Try.ntmps29
    go_wp2
    go_ret
    exact ⟨rfl, by (repeat (first | exact Below.refl _ _ | assumption | refine Below.drew ?_ | refine below_drewN ?_ | refine Below.alloc ?_ (by first | (simp; done) | (simp; omega) | omega) _ | refine Below.setCell ?_ (by first | (simp; done) | (simp; omega) | omega) _))⟩
  cases t4 : decide (x.t = y.t)
  · have H : Hid (decide (x = y) = false) := by
      show _ = _
      rw [decide_eq_false_iff_not]
      intro h; rw [h] at t4; simp at t4
    rw [H.out]
    go_enter Try.func29, Try.ntmps29
    go_wp2
    go_ret
    exact ⟨rfl, by (repeat (first | exact Below.refl _ _ | assumption | refine Below.drew ?_ | refine below_drewN ?_ | refine Below.alloc ?_ (by first | (simp; done) | (simp; omega) | omega) _ | refine Below.setCell ?_ (by first | (simp; done) | (simp; omega) | omega) _))⟩
  have H : Hid (decide (x = y) = decide (x.ls = y.ls)) := by
    show _ = _
    rw [decide_eq_decide, Entry.eq_iff, Id.eq_iff]
    exact ⟨fun h => h.2.2.2, fun h => ⟨⟨by simpa using t1, by simpa using t2⟩, by simpa using t3, by simpa using t4, h⟩⟩
  rw [H.out]
  go_enter Try.func29, Try.ntmps29
  go_wp2_with (go_at_call 57; refine (sameIds_calls S S' _ _ _ _ _ (HX.out.below (by (repeat (first | exact Below.refl _ _ | assumption | refine Below.drew ?_ | refine below_drewN ?_ | refine Below.alloc ?_ (by first | (simp; done) | (simp; omega) | omega) _ | refine Below.setCell ?_ (by first | (simp; done) | (simp; omega) | omega) _)))) (HY.out.below (by (repeat (first | exact Below.refl _ _ | assumption | refine Below.drew ?_ | refine below_drewN ?_ | refine Below.alloc ?_ (by first | (simp; done) | (simp; omega) | omega) _ | refine Below.setCell ?_ (by first | (simp; done) | (simp; omega) | omega) _))))).mono ?_; rintro x w1 ⟨rfl, hb⟩; (have B := below_after (w := w) (by (repeat (first | exact Below.refl _ _ | assumption | refine Below.drew ?_ | refine below_drewN ?_ | refine Below.alloc ?_ (by first | (simp; done) | (simp; omega) | omega) _ | refine Below.setCell ?_ (by first | (simp; done) | (simp; omega) | omega) _))) hb; obtain ⟨hc, hf⟩ := bcell hb; have hz := hb.size; (try simp only [World.size_alloc] at hz); clear hb); (try have zz0 : w.heap.size < w1.heap.size := by omega); (try have zz1 : w.heap.size + 1 < w1.heap.size := by omega); (try have zz2 : w.heap.size + 1 + 1 < w1.heap.size := by omega); (try have zz3 : w.heap.size + 1 + 1 + 1 < w1.heap.size := by omega))
  go_ret
  exact ⟨rfl, B⟩

set_option maxHeartbeats 4000000 in
theorem checkEntry_calls (S : Nat → Prop) (e : Entry) (lv : Value) (w : World) (hl : IdsIn S w lv e.ls) (ht : e.t.size ≤ maxLen) :
    Calls Try.prog 22 #[.agg #[.int .i64 e.id.r, .int .i64 e.id.n, .int .i64 e.c, .string e.t, lv]] w fun x w' => x = .returned (.int .i64 (checkEntry e)) ∧ Below w.heap.size w w' := by
  obtain ⟨a, c, rfl, hc1, hc2⟩ := hl.form
  have HL := Lib.hid hl; clear hl
  unfold maxLen at ht
  cases h1 : okId e.id
  · have H : Hid (checkEntry e = 3) := by show _ = _; rw [checkEntry, if_pos h1]
    go_enter Try.func22, Try.ntmps22
    go_wp2_with (first | (go_at_call 17; refine (isId_calls _ _ _).mono ?_; rintro x w1 ⟨rfl, hb⟩; (have B := below_after (w := w) (by (repeat (first | exact Below.refl _ _ | assumption | refine Below.drew ?_ | refine below_drewN ?_ | refine Below.alloc ?_ (by first | (simp; done) | (simp; omega) | omega) _ | refine Below.setCell ?_ (by first | (simp; done) | (simp; omega) | omega) _))) hb; obtain ⟨hc, hf⟩ := bcell hb; have hz := hb.size; (try simp only [World.size_alloc] at hz); clear hb); (try have zz0 : w.heap.size < w1.heap.size := by omega); (try have zz1 : w.heap.size + 1 < w1.heap.size := by omega); (try have zz2 : w.heap.size + 1 + 1 < w1.heap.size := by omega); (try have zz3 : w.heap.size + 1 + 1 + 1 < w1.heap.size := by omega)) | (go_at_call 49; refine (between_calls _ _ _ _).mono ?_; rintro x w2 ⟨rfl, rfl⟩))
    go_ret
    exact ⟨ret_int H.out.symm, B⟩
  cases h2 : wthn e.c 1 7
  · have H : Hid (checkEntry e = 3) := by show _ = _; rw [checkEntry, if_neg (by simp [h1]), if_pos h2]
    go_enter Try.func22, Try.ntmps22
    go_wp2_with (first | (go_at_call 17; refine (isId_calls _ _ _).mono ?_; rintro x w1 ⟨rfl, hb⟩; (have B := below_after (w := w) (by (repeat (first | exact Below.refl _ _ | assumption | refine Below.drew ?_ | refine below_drewN ?_ | refine Below.alloc ?_ (by first | (simp; done) | (simp; omega) | omega) _ | refine Below.setCell ?_ (by first | (simp; done) | (simp; omega) | omega) _))) hb; obtain ⟨hc, hf⟩ := bcell hb; have hz := hb.size; (try simp only [World.size_alloc] at hz); clear hb); (try have zz0 : w.heap.size < w1.heap.size := by omega); (try have zz1 : w.heap.size + 1 < w1.heap.size := by omega); (try have zz2 : w.heap.size + 1 + 1 < w1.heap.size := by omega); (try have zz3 : w.heap.size + 1 + 1 + 1 < w1.heap.size := by omega)) | (go_at_call 49; refine (between_calls _ _ _ _).mono ?_; rintro x w2 ⟨rfl, rfl⟩))
    go_ret
    exact ⟨ret_int H.out.symm, B⟩
  have g1 : (okId e.id = false) = False := by simp [h1]
  have g2 : (wthn e.c 1 7 = false) = False := by simp [h2]
  by_cases h3 : 12 < e.t.size
  · have H : Hid (checkEntry e = 2) := by show _ = _; simp only [checkEntry, g1, g2, if_false, if_pos h3]
    clear g1 g2
    go_enter Try.func22, Try.ntmps22
    go_wp2_with (first | (go_at_call 17; refine (isId_calls _ _ _).mono ?_; rintro x w1 ⟨rfl, hb⟩; (have B := below_after (w := w) (by (repeat (first | exact Below.refl _ _ | assumption | refine Below.drew ?_ | refine below_drewN ?_ | refine Below.alloc ?_ (by first | (simp; done) | (simp; omega) | omega) _ | refine Below.setCell ?_ (by first | (simp; done) | (simp; omega) | omega) _))) hb; obtain ⟨hc, hf⟩ := bcell hb; have hz := hb.size; (try simp only [World.size_alloc] at hz); clear hb); (try have zz0 : w.heap.size < w1.heap.size := by omega); (try have zz1 : w.heap.size + 1 < w1.heap.size := by omega); (try have zz2 : w.heap.size + 1 + 1 < w1.heap.size := by omega); (try have zz3 : w.heap.size + 1 + 1 + 1 < w1.heap.size := by omega)) | (go_at_call 49; refine (between_calls _ _ _ _).mono ?_; rintro x w2 ⟨rfl, rfl⟩))
    go_ret
    exact ⟨ret_int H.out.symm, B⟩
  by_cases h4 : 6 < e.ls.length
  · have H : Hid (checkEntry e = 2) := by show _ = _; simp only [checkEntry, g1, g2, if_false, if_neg h3, if_pos h4]
    clear g1 g2
    go_enter Try.func22, Try.ntmps22
    go_wp2_with (first | (go_at_call 17; refine (isId_calls _ _ _).mono ?_; rintro x w1 ⟨rfl, hb⟩; (have B := below_after (w := w) (by (repeat (first | exact Below.refl _ _ | assumption | refine Below.drew ?_ | refine below_drewN ?_ | refine Below.alloc ?_ (by first | (simp; done) | (simp; omega) | omega) _ | refine Below.setCell ?_ (by first | (simp; done) | (simp; omega) | omega) _))) hb; obtain ⟨hc, hf⟩ := bcell hb; have hz := hb.size; (try simp only [World.size_alloc] at hz); clear hb); (try have zz0 : w.heap.size < w1.heap.size := by omega); (try have zz1 : w.heap.size + 1 < w1.heap.size := by omega); (try have zz2 : w.heap.size + 1 + 1 < w1.heap.size := by omega); (try have zz3 : w.heap.size + 1 + 1 + 1 < w1.heap.size := by omega)) | (go_at_call 49; refine (between_calls _ _ _ _).mono ?_; rintro x w2 ⟨rfl, rfl⟩))
    go_ret
    exact ⟨ret_int H.out.symm, B⟩
  have H : Hid (checkEntry e = firstNZ (linkErr e.id e.ls) e.ls.length) := by show _ = _; simp only [checkEntry, g1, g2, if_false, if_neg h3, if_neg h4]
  clear g1 g2
  go_enter Try.func22, Try.ntmps22
  go_wp2_with (first | (go_at_call 17; refine (isId_calls _ _ _).mono ?_; rintro x w1 ⟨rfl, hb⟩; (have B := below_after (w := w) (by (repeat (first | exact Below.refl _ _ | assumption | refine Below.drew ?_ | refine below_drewN ?_ | refine Below.alloc ?_ (by first | (simp; done) | (simp; omega) | omega) _ | refine Below.setCell ?_ (by first | (simp; done) | (simp; omega) | omega) _))) hb; obtain ⟨hc, hf⟩ := bcell hb; have hz := hb.size; (try simp only [World.size_alloc] at hz); clear hb); (try have zz0 : w.heap.size < w1.heap.size := by omega); (try have zz1 : w.heap.size + 1 < w1.heap.size := by omega); (try have zz2 : w.heap.size + 1 + 1 < w1.heap.size := by omega); (try have zz3 : w.heap.size + 1 + 1 + 1 < w1.heap.size := by omega)) | (go_at_call 49; refine (between_calls _ _ _ _).mono ?_; rintro x w2 ⟨rfl, rfl⟩))
  go_loopw [3] (fun i wr => ∃ k : Nat, k ≤ e.ls.length ∧ i = .int .i64 k ∧ Hid (firstNZ (linkErr e.id e.ls) k = 0) ∧ Below w1.heap.size w1 wr) (fun i _ => e.ls.length - (intOf i).toNat)
  case atStart => exact ⟨0, by omega, rfl, rfl, Below.refl _ _⟩
  case round =>
    obtain ⟨k, hk, rfl, hz0, hbe⟩ := hrel
    by_cases hlt : k < e.ls.length
    · obtain ⟨b, o, rfl, hS, hbs, c1, c2⟩ := ((HL.out.below B).below hbe).get hlt
      obtain ⟨hcr, hfr⟩ := bcell hbe
      have hzr := hbe.size
      have z4 : w.heap.size < wr.heap.size := by omega
      cases h5 : okId (nth e.ls k)
      · have HE : Hid (linkErr e.id e.ls k = 3) := by show _ = _; rw [linkErr, if_pos h5]
        go_wp2_with (go_at_call 17; refine (isId_calls _ _ _).mono ?_; rintro x w3 ⟨rfl, hb⟩)
        go_ret
        exact ⟨ret_int (by rw [H.out, firstNZ_hit hz0.out (by rw [HE.out]; decide) hlt, HE.out]), B.trans (below_after (by (repeat (first | exact Below.refl _ _ | assumption | refine Below.drew ?_ | refine below_drewN ?_ | refine Below.alloc ?_ (by first | (simp; done) | (simp; omega) | omega) _ | refine Below.setCell ?_ (by first | (simp; done) | (simp; omega) | omega) _))) hb |>.mono B.size)⟩
      · have prev : 0 < k → wr.cell? ⟨b, o + (k - 1) * 2, none⟩ = some (.int .i64 (nth e.ls (k - 1)).r) ∧ wr.cell? ⟨b, o + (k - 1) * 2 + 1, none⟩ = some (.int .i64 (nth e.ls (k - 1)).n) := by
          intro hk0
          obtain ⟨b', o', hb', -, -, c3, c4⟩ := ((HL.out.below B).below hbe).get (k := k - 1) (by omega)
          obtain ⟨rfl, rfl⟩ : b = b' ∧ o = o' := by simpa using hb'
          exact ⟨c3, c4⟩
        cases hd : decide (0 < k)
        · clear prev
          have hk0 : k = 0 := by have := of_decide_eq_false hd; omega
          cases hr : ((nth e.ls k).r == e.id.r)
          · have HE : Hid (linkErr e.id e.ls k = 0) := linkErr_ok h5 (.inl hk0) (by rintro ⟨h, -⟩; simp [h] at hr)
            clear hk0
            go_wp2_with (go_at_call 17; refine (isId_calls _ _ _).mono ?_; rintro x w3 ⟨rfl, hb⟩; have B3 := below_after (w := w1) (by (repeat (first | exact Below.refl _ _ | assumption | refine Below.drew ?_ | refine below_drewN ?_ | refine Below.alloc ?_ (by first | (simp; done) | (simp; omega) | omega) _ | refine Below.setCell ?_ (by first | (simp; done) | (simp; omega) | omega) _))) hb; obtain ⟨hc3, hf3⟩ := bcell hb; have hz3 := hb.size; clear hb)
            have z1 : w.heap.size < w3.heap.size := by omega
            have z2 : b < w3.heap.size := by omega
            have hg := grow_cell w3
            refine wp_region_quiet_below (by kernel_rfl) (by kernel_rfl) ?_
            repeat (go_big_quiet_step ((go_at_call 27; exact Calls.regrown_of (isAhead_calls _ _ _))))
            (refine wpQuiet_nil ?_; intro wq hwq; have hbq := below_of_class hwq; clear hwq hg)
            obtain ⟨hcq, hfq⟩ := bcell hbq
            have BQ : Below w.heap.size w wq := B.trans ((B3.trans (hbq.mono B3.size)).mono B.size)
            have BR : Below w1.heap.size w1 wq := B3.trans (hbq.mono B3.size)
            go_wp2
            go_roundw
            case rel => exact ⟨k + 1, by omega, by go_num, firstNZ_succ hz0.out HE.out, BR⟩
            case measure => simp [intOf]; omega
          · have hr' : (nth e.ls k).r = e.id.r := by simpa using hr
            by_cases hn : e.id.n ≤ (nth e.ls k).n
            · have HE : Hid (linkErr e.id e.ls k = 4) := linkErr_own h5 hr' hn
              clear hk0 hr'
              go_wp2_with (go_at_call 17; refine (isId_calls _ _ _).mono ?_; rintro x w3 ⟨rfl, hb⟩; have B3 := below_after (w := w1) (by (repeat (first | exact Below.refl _ _ | assumption | refine Below.drew ?_ | refine below_drewN ?_ | refine Below.alloc ?_ (by first | (simp; done) | (simp; omega) | omega) _ | refine Below.setCell ?_ (by first | (simp; done) | (simp; omega) | omega) _))) hb; obtain ⟨hc3, hf3⟩ := bcell hb; have hz3 := hb.size; clear hb)
              have z1 : w.heap.size < w3.heap.size := by omega
              have z2 : b < w3.heap.size := by omega
              have hg := grow_cell w3
              refine wp_region_quiet_below (by kernel_rfl) (by kernel_rfl) ?_
              repeat (go_big_quiet_step ((go_at_call 27; exact Calls.regrown_of (isAhead_calls _ _ _))))
              (refine wpQuiet_nil ?_; intro wq hwq; have hbq := below_of_class hwq; clear hwq hg)
              obtain ⟨hcq, hfq⟩ := bcell hbq
              have BQ : Below w.heap.size w wq := B.trans ((B3.trans (hbq.mono B3.size)).mono B.size)
              have BR : Below w1.heap.size w1 wq := B3.trans (hbq.mono B3.size)
              go_wp2
              go_ret
              exact ⟨ret_int (by rw [H.out, firstNZ_hit hz0.out (by rw [HE.out]; decide) hlt, HE.out]), BQ⟩
            · have HE : Hid (linkErr e.id e.ls k = 0) := linkErr_ok h5 (.inl hk0) (by rintro ⟨-, h⟩; exact hn h)
              clear hk0 hr'
              go_wp2_with (go_at_call 17; refine (isId_calls _ _ _).mono ?_; rintro x w3 ⟨rfl, hb⟩; have B3 := below_after (w := w1) (by (repeat (first | exact Below.refl _ _ | assumption | refine Below.drew ?_ | refine below_drewN ?_ | refine Below.alloc ?_ (by first | (simp; done) | (simp; omega) | omega) _ | refine Below.setCell ?_ (by first | (simp; done) | (simp; omega) | omega) _))) hb; obtain ⟨hc3, hf3⟩ := bcell hb; have hz3 := hb.size; clear hb)
              have z1 : w.heap.size < w3.heap.size := by omega
              have z2 : b < w3.heap.size := by omega
              have hg := grow_cell w3
              refine wp_region_quiet_below (by kernel_rfl) (by kernel_rfl) ?_
              repeat (go_big_quiet_step ((go_at_call 27; exact Calls.regrown_of (isAhead_calls _ _ _))))
              (refine wpQuiet_nil ?_; intro wq hwq; have hbq := below_of_class hwq; clear hwq hg)
              obtain ⟨hcq, hfq⟩ := bcell hbq
              have BQ : Below w.heap.size w wq := B.trans ((B3.trans (hbq.mono B3.size)).mono B.size)
              have BR : Below w1.heap.size w1 wq := B3.trans (hbq.mono B3.size)
              go_wp2
              go_roundw
              case rel => exact ⟨k + 1, by omega, by go_num, firstNZ_succ hz0.out HE.out, BR⟩
              case measure => simp [intOf]; omega
        · have hk0 : 0 < k := of_decide_eq_true hd
          obtain ⟨c3, c4⟩ := prev hk0
          clear prev
          cases hlb : lessB (nth e.ls (k - 1)) (nth e.ls k)
          · have HE : Hid (linkErr e.id e.ls k = 4) := by show _ = _; rw [linkErr, if_neg (by simp [h5]), if_pos (by simp [hk0, hlb])]
            go_wp2_with (go_at_call 17; refine (isId_calls _ _ _).mono ?_; rintro x w3 ⟨rfl, hb⟩; have B3 := below_after (w := w1) (by (repeat (first | exact Below.refl _ _ | assumption | refine Below.drew ?_ | refine below_drewN ?_ | refine Below.alloc ?_ (by first | (simp; done) | (simp; omega) | omega) _ | refine Below.setCell ?_ (by first | (simp; done) | (simp; omega) | omega) _))) hb; obtain ⟨hc3, hf3⟩ := bcell hb; have hz3 := hb.size; clear hb)
            have z1 : w.heap.size < w3.heap.size := by omega
            have z2 : b < w3.heap.size := by omega
            have hg := grow_cell w3
            refine wp_region_quiet_below (by kernel_rfl) (by kernel_rfl) ?_
            repeat (go_big_quiet_step ((go_at_call 27; exact Calls.regrown_of (isAhead_calls _ _ _))))
            (refine wpQuiet_nil ?_; intro wq hwq; have hbq := below_of_class hwq; clear hwq hg)
            obtain ⟨hcq, hfq⟩ := bcell hbq
            have BQ : Below w.heap.size w wq := B.trans ((B3.trans (hbq.mono B3.size)).mono B.size)
            have BR : Below w1.heap.size w1 wq := B3.trans (hbq.mono B3.size)
            go_wp2
            go_ret
            exact ⟨ret_int (by rw [H.out, firstNZ_hit hz0.out (by rw [HE.out]; decide) hlt, HE.out]), BQ⟩
          · have hlo := ordI_lt.2 hlb
            cases hr : ((nth e.ls k).r == e.id.r)
            · have HE : Hid (linkErr e.id e.ls k = 0) := linkErr_ok h5 (.inr hlo) (by rintro ⟨h, -⟩; simp [h] at hr)
              clear hlo
              go_wp2_with (go_at_call 17; refine (isId_calls _ _ _).mono ?_; rintro x w3 ⟨rfl, hb⟩; have B3 := below_after (w := w1) (by (repeat (first | exact Below.refl _ _ | assumption | refine Below.drew ?_ | refine below_drewN ?_ | refine Below.alloc ?_ (by first | (simp; done) | (simp; omega) | omega) _ | refine Below.setCell ?_ (by first | (simp; done) | (simp; omega) | omega) _))) hb; obtain ⟨hc3, hf3⟩ := bcell hb; have hz3 := hb.size; clear hb)
              have z1 : w.heap.size < w3.heap.size := by omega
              have z2 : b < w3.heap.size := by omega
              have hg := grow_cell w3
              refine wp_region_quiet_below (by kernel_rfl) (by kernel_rfl) ?_
              repeat (go_big_quiet_step ((go_at_call 27; exact Calls.regrown_of (isAhead_calls _ _ _))))
              (refine wpQuiet_nil ?_; intro wq hwq; have hbq := below_of_class hwq; clear hwq hg)
              obtain ⟨hcq, hfq⟩ := bcell hbq
              have BQ : Below w.heap.size w wq := B.trans ((B3.trans (hbq.mono B3.size)).mono B.size)
              have BR : Below w1.heap.size w1 wq := B3.trans (hbq.mono B3.size)
              go_wp2
              go_roundw
              case rel => exact ⟨k + 1, by omega, by go_num, firstNZ_succ hz0.out HE.out, BR⟩
              case measure => simp [intOf]; omega
            · have hr' : (nth e.ls k).r = e.id.r := by simpa using hr
              by_cases hn : e.id.n ≤ (nth e.ls k).n
              · have HE : Hid (linkErr e.id e.ls k = 4) := linkErr_own h5 hr' hn
                clear hlo hr'
                go_wp2_with (go_at_call 17; refine (isId_calls _ _ _).mono ?_; rintro x w3 ⟨rfl, hb⟩; have B3 := below_after (w := w1) (by (repeat (first | exact Below.refl _ _ | assumption | refine Below.drew ?_ | refine below_drewN ?_ | refine Below.alloc ?_ (by first | (simp; done) | (simp; omega) | omega) _ | refine Below.setCell ?_ (by first | (simp; done) | (simp; omega) | omega) _))) hb; obtain ⟨hc3, hf3⟩ := bcell hb; have hz3 := hb.size; clear hb)
                have z1 : w.heap.size < w3.heap.size := by omega
                have z2 : b < w3.heap.size := by omega
                have hg := grow_cell w3
                refine wp_region_quiet_below (by kernel_rfl) (by kernel_rfl) ?_
                repeat (go_big_quiet_step ((go_at_call 27; exact Calls.regrown_of (isAhead_calls _ _ _))))
                (refine wpQuiet_nil ?_; intro wq hwq; have hbq := below_of_class hwq; clear hwq hg)
                obtain ⟨hcq, hfq⟩ := bcell hbq
                have BQ : Below w.heap.size w wq := B.trans ((B3.trans (hbq.mono B3.size)).mono B.size)
                have BR : Below w1.heap.size w1 wq := B3.trans (hbq.mono B3.size)
                go_wp2
                go_ret
                exact ⟨ret_int (by rw [H.out, firstNZ_hit hz0.out (by rw [HE.out]; decide) hlt, HE.out]), BQ⟩
              · have HE : Hid (linkErr e.id e.ls k = 0) := linkErr_ok h5 (.inr hlo) (by rintro ⟨-, h⟩; exact hn h)
                clear hlo hr'
                go_wp2_with (go_at_call 17; refine (isId_calls _ _ _).mono ?_; rintro x w3 ⟨rfl, hb⟩; have B3 := below_after (w := w1) (by (repeat (first | exact Below.refl _ _ | assumption | refine Below.drew ?_ | refine below_drewN ?_ | refine Below.alloc ?_ (by first | (simp; done) | (simp; omega) | omega) _ | refine Below.setCell ?_ (by first | (simp; done) | (simp; omega) | omega) _))) hb; obtain ⟨hc3, hf3⟩ := bcell hb; have hz3 := hb.size; clear hb)
                have z1 : w.heap.size < w3.heap.size := by omega
                have z2 : b < w3.heap.size := by omega
                have hg := grow_cell w3
                refine wp_region_quiet_below (by kernel_rfl) (by kernel_rfl) ?_
                repeat (go_big_quiet_step ((go_at_call 27; exact Calls.regrown_of (isAhead_calls _ _ _))))
                (refine wpQuiet_nil ?_; intro wq hwq; have hbq := below_of_class hwq; clear hwq hg)
                obtain ⟨hcq, hfq⟩ := bcell hbq
                have BQ : Below w.heap.size w wq := B.trans ((B3.trans (hbq.mono B3.size)).mono B.size)
                have BR : Below w1.heap.size w1 wq := B3.trans (hbq.mono B3.size)
                go_wp2
                go_roundw
                case rel => exact ⟨k + 1, by omega, by go_num, firstNZ_succ hz0.out HE.out, BR⟩
                case measure => simp [intOf]; omega
    · obtain ⟨hcr, hfr⟩ := bcell hbe
      go_wp2
      go_ret
      exact ⟨ret_int (by rw [H.out, show e.ls.length = k from by omega, hz0.out]), B.trans (hbe.mono B.size)⟩

end Go.Proofs.Ythhkafjkhogbmaa
/- Walks through the functions that write an entry as bytes. -/
namespace Go.Proofs.Ythhkafjkhogbmaa
set_option linter.unusedSimpArgs false
set_option linter.unusedVariables false
open Go.RowKit

theorem undU8s : Try.prog.underlying 95 = some (.slice 5) := by kernel_rfl
theorem undU8 : Try.prog.underlying 5 = some (.int .u8) := by kernel_rfl
theorem undStr : Try.prog.underlying 9 = some .string := by kernel_rfl
theorem conv1 (w : World) (m : Int) : (convert 95 9 (.slice (some ⟨w.heap.size, 0, none⟩) 1 1)).run Try.prog (w.alloc (.cells #[.int .u8 m] 5)) = .ok (.string ⟨#[UInt8.ofNat m.toNat]⟩) (w.alloc (.cells #[.int .u8 m] 5)) := by
  have h : ∀ i, i < 1 → (w.alloc (.cells #[.int .u8 m] 5)).cell? ⟨w.heap.size, 0 + i, none⟩ = some (.int .u8 ([m].getD i 0)) := by
    intro i hi
    obtain rfl : i = 0 := by omega
    simp [go_sem]
  rw [run_convert_bytes_arg (P := Try.prog) _ 95 5 undU8s undU8 w.heap.size 0 1 1 [m] rfl h 9 undStr]
  rfl
set_option maxRecDepth 100000 in
theorem oneByte_calls (n : Int) (w : World) : Calls Try.prog 53 #[.int .i64 n] w fun e w' => e = .returned (.string (BA [byt n])) ∧ Below w.heap.size w w' := by
  have hcv := conv1
  go_enter Try.func53, Try.ntmps53
  go_wp2
  go_ret
  exact ⟨rfl, by (repeat (first | exact Below.refl _ _ | assumption | refine Below.drew ?_ | refine below_drewN ?_ | refine Below.alloc ?_ (by first | (simp; done) | (simp; omega) | omega) _ | refine Below.setCell ?_ (by first | (simp; done) | (simp; omega) | omega) _))⟩

set_option maxHeartbeats 1000000 in
set_option maxRecDepth 100000 in
theorem entryBytes_calls (S : Nat → Prop) (e : Entry) (lv : Value) (w : World) (hl : IdsIn S w lv e.ls) (ht : e.t.size ≤ 12) (h6 : e.ls.length ≤ 6) :
    Calls Try.prog 23 #[.agg #[.int .i64 e.id.r, .int .i64 e.id.n, .int .i64 e.c, .string e.t, lv]] w fun x w' => x = .returned (.string (BA (encL e))) ∧ Below w.heap.size w w' := by
  obtain ⟨a, c, rfl, hc1, hc2⟩ := hl.form
  have HL := Lib.hid hl; clear hl
  have a1 := BA_app
  have a2 := BA_size
  go_enter Try.func23, Try.ntmps23
  go_wp2_with fail
  have hg := grow_cell
  refine wp_region_quiet_below (by kernel_rfl) (by kernel_rfl) ?_
  repeat (go_big_quiet_step ((go_at_call 53; exact Calls.regrown_of (oneByte_calls _ _))))
  (refine wpQuiet_nil ?_; intro wq hwq; have hbq := below_of_class hwq; clear hwq hg)
  have B := below_after (w := w) (by (repeat (first | exact Below.refl _ _ | assumption | refine Below.drew ?_ | refine below_drewN ?_ | refine Below.alloc ?_ (by first | (simp; done) | (simp; omega) | omega) _ | refine Below.setCell ?_ (by first | (simp; done) | (simp; omega) | omega) _))) hbq
  have zq := hbq.size
  simp only [World.size_alloc] at zq
  obtain ⟨hcq, hfq⟩ := bcell hbq
  have z0 : w.heap.size < wq.heap.size := by omega
  go_wp2_with fail
  go_loopw [3, 4] (fun s i wr => ∃ k : Nat, k ≤ e.ls.length ∧ i = .int .i64 k ∧ s = .string (BA (preL e k)) ∧ Below wq.heap.size wq wr) (fun _ i _ => e.ls.length - (intOf i).toNat)
  case atStart => exact ⟨0, by omega, rfl, rfl, Below.refl _ _⟩
  case round =>
    obtain ⟨k, hk, rfl, rfl, hbe⟩ := hrel
    obtain ⟨hcr, hfr⟩ := bcell hbe
    have z4 : w.heap.size < wr.heap.size := by have := hbe.size; omega
    have hp : (preL e k).length ≤ 16 := by have := preL_len e k hk; omega
    by_cases hlt : k < e.ls.length
    · have hq1 : ¬ 9223372036854775807 < (preL e k).length + 2 := by omega
      have hq2 : ¬ 9223372036854775805 < (preL e k).length := by omega
      have HS := Lib.hid (preL_succ e k hlt)
      obtain ⟨b, o, rfl, hS, hbs, c1, c2⟩ := ((HL.out.below B).below hbe).get hlt
      go_wp2_with fail
      have hg := grow_cell wr
      refine wp_region_quiet_below (by kernel_rfl) (by kernel_rfl) ?_
      repeat (go_big_quiet_step ((go_at_call 53; exact Calls.regrown_of (oneByte_calls _ _))))
      (refine wpQuiet_nil ?_; intro wq hwq; have hbq := below_of_class hwq; clear hwq hg)
      have BR := hbe.trans (hbq.mono hbe.size)
      go_wp2
      go_roundw
      case rel => exact ⟨k + 1, by omega, by go_num, by rw [HS.out]; rfl, BR⟩
      case measure => simp [intOf]; omega
    · have hq1 : ¬ 9223372036854775807 < (preL e k).length + 1 := by omega
      have hq2 : ¬ 9223372036854775806 < (preL e k).length := by omega
      have hq3 : ¬ 9223372036854775807 < (preL e k).length + 1 + e.t.size := by omega
      have hk2 : k = e.ls.length := by omega
      have HE : Hid (BA (preL e k ++ [byt e.t.size]) ++ e.t = BA (encL e)) := by
        show _ = _
        rw [BA_app_t, hk2]
        simp [preL, encL]
      clear hk2
      go_wp2_with fail
      have hg := grow_cell wr
      refine wp_region_quiet_below (by kernel_rfl) (by kernel_rfl) ?_
      repeat (go_big_quiet_step ((go_at_call 53; exact Calls.regrown_of (oneByte_calls _ _))))
      (refine wpQuiet_nil ?_; intro wq hwq; have hbq := below_of_class hwq; clear hwq hg)
      go_wp2
      go_ret
      exact ⟨congrArg (fun s => Ending.returned (.string s)) HE.out, B.trans ((hbe.trans (hbq.mono hbe.size)).mono B.size)⟩

end Go.Proofs.Ythhkafjkhogbmaa
/- The walk through the program's function that writes an entry as bytes. -/
namespace Go.Proofs.Ythhkafjkhogbmaa
set_option linter.unusedSimpArgs false
set_option linter.unusedVariables false
open Go.RowKit

/-- bytes as cells -/
def byteCells (l : List UInt8) : List Value := l.map fun b => .int .u8 (b.toNat : Int)
theorem byt_toNat (n : Int) : ((byt n).toNat : Int) = n % 256 := by
  have h1 : 0 ≤ n % 256 := Int.emod_nonneg _ (by decide)
  have h2 : n % 256 < 256 := Int.emod_lt_of_pos _ (by decide)
  unfold byt
  rw [UInt8.toNat_ofNat']
  omega
theorem infoU8 : (Try.prog.info? 5).map (fun i => (i.zero, i.size, i.bytes)) = some (some (.int .u8 0), 1, 1) := by kernel_rfl

/-- what holds while bytes are put: the argument's block, the bytes, what lies below -/
def PutRel (w : World) (blk bw : Nat) (cs : Array Value) (ys : List UInt8) (wr : World) : Prop :=
  wr.heap[blk]? = some (.cells cs 3 (0, 0)) ∧ (∃ bv, wr.cell? ⟨bw, 0, none⟩ = some bv ∧ wr.frozen? ⟨bw, 0, none⟩ = false ∧ wr.ownsRow (bw + 1) 5 1 bv ys.length (byteCells ys)) ∧ Below bw w wr

set_option maxHeartbeats 1000000 in
set_option maxRecDepth 100000 in
theorem put_calls (ns : List Int) (blk bw c : Nat) (bv : Value) (xs : List UInt8) (cs : Array Value) (w : World)
    (hblk : w.heap[blk]? = some (.cells cs 3 (0, 0))) (hcs : ∀ k, k < ns.length → cs[k]? = some (.int .i64 (nth ns k))) (hbb : blk ≠ bw)
    (hb : w.cell? ⟨bw, 0, none⟩ = some bv) (hf : w.frozen? ⟨bw, 0, none⟩ = false) (hown : w.ownsRow (bw + 1) 5 1 bv xs.length (byteCells xs)) (hsz : xs.length + ns.length ≤ 1000) (hbw : bw < w.heap.size) :
    Calls Try.prog 66 #[.slice (some ⟨blk, 0, none⟩) ns.length c, .pointer (some ⟨bw, 0, none⟩)] w
      fun e w' => e = .returned (.tuple #[]) ∧ ∃ bv', w'.cell? ⟨bw, 0, none⟩ = some bv' ∧ w'.frozen? ⟨bw, 0, none⟩ = false ∧ w'.ownsRow (bw + 1) 5 1 bv' (xs ++ ns.map byt).length (byteCells (xs ++ ns.map byt)) ∧ Below bw w w' := by
  obtain ⟨i0, hi, hz0, hz1, hz2⟩ := info_parts infoU8
  go_enter Try.func66, Try.ntmps66
  go_wp2
  have hml : ns.length ≤ 1000 := by omega
  go_loopw [7] (fun i wr => ∃ k : Nat, k ≤ ns.length ∧ i = .int .i64 k ∧ PutRel w blk bw cs (xs ++ (ns.take k).map byt) wr) (fun i _ => ns.length - (intOf i).toNat)
  case atStart => exact ⟨0, by omega, rfl, hblk, by simpa using ⟨bv, hb, hf, hown⟩, Below.refl _ _⟩
  case round =>
    obtain ⟨k, hk, rfl, rb, rv, rbe⟩ := hrel
    clear hb hf hown
    obtain ⟨bv, hb, hf, hown⟩ := rv
    by_cases hlt : k < ns.length
    · have hc : wr.cell? ⟨blk, k, none⟩ = some (.int .i64 (nth ns k)) := by
        rw [cell_of_row wr blk k cs 3 (0, 0) rb]
        exact hcs k hlt
      have hl1 : (xs ++ (ns.take k).map byt).length = xs.length + k := by simp; omega
      have hx : xs ++ (ns.take (k + 1)).map byt = (xs ++ (ns.take k).map byt) ++ [byt (nth ns k)] := by
        rw [List.take_succ_eq_append_getElem hlt, List.map_append, ← List.append_assoc, nth_eq ns k hlt]
        rfl
      have HX := Lib.hid hx; clear hx
      have H1 := Lib.hid hl1; clear hl1
      have hz := rbe.size
      have hnb := Lib.hid hbb; clear hbb
      generalize hys : xs ++ (ns.take k).map byt = ys at *
      clear hys
      rw [H1.out] at hown
      go_wp2_with (at_builtin; refine wpList_append_own _ rfl _ _ 95 rfl (bw + 1) 5 i0 (.int .u8 0) 1 1 undU8s hi hz0 hz1 hz2 rfl (by decide) _ _ _ rfl (hown.alloc _) ⟨wr.heap.size, 0, none⟩ 1 1 [.int .u8 (nth ns k % 256)] rfl rfl ?c1 ?c2 ?c3 ?c4 ?c5 ?_)
      case c1 => exact fun j u h => new_cells (vs := [.int .u8 (nth ns k % 256)]) h
      case c2 => simp [Value.oneCell']
      case c3 => unfold maxLen; omega
      case c4 => omega
      case c5 => simp; omega
      intro v' w1 hown1 hgrow _
      have hob : some blk ≠ bv.ownBlock := by
        intro e
        obtain ⟨-, h2⟩ := hown
        rcases h2 with ⟨rfl, -⟩ | ⟨g, cap, cur, rfl, -, hg, -⟩
        · simp [Value.ownBlock] at e
        · simp only [Value.ownBlock, Option.some.injEq] at e
          rw [← e, rb] at hg
          simp at hg
      have hblt : blk < wr.heap.size := (Array.getElem?_eq_some_iff.1 rb).1
      have e1 : w1.heap[blk]? = wr.heap[blk]? := (hgrow.block blk (by simp; omega) hob).trans (heap_alloc_old wr _ hblt)
      have e2 : w1.heap[bw]? = wr.heap[bw]? := grown_block hown (by omega) (by omega) hgrow
      have B1 : Below bw w w1 := below_grown rbe hown (by omega) (by omega) hgrow
      have hb1 := (cell_blk (o := 0) e2).trans hb
      have hf1 := (frozen_blk (o := 0) e2).trans hf
      have HB := Lib.hid e1; clear e1
      obtain ⟨av, cv, rfl⟩ := own_form hown1
      clear e2 hc hown hgrow
      go_wp2
      go_roundw
      case rel =>
        refine ⟨k + 1, by omega, by go_num, ?_, ⟨.slice av (xs.length + k + 1) cv, ?_, ?_, ?_⟩, B1.setCell (Nat.le_refl _) _⟩
        · rw [Below.heap_setCell _ _ _ _ (by exact hnb.out), HB.out]; exact rb
        · simp [go_sem, hb1]
        · simp [go_sem, hf1]
        · have h2 := ownsRow_setCell_below hown1 (a := ⟨bw, 0, none⟩) (by simp) (.slice av (xs.length + k + 1) cv)
          rw [HX.out]
          have e3 : byteCells (ys ++ [byt (nth ns k)]) = byteCells ys ++ [.int .u8 (nth ns k % 256)] := by simp [byteCells, byt_toNat]
          rw [e3, List.length_append, H1.out]
          exact h2
      case measure => simp [intOf]; omega
    · have hk2 : k = ns.length := by omega
      subst hk2
      rw [List.take_length] at *
      go_wp2
      go_end0
      exact ⟨rfl, bv, hb, hf, hown, rbe⟩

theorem bcellB {B : Nat} {W w1 : World} (hb : Below B W w1) : ∀ b o, b < B → w1.cell? ⟨b, o, none⟩ = W.cell? ⟨b, o, none⟩ :=
  fun b o h => hb.cell (p := ⟨b, o, none⟩) h
/-- what putting leaves: the bytes so far behind the pointer, what lies below -/
def PutOut (bw : Nat) (ys : List UInt8) (w w' : World) : Prop :=
  (∃ bv, w'.cell? ⟨bw, 0, none⟩ = some bv ∧ w'.frozen? ⟨bw, 0, none⟩ = false ∧ w'.ownsRow (bw + 1) 5 1 bv ys.length (byteCells ys)) ∧ Below bw w w'
theorem PutOut.lt {bw : Nat} {ys : List UInt8} {w0 w : World} (h : PutOut bw ys w0 w) : bw < w.heap.size := by
  obtain ⟨⟨bv, h1, -, -⟩, -⟩ := h
  exact World.block_lt_of_cell? w ⟨bw, 0, none⟩ h1
theorem PutOut.alloc {bw : Nat} {ys : List UInt8} {w0 w : World} (h : PutOut bw ys w0 w) (hbw : bw < w.heap.size) (o : Obj) : PutOut bw ys w0 (w.alloc o) := by
  obtain ⟨⟨bv, h1, h2, h3⟩, h4⟩ := h
  have e2 : (w.alloc o).heap[bw]? = w.heap[bw]? := heap_alloc_old _ _ hbw
  exact ⟨⟨bv, (cell_blk e2).trans h1, (frozen_blk e2).trans h2, h3.alloc _⟩, h4.alloc (by omega) _⟩
theorem put_new (ns : List Int) (n bw c blk : Nat) (xs : List UInt8) (w0 w : World) (o : Obj) (hn : n = ns.length) (hblk : blk = w.heap.size) (ho : o = .cells (ns.map (Value.int .i64)).toArray 3) (h : PutOut bw xs w0 w) (hsz : xs.length + ns.length ≤ 1000) (hbw : bw < w.heap.size) :
    Calls Try.prog 66 #[.slice (some ⟨blk, 0, none⟩) n c, .pointer (some ⟨bw, 0, none⟩)] (w.alloc o)
      fun e w' => e = .returned (.tuple #[]) ∧ PutOut bw (xs ++ ns.map byt) w0 w' := by
  subst ho hblk hn
  obtain ⟨⟨bv, h1, h2, h3⟩, h4⟩ := h
  have e2 : (w.alloc (.cells (ns.map (Value.int .i64)).toArray 3)).heap[bw]? = w.heap[bw]? := heap_alloc_old _ _ hbw
  refine (put_calls ns w.heap.size bw c bv xs _ _ (heap_alloc_new w _) ?_ (by omega) ((cell_blk e2).trans h1) ((frozen_blk e2).trans h2) (h3.alloc _) hsz (by simp; omega)).mono ?_
  · intro k hk
    simp [nth, hk]
  · rintro e w' ⟨rfl, bv', g1, g2, g3, g4⟩
    exact ⟨rfl, ⟨bv', g1, g2, g3⟩, (h4.alloc (by omega) _).trans g4⟩

theorem conv_own {base n : Nat} {w : World} {v : Value} {l : List UInt8} (h : w.ownsRow base 5 1 v n (byteCells l)) : (convert 95 9 v).run Try.prog w = .ok (.string (BA l)) w := by
  have hl : l.length = n := by simpa [byteCells] using h.1
  have h2 := h.2
  rcases h2 with ⟨rfl, rfl⟩ | ⟨g, cap, cur, rfl, -⟩
  · have : l = [] := List.eq_nil_of_length_eq_zero hl
    subst this
    exact run_convert_bytes_nil w _ _ undU8s undU8 0 0 _ undStr
  · have hc := h.cells (g := g) rfl
    have := run_convert_bytes_back (P := Try.prog) w 95 9 5 ⟨g, 0, none⟩ cap l undU8s undU8 undStr (fun j hj => hc j _ (by simp [byteCells, hj]))
    rw [hl] at this
    exact this
theorem strCells_eq (s : ByteArray) : Lib.strCells s = byteCells s.data.toList := rfl

set_option maxHeartbeats 2000000 in
set_option maxRecDepth 100000 in
theorem bytes_calls (S : Nat → Prop) (e : Entry) (lv : Value) (w : World) (hl : IdsIn S w lv e.ls) (ht : e.t.size ≤ 12) (h6 : e.ls.length ≤ 6) :
    Calls Try.prog 51 #[.agg #[.int .i64 e.id.r, .int .i64 e.id.n, .int .i64 e.c, .string e.t, lv]] w fun x w' => x = .returned (.string (BA (encL e))) ∧ Below w.heap.size w w' := by
  obtain ⟨a, c, rfl, hc1, hc2⟩ := hl.form
  have HL := Lib.hid hl; clear hl
  have hmf : ∀ (fn : Fn) (first cap : Array Value) (w : World), (Instr.makeFunc fn first cap).run Try.prog w = .ok (.func fn first cap) w := fun _ _ _ _ => rfl
  go_enter Try.func51, Try.ntmps51
  go_wp2_with fail
  refine (put_new [e.id.r, e.id.n, e.c, e.ls.length] 4 _ _ _ [] (w.alloc (.cells #[.int .i64 e.id.r, .int .i64 e.id.n, .int .i64 e.c, .string e.t, .slice a e.ls.length c] 39)) _ _ rfl ?_ rfl ⟨⟨_, ?_, ?_, World.ownsRow_nil _ _ _ _⟩, ?_⟩ ?_ ?_).mono ?_
  · simp
  · simp [go_sem]
  · simp [go_sem]
  · exact (Below.refl _ _).alloc (by simp) _
  · simp
  · simp
  rintro x w1 ⟨rfl, hp⟩
  have hk := bcellB hp.2
  have hz := hp.2.size
  simp only [World.size_alloc] at hz
  go_wp2_with fail
  go_loopw [25] (fun i wr => ∃ k : Nat, k ≤ e.ls.length ∧ i = .int .i64 k ∧ PutOut (w.heap.size + 1) (preL e k) (w.alloc (.cells #[.int .i64 e.id.r, .int .i64 e.id.n, .int .i64 e.c, .string e.t, .slice a e.ls.length c] 39)) wr) (fun i _ => e.ls.length - (intOf i).toNat)
  case atStart => exact ⟨0, by omega, rfl, hp⟩
  case round =>
    obtain ⟨k, hk', rfl, hpk⟩ := hrel
    clear hk hp
    have hk := bcellB hpk.2
    have hzk := hpk.2.size
    simp only [World.size_alloc] at hzk
    have hzl := hpk.lt
    have hl := preL_len e k hk'
    have HK := Lib.hid hl; clear hl
    by_cases hlt : k < e.ls.length
    · obtain ⟨b, o, rfl, -, hbs, c1, c2⟩ := (HL.out.keep (w' := wr) (by omega) (fun b' _ h => (hpk.2.block b' (by omega)).trans (heap_alloc_old w _ h))).get hlt
      go_wp2_with fail
      refine (put_new [(nth e.ls k).r, (nth e.ls k).n] 2 _ _ _ (preL e k) (w.alloc (.cells #[.int .i64 e.id.r, .int .i64 e.id.n, .int .i64 e.c, .string e.t, .slice (some ⟨b, o, none⟩) e.ls.length c] 39)) _ _ rfl ?_ rfl (hpk.alloc ?_ _) ?_ ?_).mono ?_
      · simp
      · omega
      · rw [HK.out]; simp; omega
      · simp; omega
      rintro x w2 ⟨rfl, hp2⟩
      go_wp2_with fail
      go_roundw
      case rel => exact ⟨k + 1, by omega, by go_num, by rw [preL_succ e k hlt]; exact hp2⟩
      case measure => simp [intOf]; omega
    · obtain rfl : k = e.ls.length := by omega
      go_wp2_with fail
      refine (put_new [(e.t.size : Int)] 1 _ _ _ (preL e e.ls.length) (w.alloc (.cells #[.int .i64 e.id.r, .int .i64 e.id.n, .int .i64 e.c, .string e.t, .slice a e.ls.length c] 39)) _ _ rfl ?_ rfl hpk ?_ ?_).mono ?_
      · simp
      · rw [HK.out]; simp; omega
      · omega
      rintro x w2 ⟨rfl, hp2⟩
      clear hk
      have hk := bcellB hp2.2
      have hz2 := hp2.lt
      obtain ⟨i0, hi, hz0, hz1, hz3⟩ := info_parts infoU8
      obtain ⟨⟨bv, q1, q2, q3⟩, q4⟩ := hp2
      obtain ⟨av, cv, rfl⟩ := own_form q3
      have hys : preL e e.ls.length ++ [(e.t.size : Int)].map byt ++ e.t.data.toList = encL e := by simp [preL, encL]
      have hyl : (preL e e.ls.length ++ [(e.t.size : Int)].map byt).length ≤ 100 := by rw [List.length_append, HK.out]; simp; omega
      generalize preL e e.ls.length ++ [(e.t.size : Int)].map byt = ys at *
      have HY := Lib.hid hys; clear hys
      go_wp2_with (at_builtin; refine Lib.wpList_append_own_string _ rfl _ _ 95 9 rfl (w.heap.size + 1 + 1) 5 i0 undU8s undStr hi hz0 hz1 hz3 _ _ _ rfl q3 e.t rfl ?c1 ?c2 ?c3 ?_)
      case c1 => unfold maxLen; omega
      case c2 => omega
      case c3 => omega
      intro v' w3 hown3 hgrow _
      have hown4 : w3.ownsRow (w.heap.size + 1 + 1) 5 1 v' (ys.length + e.t.size) (byteCells (encL e)) := by
        rw [← HY.out]
        simpa [byteCells, strCells_eq] using hown3
      have hcv := conv_own hown4
      have B3 : Below w.heap.size w w3 := ((((Below.refl _ _).alloc (Nat.le_refl _) _).trans (q4.mono (by omega))).grown hgrow (by omega) (fun k hk => by have := (q3.lt k hk).1; omega))
      clear hown3 hown4 hgrow hk q1 q2 q3 q4
      go_wp2
      go_ret
      exact ⟨rfl, B3⟩

end Go.Proofs.Ythhkafjkhogbmaa
/- The walk through Encode. -/
namespace Go.Proofs.Ythhkafjkhogbmaa
open Go.RowKit

theorem encode_calls (S : Nat → Prop) (e : Entry) (lv : Value) (w : World) (hl : IdsIn S w lv e.ls) (ht : e.t.size ≤ maxLen) :
    Calls Try.prog 20 #[.agg #[.int .i64 e.id.r, .int .i64 e.id.n, .int .i64 e.c, .string e.t, lv]] w fun x w' => x = .returned (.tuple #[.string (BA (encOut e)), .int .i64 (checkEntry e)]) ∧ Below w.heap.size w w' := by
  have HL := Lib.hid hl
  obtain ⟨a, c, rfl, -, -⟩ := hl.form
  clear hl
  by_cases h : checkEntry e = 0
  · have H : Hid (encOut e = encL e) := by show _ = _; rw [encOut, if_pos h]
    rw [H.out, h]
    have h1 := (check_ok_bounds h).2.2.1
    have h2 := (check_ok_bounds h).2.2.2.1
    have HT := Lib.hid ht; clear ht
    go_enter Try.func20, Try.ntmps20
    go_wp2_with (first | (go_at_call 28; refine (check_calls S _ _ _ (HL.out.below (by (repeat (first | exact Below.refl _ _ | assumption | refine Below.drew ?_ | refine below_drewN ?_ | refine Below.alloc ?_ (by first | (simp; done) | (simp; omega) | omega) _ | refine Below.setCell ?_ (by first | (simp; done) | (simp; omega) | omega) _)))) HT.out).mono ?_; rintro x w1 ⟨rfl, hb⟩; (have B := below_after (w := w) (by (repeat (first | exact Below.refl _ _ | assumption | refine Below.drew ?_ | refine below_drewN ?_ | refine Below.alloc ?_ (by first | (simp; done) | (simp; omega) | omega) _ | refine Below.setCell ?_ (by first | (simp; done) | (simp; omega) | omega) _))) hb; obtain ⟨hc, hf⟩ := bcell hb; have hz := hb.size; (try simp only [World.size_alloc] at hz); clear hb); (try have zz0 : w.heap.size < w1.heap.size := by omega); (try have zz1 : w.heap.size + 1 < w1.heap.size := by omega); (try have zz2 : w.heap.size + 1 + 1 < w1.heap.size := by omega); (try have zz3 : w.heap.size + 1 + 1 + 1 < w1.heap.size := by omega)) | (go_at_call 51; refine (bytes_calls S _ _ _ (HL.out.below (by (repeat (first | exact Below.refl _ _ | assumption | refine Below.drew ?_ | refine below_drewN ?_ | refine Below.alloc ?_ (by first | (simp; done) | (simp; omega) | omega) _ | refine Below.setCell ?_ (by first | (simp; done) | (simp; omega) | omega) _)))) h1 h2).mono ?_; rintro x w2 ⟨rfl, hb⟩; (have B := below_after (w := w) (by (repeat (first | exact Below.refl _ _ | assumption | refine Below.drew ?_ | refine below_drewN ?_ | refine Below.alloc ?_ (by first | (simp; done) | (simp; omega) | omega) _ | refine Below.setCell ?_ (by first | (simp; done) | (simp; omega) | omega) _))) hb; obtain ⟨hc, hf⟩ := bcell hb; have hz := hb.size; (try simp only [World.size_alloc] at hz); clear hb); (try have zz0 : w.heap.size < w2.heap.size := by omega); (try have zz1 : w.heap.size + 1 < w2.heap.size := by omega); (try have zz2 : w.heap.size + 1 + 1 < w2.heap.size := by omega); (try have zz3 : w.heap.size + 1 + 1 + 1 < w2.heap.size := by omega)))
    go_ret2
    exact ⟨rfl, B⟩
  · have H : Hid (encOut e = []) := by show _ = _; rw [encOut, if_neg h]
    rw [H.out]
    have h1 : (checkEntry e == 0) = false := by simpa using h
    have h2 : (checkEntry e != 0) = true := by simpa using h
    have HT := Lib.hid ht; clear ht h
    go_enter Try.func20, Try.ntmps20
    go_wp2_with (first | (go_at_call 28; refine (check_calls S _ _ _ (HL.out.below (by (repeat (first | exact Below.refl _ _ | assumption | refine Below.drew ?_ | refine below_drewN ?_ | refine Below.alloc ?_ (by first | (simp; done) | (simp; omega) | omega) _ | refine Below.setCell ?_ (by first | (simp; done) | (simp; omega) | omega) _)))) HT.out).mono ?_; rintro x w1 ⟨rfl, hb⟩; (have B := below_after (w := w) (by (repeat (first | exact Below.refl _ _ | assumption | refine Below.drew ?_ | refine below_drewN ?_ | refine Below.alloc ?_ (by first | (simp; done) | (simp; omega) | omega) _ | refine Below.setCell ?_ (by first | (simp; done) | (simp; omega) | omega) _))) hb; obtain ⟨hc, hf⟩ := bcell hb; have hz := hb.size; (try simp only [World.size_alloc] at hz); clear hb); (try have zz0 : w.heap.size < w1.heap.size := by omega); (try have zz1 : w.heap.size + 1 < w1.heap.size := by omega); (try have zz2 : w.heap.size + 1 + 1 < w1.heap.size := by omega); (try have zz3 : w.heap.size + 1 + 1 + 1 < w1.heap.size := by omega)))
    go_ret2
    exact ⟨rfl, B⟩

end Go.Proofs.Ythhkafjkhogbmaa
/- Walks through the reader of bytes: what is not there gives up by a panic. -/
namespace Go.Proofs.Ythhkafjkhogbmaa
set_option linter.unusedSimpArgs false
set_option linter.unusedVariables false
open Go.RowKit

theorem BA_take (t : List UInt8) (n : Nat) : (BA t).extract 0 n = BA (t.take n) := by
  apply ByteArray.ext
  simp [BA]
theorem BA_drop (t : List UInt8) (n : Nat) : (BA t).extract n t.length = BA (t.drop n) := by
  apply ByteArray.ext
  simp [BA]
  rw [List.take_of_length_le (by simp)]
/-- a panic of an errno -/
abbrev gaveUp (c : Int) : Ending := .panicked [{ v := .iface 26 (.int .i64 c), recovered := false }]

theorem take_calls (t : List UInt8) (n blk : Nat) (w : World) (hc : w.cell? ⟨blk, 0, none⟩ = some (.string (BA t))) (hf : w.frozen? ⟨blk, 0, none⟩ = false) (hnt : n ≤ t.length) :
    Calls Try.prog 74 #[.pointer (some ⟨blk, 0, none⟩), .int .i64 n] w fun e w' => e = .returned (.string (BA (t.take n))) ∧ w' = w.setCell ⟨blk, 0, none⟩ (.string (BA (t.drop n))) := by
  have a1 := BA_take
  have a2 := BA_drop
  have a3 := BA_size
  go_enter Try.func74, Try.ntmps74
  go_wp2
  go_ret
  exact ⟨rfl, rfl⟩
theorem take_none (t : List UInt8) (n blk : Nat) (w : World) (hc : w.cell? ⟨blk, 0, none⟩ = some (.string (BA t))) (hnt : t.length < n) :
    Calls Try.prog 74 #[.pointer (some ⟨blk, 0, none⟩), .int .i64 n] w fun e w' => e = gaveUp 5 ∧ w' = w := by
  have a3 := BA_size
  go_enter Try.func74, Try.ntmps74
  go_wp2
  exact ⟨rfl, rfl, rfl⟩

theorem ix0 (b : UInt8) (W : World) : (Instr.index 9 (.string (BA [b])) (.int .i64 0)).run Try.prog W = .ok (.int .u8 b.toNat) W := by kernel_rfl
theorem one_calls (b : UInt8) (t : List UInt8) (blk : Nat) (w : World) (hc : w.cell? ⟨blk, 0, none⟩ = some (.string (BA (b :: t)))) (hf : w.frozen? ⟨blk, 0, none⟩ = false) :
    Calls Try.prog 73 #[.pointer (some ⟨blk, 0, none⟩)] w fun e w' => e = .returned (.int .i64 b.toNat) ∧ w' = w.setCell ⟨blk, 0, none⟩ (.string (BA t)) := by
  have hx := ix0 b
  have hb : (b.toNat : Int) < 256 := by have := b.toNat_lt; omega
  go_enter Try.func73, Try.ntmps73
  go_wp2_with (go_at_call 74; refine (take_calls (b :: t) 1 blk _ hc hf (by simp)).mono ?_; rintro e w1 ⟨rfl, rfl⟩)
  go_ret
  exact ⟨rfl, rfl⟩
theorem one_none (blk : Nat) (w : World) (hc : w.cell? ⟨blk, 0, none⟩ = some (.string (BA []))) :
    Calls Try.prog 73 #[.pointer (some ⟨blk, 0, none⟩)] w fun e w' => e = gaveUp 5 ∧ w' = w := by
  go_enter Try.func73, Try.ntmps73
  go_wp2_with (go_at_call 74; refine (take_none [] 1 blk _ hc (by simp)).mono ?_; rintro e w1 ⟨rfl, rfl⟩)
  exact ⟨rfl, rfl, rfl⟩

/-- the reader has moved on: its rest, all else that was there as it was -/
def Moved (blk : Nat) (t : List UInt8) (w w' : World) : Prop :=
  w.grownBy w' (some blk) ∧ w'.cell? ⟨blk, 0, none⟩ = some (.string (BA t)) ∧ w'.frozen? ⟨blk, 0, none⟩ = false
theorem grown_setCell {w w' : World} {blk : Nat} (h : w.grownBy w' (some blk)) (v : Value) : w.grownBy (w'.setCell ⟨blk, 0, none⟩ v) (some blk) :=
  ⟨h.os, h.tape, h.output, by simpa using h.size, fun k hk hne => (Below.heap_setCell _ _ _ _ (by intro e; exact hne (by rw [e]))).trans (h.block k hk hne)⟩
theorem grown_other {w w' : World} {blk b o : Nat} (h : w.grownBy w' (some blk)) (hb : w.heap.size ≤ b) (v : Value) : w.grownBy (w'.setCell ⟨b, o, none⟩ v) (some blk) :=
  ⟨h.os, h.tape, h.output, by simpa using h.size, fun k hk hne' => (Below.heap_setCell _ _ _ _ (by simp; omega)).trans (h.block k hk hne')⟩
theorem grown_alloc {w w' : World} {row : Option Nat} (h : w.grownBy w' row) (o : Obj) : w.grownBy (w'.alloc o) row :=
  ⟨h.os, h.tape, h.output, by have := h.size; simp; omega, fun k hk hne => (heap_alloc_old _ _ (Nat.lt_of_lt_of_le hk h.size)).trans (h.block k hk hne)⟩
theorem grown_refl (w : World) (row : Option Nat) : w.grownBy w row := ⟨rfl, rfl, rfl, Nat.le_refl _, fun _ _ _ => rfl⟩
theorem grown_trans {a b c : World} {row : Option Nat} (h : a.grownBy b row) (k : b.grownBy c row) : a.grownBy c row :=
  ⟨k.os.trans h.os, k.tape.trans h.tape, k.output.trans h.output, Nat.le_trans h.size k.size, fun i hi hne => (k.block i (Nat.lt_of_lt_of_le hi h.size) hne).trans (h.block i hi hne)⟩

/-- what a reader's call comes to -/
def Rd {α : Type} (blk : Nat) (w : World) (val : α → Value) (r : Except Int (α × List UInt8)) (e : Ending) (w' : World) : Prop :=
  match r with
  | .error c => e = gaveUp c ∧ w.grownBy w' (some blk)
  | .ok (x, t) => e = .returned (val x) ∧ Moved blk t w w'

theorem id_read (t : List UInt8) (blk : Nat) (w : World) (hc : w.cell? ⟨blk, 0, none⟩ = some (.string (BA t))) (hf : w.frozen? ⟨blk, 0, none⟩ = false) (hb : blk < w.heap.size) :
    Calls Try.prog 72 #[.pointer (some ⟨blk, 0, none⟩)] w (Rd blk w (fun x : Id => .agg #[.int .i64 x.r, .int .i64 x.n]) (rdId t)) := by
  have hne : blk ≠ w.heap.size := by omega
  have hne' : w.heap.size ≠ blk := by omega
  match t with
  | [] =>
    go_enter Try.func72, Try.ntmps72
    go_wp2_with (go_at_call 73; refine (one_none blk _ ?_).mono ?_; (simp [go_sem, hc, hb]); rintro e w1 ⟨rfl, rfl⟩)
    exact ⟨rfl, rfl, grown_alloc (grown_refl _ _) _⟩
  | a :: t =>
    by_cases ha : 1 < a
    · have ha' : (1 : Int) < (a.toNat : Int) := by have := UInt8.lt_iff_toNat_lt.1 ha; simp at this; omega
      have HR : Hid (rdId (a :: t) = .error 1) := by show _ = _; simp [rdId, ha]
      rw [HR.out]
      clear ha
      go_enter Try.func72, Try.ntmps72
      go_wp2_with (go_at_call 73; refine (one_calls a t blk _ ?_ ?_).mono ?_; (simp [go_sem, hc, hb]); (simp [go_sem, hf, hb]); rintro e w1 ⟨rfl, rfl⟩)
      exact ⟨rfl, rfl, by (repeat (first | with_reducible exact grown_refl _ _ | with_reducible assumption | with_reducible refine grown_alloc ?_ _ | with_reducible refine grown_setCell ?_ _ | with_reducible refine grown_other ?_ (by first | (simp; done) | (simp; omega) | omega) _))⟩
    · have ha' : ¬ (1 : Int) < (a.toNat : Int) := by
        intro h; apply ha; rw [UInt8.lt_iff_toNat_lt]; simp; omega
      match t with
      | [] =>
        have HR : Hid (rdId [a] = .error 5) := by show _ = _; simp [rdId, ha]
        rw [HR.out]
        clear ha
        go_enter Try.func72, Try.ntmps72
        go_wp2_with fail
        refine (one_calls a [] blk _ (by simp [go_sem, hc, hb]) (by simp [go_sem, hf, hb])).mono ?_
        rintro x w1 ⟨rfl, rfl⟩
        go_wp2_with fail
        refine (one_none blk _ (by simp [go_sem, hc, hb])).mono ?_
        rintro x w1 ⟨rfl, rfl⟩
        go_wp2
        exact ⟨rfl, rfl, by (repeat (first | with_reducible exact grown_refl _ _ | with_reducible assumption | with_reducible refine grown_alloc ?_ _ | with_reducible refine grown_setCell ?_ _ | with_reducible refine grown_other ?_ (by first | (simp; done) | (simp; omega) | omega) _))⟩
      | b :: t =>
        have HR : Hid (rdId (a :: b :: t) = .ok (⟨a.toNat, b.toNat⟩, t)) := by show _ = _; simp [rdId, ha]
        rw [HR.out]
        clear ha
        go_enter Try.func72, Try.ntmps72
        go_wp2_with fail
        refine (one_calls a (b :: t) blk _ (by simp [go_sem, hc, hb]) (by simp [go_sem, hf, hb])).mono ?_
        rintro x w1 ⟨rfl, rfl⟩
        go_wp2_with fail
        refine (one_calls b t blk _ (by simp [go_sem, hc, hb]) (by simp [go_sem, hf, hb])).mono ?_
        rintro x w1 ⟨rfl, rfl⟩
        go_wp2
        exact bodyPost_ret (v := .agg #[.int .i64 a.toNat, .int .i64 b.toNat]) (by simp [results, Try.results72, go_sem]) rfl ⟨rfl, by (repeat (first | with_reducible exact grown_refl _ _ | with_reducible assumption | with_reducible refine grown_alloc ?_ _ | with_reducible refine grown_setCell ?_ _ | with_reducible refine grown_other ?_ (by first | (simp; done) | (simp; omega) | omega) _)), by simp [go_sem, hc, hb], by simp [go_sem, hf, hb]⟩

def idCells (l : List Id) : List Value := l.flatMap fun x => [.int .i64 x.r, .int .i64 x.n]
/-- the state of the loop: the rest of the bytes, the entry that is being made, its links so far -/
structure RdLoop (w0 : World) (blk be : Nat) (x : Id) (c : Int) (l : List Id) (t : List UInt8) (w : World) : Prop where
  gr : w0.grownBy w (some blk)
  s : w.cell? ⟨blk, 0, none⟩ = some (.string (BA t))
  f : w.frozen? ⟨blk, 0, none⟩ = false
  c0 : w.cell? ⟨be, 0, none⟩ = some (.int .i64 x.r)
  c1 : w.cell? ⟨be, 1, none⟩ = some (.int .i64 x.n)
  c2 : w.cell? ⟨be, 2, none⟩ = some (.int .i64 c)
  c3 : w.cell? ⟨be, 3, none⟩ = some (.string (BA []))
  cl : ∃ lv, w.cell? ⟨be, 4, none⟩ = some lv ∧ w.ownsRow (be + 1) 25 2 lv l.length (idCells l)
  fe : ∀ o, w.frozen? ⟨be, o, none⟩ = false
  z0 : w0.heap.size ≤ be
  zb : be < w.heap.size

theorem grown_drew {w w' : World} {row : Option Nat} (h : w.drew.grownBy w' row) : w.grownBy w' row := ⟨h.os, h.tape, h.output, h.size, h.block⟩
theorem grown_blk {w w1 : World} {row : Option Nat} {b : Nat} (hg : w.grownBy w1 row) (hb : b < w.heap.size) (hne : some b ≠ row) : w1.heap[b]? = w.heap[b]? := hg.block b hb hne

/-- what reading an entry comes to -/
def RdE (blk : Nat) (w : World) (r : Except Int (Entry × List UInt8)) (e : Ending) (w' : World) : Prop :=
  match r with
  | .error c => e = gaveUp c ∧ w.grownBy w' (some blk)
  | .ok (x, t) => ∃ lv, e = .returned (.agg #[.int .i64 x.id.r, .int .i64 x.id.n, .int .i64 x.c, .string x.t, lv]) ∧ Moved blk t w w' ∧ w'.ownsRow w.heap.size 25 2 lv x.ls.length (idCells x.ls)
/-- a region that draws its order, every way through it ending by a panic -/
theorem any_good {P : Program} {ops : Array Oper} {Q : Exit → Act → World → Prop} {w : World} (Good : Nat → Array Bool → Act → Prop) (h0 : ∀ l a, ¬ Good 0 l a) (hr : ∀ f l a, Good f l a → Region.ready .any ops l ≠ [])
    (hs : ∀ f l a i, Good (f + 1) l a → i ∈ Region.ready .any ops l → wpOp P ops Q i (fun a' w' => w' = w ∧ Good f (l.setIfInBounds i true) a') a w) : ∀ f l a, Good f l a → wpAny P .any ops Q f l a w
  | 0, l, a, h => absurd h (h0 l a)
  | f + 1, l, a, h => ⟨fun e => absurd e (hr _ _ _ h), fun i hi => wpOp_mono (fun a' w' ⟨hw, hg⟩ => by subst hw; exact any_good Good h0 hr hs f _ _ hg) (hs f l a i h hi)⟩
theorem put_get (a : Act) (d t : Nat) (v : Value) (h : d < a.tmps.size) : (a.put (some d) v).tmps.getD t undef = if t = d then v else a.tmps.getD t undef := by
  simp only [Act.put, Array.getD_eq_getD_getElem?, Array.getElem?_setIfInBounds]
  by_cases e : d = t
  · subst e; simp [h]
  · simp [e, Ne.symm e]
theorem put_size (a : Act) (d : Option Nat) (v : Value) : (a.put d v).tmps.size = a.tmps.size := by cases d <;> simp [Act.put]
theorem put_defers (a : Act) (d : Option Nat) (v : Value) : (a.put d v).defers = a.defers := by cases d <;> rfl
/-- how far the loop's statement has come ahead of its call -/
def Good6 (blk be : Nat) (f : Nat) (ls : Array Bool) (ac : Act) : Prop := ∃ b0 b1 b2 b6 : Bool, ls = #[b0, b1, b2, false, false, false, b6, false] ∧ 8 ≤ f + (b0.toNat + b1.toNat + b2.toNat + b6.toNat) ∧ ac.defers = [] ∧ ac.tmps.size = 32 ∧
  ac.tmps.getD 0 undef = .pointer (some ⟨blk, 0, none⟩) ∧ ac.tmps.getD 3 undef = .pointer (some ⟨be, 0, none⟩) ∧ (b0 = true → ac.tmps.getD 18 undef = .pointer (some ⟨be, 4, none⟩)) ∧ (b1 = true → b0 = true) ∧ (b2 = true → ac.tmps.getD 20 undef = .pointer (some ⟨blk, 0, none⟩))
theorem grown_own {w0 w3 w4 : World} {row : Option Nat} {base size n : Nat} {e : TypeId} {v : Value} {xs : List Value} {o : Obj} (h : w0.grownBy w3 row) (hg : (w3.alloc o).grownBy w4 v.ownBlock) (hown : w3.ownsRow base e size v n xs) (hb : w0.heap.size ≤ base) : w0.grownBy w4 row := by
  have h1 : w0.grownBy (w3.alloc o) row := grown_alloc h o
  refine ⟨hg.os.trans h1.os, hg.tape.trans h1.tape, hg.output.trans h1.output, Nat.le_trans h1.size hg.size, fun k hk hne => ?_⟩
  exact (hg.block k (Nat.lt_of_lt_of_le hk h1.size) (own_ne hown (by omega))).trans (h1.block k hk hne)
theorem RdLoop.next {w0 wr w3 w4 : World} {blk be gg cap : Nat} {x y : Id} {c : Int} {l : List Id} {t' t2 : List UInt8} {v : Value} {o : Obj} (hR : RdLoop w0 blk be x c l t' wr) (hg : wr.grownBy w3 (some blk)) (hs : w3.cell? ⟨blk, 0, none⟩ = some (.string (BA t2)))
    (hf : w3.frozen? ⟨blk, 0, none⟩ = false) (hb : blk < w0.heap.size) (hown3 : w3.ownsRow (be + 1) 25 2 v l.length (idCells l)) (hgrow : (w3.alloc o).grownBy w4 v.ownBlock)
    (hown4 : w4.ownsRow (be + 1) 25 2 (.slice (some ⟨gg, 0, none⟩) (l.length + 1) cap) (l.length + 1) (idCells l ++ [.int .i64 y.r, .int .i64 y.n])) :
    RdLoop w0 blk be x c (l ++ [y]) t2 (w4.setCell ⟨be, 4, none⟩ (.slice (some ⟨gg, 0, none⟩) (l.length + 1) cap)) := by
  have z0 := hR.z0
  have zb := hR.zb
  have g0 := grown_trans hR.gr hg
  have z3 : be < w3.heap.size := Nat.lt_of_lt_of_le zb hg.size
  have eb : w4.heap[be]? = wr.heap[be]? := (grown_block hown3 (by omega) z3 hgrow).trans (hg.block be zb (by simp; omega))
  have ek : w4.heap[blk]? = w3.heap[blk]? := grown_block hown3 (by omega) (by omega) hgrow
  have g4 := grown_own g0 hgrow hown3 (by omega)
  have ne : blk ≠ be := by omega
  have c4 : w4.cell? ⟨be, 4, none⟩ ≠ none := by
    obtain ⟨lv, h1, -⟩ := hR.cl
    rw [cell_blk (o := 4) eb, h1]; simp
  obtain ⟨u, hu⟩ := Option.ne_none_iff_exists'.1 c4
  have far : ∀ j, j ≠ 4 → (w4.setCell ⟨be, 4, none⟩ (.slice (some ⟨gg, 0, none⟩) (l.length + 1) cap)).cell? ⟨be, j, none⟩ = wr.cell? ⟨be, j, none⟩ := by
    intro j hj
    rw [← cell_blk (o := j) eb]
    simp [go_sem]
  refine ⟨grown_other g4 z0 _, ?_, ?_, ?_, ?_, ?_, ?_, ⟨.slice (some ⟨gg, 0, none⟩) (l.length + 1) cap, ?_, ?_⟩, ?_, z0, ?_⟩
  · rw [← hs, ← cell_blk (o := 0) ek]; simp [go_sem]
  · rw [← hf, ← frozen_blk (o := 0) ek]; simp [go_sem]
  · rw [far 0 (by decide)]; exact hR.c0
  · rw [far 1 (by decide)]; exact hR.c1
  · rw [far 2 (by decide)]; exact hR.c2
  · rw [far 3 (by decide)]; exact hR.c3
  · simp [go_sem, hu]
  · have e3 : idCells (l ++ [y]) = idCells l ++ [.int .i64 y.r, .int .i64 y.n] := by simp [idCells]
    rw [e3, List.length_append]
    exact ownsRow_setCell_below hown4 (by simp) _
  · intro o'
    rw [← hR.fe o', ← frozen_blk (o := o') eb]; simp [go_sem]
  · have := hgrow.size; simp at this ⊢; omega
theorem own_mono {w : World} {base base' size n : Nat} {e : TypeId} {v : Value} {xs : List Value} (h : w.ownsRow base e size v n xs) (hb : base' ≤ base) : w.ownsRow base' e size v n xs := by
  refine ⟨h.1, ?_⟩
  rcases h.2 with h2 | ⟨g, cap, cur, hv, hg, r⟩
  · exact .inl h2
  · exact .inr ⟨g, cap, cur, hv, Nat.le_trans hb hg, r⟩
theorem infoId : (Try.prog.info? 25).map (fun i => (i.zero, i.size, i.bytes)) = some (some (.agg #[.int .i64 0, .int .i64 0]), 2, 16) := by kernel_rfl
theorem undIds : Try.prog.underlying 37 = some (.slice 25) := by kernel_rfl

theorem entry_end (w wr : World) (blk be bw n : Nat) (t2 : List UInt8) (s1 s3 v0 v1 v2 v3 v4 lv : Value) (xs : List Value) (r1 : ∃ u, wr.cell? ⟨blk, 0, none⟩ = some u) (r2 : wr.frozen? ⟨blk, 0, none⟩ = false)
    (gW : w.grownBy wr (some blk)) (hb : blk < bw) (hbw : bw = w.heap.size) (hbe : bw < be) (hown : wr.ownsRow (be + 1) 25 2 lv n xs) :
    Moved blk t2 w ((((((((wr.setCell ⟨blk, 0, none⟩ s1).setCell ⟨blk, 0, none⟩ (.string (BA t2))).setCell ⟨be, 3, none⟩ s3).setCell ⟨bw, 0, none⟩ v0).setCell ⟨bw, 1, none⟩ v1).setCell ⟨bw, 2, none⟩ v2).setCell ⟨bw, 3, none⟩ v3).setCell ⟨bw, 4, none⟩ v4) ∧
    ((((((((wr.setCell ⟨blk, 0, none⟩ s1).setCell ⟨blk, 0, none⟩ (.string (BA t2))).setCell ⟨be, 3, none⟩ s3).setCell ⟨bw, 0, none⟩ v0).setCell ⟨bw, 1, none⟩ v1).setCell ⟨bw, 2, none⟩ v2).setCell ⟨bw, 3, none⟩ v3).setCell ⟨bw, 4, none⟩ v4).ownsRow w.heap.size 25 2 lv n xs := by
  obtain ⟨u, r1⟩ := r1
  have n1 : blk ≠ bw := by omega
  have n2 : blk ≠ be := by omega
  refine ⟨⟨by (repeat (first | with_reducible exact grown_refl _ _ | with_reducible assumption | with_reducible refine grown_alloc ?_ _ | with_reducible refine grown_setCell ?_ _ | with_reducible refine grown_other ?_ (by first | (simp; done) | (simp; omega) | omega) _)), ?_, ?_⟩, ?_⟩
  · simp [go_sem, r1]
  · simp [go_sem, r2]
  · refine own_mono (base := be + 1) ?_ (by omega)
    repeat (refine ownsRow_setCell_below ?_ (by first | (simp; done) | (simp; omega)) _)
    exact hown

set_option maxHeartbeats 4000000 in
set_option maxRecDepth 100000 in
theorem entry_loop (t0 : List UInt8) (blk : Nat) (w : World) (hc : w.cell? ⟨blk, 0, none⟩ = some (.string (BA t0))) (hf : w.frozen? ⟨blk, 0, none⟩ = false) (hb : blk < w.heap.size) (x : Id) (a n : UInt8) (t : List UInt8) (h1 : rdId t0 = .ok (x, a :: n :: t)) :
    Calls Try.prog 68 #[.pointer (some ⟨blk, 0, none⟩)] w (RdE blk w (rdTail x a.toNat (rdIds n.toNat t))) := by
  have hne : blk ≠ w.heap.size := by omega
  have hne' : w.heap.size ≠ blk := by omega
  have hn : (n.toNat : Int) < 256 := by have := n.toNat_lt; omega
  go_enter Try.func68, Try.ntmps68
  go_wp2_with fail
  refine (id_read t0 blk _ (by simp [go_sem, hc, hb]) (by simp [go_sem, hf, hb]) (by simp; omega)).mono ?_
  intro e w1 h
  rw [h1] at h
  obtain ⟨rfl, hg, hs, hfz⟩ := h
  have hz := hg.size
  simp only [World.size_alloc] at hz
  have hk := cell_blk (o := 0) (grown_blk hg (b := w.heap.size) (by simp) (by simp; omega))
  have z1 : blk ≠ w1.heap.size := by omega
  have z2 : w1.heap.size ≠ blk := by omega
  have z3 : blk < w1.heap.size := by omega
  go_wp2_with fail
  refine (one_calls a (n :: t) blk _ (by simp [go_sem, hs, z3]) (by simp [go_sem, hfz, z3])).mono ?_
  rintro e w2 ⟨rfl, rfl⟩
  go_wp2_with fail
  refine (one_calls n t blk _ (by simp [go_sem, hs, z3]) (by simp [go_sem, hfz, z3])).mono ?_
  rintro e w2 ⟨rfl, rfl⟩
  go_wp2_with fail
  obtain ⟨w0, hw0⟩ : ∃ w0, w0 = w.alloc (.cells #[.int .i64 0, .int .i64 0, .int .i64 0, .string { data := #[] }, .slice none 0 0] 39) := ⟨_, rfl⟩
  rw [← hw0] at hg hk
  have W0 := Lib.hid hw0
  have hz0 : w0.heap.size = w.heap.size + 1 := by rw [hw0]; simp
  have HZ := Lib.hid hz0; clear hz0
  have GW : Hid (∀ w', w0.grownBy w' (some blk) → w.grownBy w' (some blk)) := fun w' h => grown_trans (by rw [hw0]; exact grown_alloc (grown_refl _ _) _) h
  clear hw0
  go_loopw [4] (fun i wr => ∃ (m : Nat) (l : List Id) (t' : List UInt8), i = .int .i64 m ∧ m ≤ 255 ∧ l.length + m ≤ 255 ∧ Hid (rdIds n.toNat t = rdApp l (rdIds m t')) ∧ RdLoop w0 blk w1.heap.size x a.toNat l t' wr) (fun i _ => (intOf i).toNat)
  case atStart =>
    refine ⟨n.toNat, [], t, rfl, by omega, by simp; omega, ?_, ?_⟩
    · show _ = _
      cases rdIds n.toNat t <;> simp [rdApp]
    · refine ⟨by (repeat (first | with_reducible exact grown_refl _ _ | with_reducible assumption | with_reducible refine grown_alloc ?_ _ | with_reducible refine grown_setCell ?_ _ | with_reducible refine grown_other ?_ (by first | (simp; done) | (simp; omega) | omega) _)), by simp [go_sem, hs, z3], by simp [go_sem, hfz, z3], by simp [go_sem], by simp [go_sem], by simp [go_sem], by simp [go_sem]; rfl, ⟨.slice none 0 0, by simp [go_sem], World.ownsRow_nil _ _ _ _⟩, fun o => by simp [go_sem], by rw [HZ.out]; omega, by simp⟩
  case round =>
    obtain ⟨m, l, t', rfl, hm1, hm2, hT, hR⟩ := hrel
    cases m with
    | zero =>
      have r1 := hR.s
      have r2 := hR.f
      have c0 := hR.c0
      have c1 := hR.c1
      have c2 := hR.c2
      have c3 := hR.c3
      have fe := hR.fe
      obtain ⟨lv, c4, hown⟩ := hR.cl
      obtain ⟨av, cv, rfl⟩ := own_form hown
      have zb := hR.zb
      have z0 := hR.z0
      have GR := Lib.hid hR.gr
      have zw : w.heap.size < w1.heap.size := by have := HZ.out; omega
      have zr : w.heap.size < wr.heap.size := by omega
      have zr2 : blk < wr.heap.size := by omega
      have kk : wr.heap[w.heap.size]? = w0.heap[w.heap.size]? := grown_blk hR.gr (by rw [HZ.out]; omega) (by simp; omega)
      have qq : ∀ j, j < 5 → ∃ u, wr.cell? ⟨w.heap.size, j, none⟩ = some u := by
        intro j hj
        rw [cell_blk (o := j) kk, W0.out]
        match j, hj with
        | 0, _ => exact ⟨_, by simp [go_sem]; rfl⟩
        | 1, _ => exact ⟨_, by simp [go_sem]; rfl⟩
        | 2, _ => exact ⟨_, by simp [go_sem]; rfl⟩
        | 3, _ => exact ⟨_, by simp [go_sem]; rfl⟩
        | 4, _ => exact ⟨_, by simp [go_sem]; rfl⟩
      have qf : ∀ j, wr.frozen? ⟨w.heap.size, j, none⟩ = false := by
        intro j
        rw [frozen_blk (o := j) kk, W0.out]
        simp [go_sem]
      clear kk hR
      obtain ⟨u0, k0⟩ := qq 0 (by omega)
      obtain ⟨u1, k1⟩ := qq 1 (by omega)
      obtain ⟨u2, k2⟩ := qq 2 (by omega)
      obtain ⟨u3, k3⟩ := qq 3 (by omega)
      obtain ⟨u4, k4⟩ := qq 4 (by omega)
      clear qq
      have ne1 : blk ≠ w1.heap.size := by have := HZ.out; omega
      have ne2 : w1.heap.size ≠ blk := Ne.symm ne1
      have ne3 : w.heap.size ≠ w1.heap.size := by omega
      have ne4 : w1.heap.size ≠ w.heap.size := Ne.symm ne3
      match t' with
      | [] =>
        have HE : Hid (rdTail x a.toNat (rdIds n.toNat t) = .error 5) := by show _ = _; rw [hT.out]; simp [rdIds, rdApp, rdTail]
        go_wp2_with fail
        refine (one_none blk _ r1).mono ?_
        rintro e w3 ⟨rfl, rfl⟩
        go_wp2
        exact ⟨rfl, by rw [HE.out]; exact ⟨rfl, GW.out _ GR.out⟩⟩
      | q :: t3 =>
        go_wp2_with fail
        refine (one_calls q t3 blk _ r1 r2).mono ?_
        rintro e w3 ⟨rfl, rfl⟩
        by_cases hq : t3.length < q.toNat
        · have HE : Hid (rdTail x a.toNat (rdIds n.toNat t) = .error 5) := by show _ = _; rw [hT.out]; simp [rdIds, rdApp, rdTail, hq]
          go_wp2_with fail
          refine (take_none t3 q.toNat blk _ (by simp [go_sem, r1]) hq).mono ?_
          rintro e w3 ⟨rfl, rfl⟩
          go_wp2
          exact ⟨rfl, by rw [HE.out]; exact ⟨rfl, GW.out _ (grown_setCell GR.out _)⟩⟩
        · have HE : Hid (rdTail x a.toNat (rdIds n.toNat t) = .ok (⟨x, a.toNat, BA (t3.take q.toNat), l⟩, t3.drop q.toNat)) := by show _ = _; rw [hT.out]; simp [rdIds, rdApp, rdTail, hq]
          go_wp2_with fail
          refine (take_calls t3 q.toNat blk _ (by simp [go_sem, r1]) (by simp [go_sem, r2]) (by omega)).mono ?_
          rintro e w3 ⟨rfl, rfl⟩
          go_wp2
          exact bodyPost_ret (v := .agg #[.int .i64 x.r, .int .i64 x.n, .int .i64 a.toNat, .string (BA (t3.take q.toNat)), .slice av l.length cv]) (by simp [results, Try.results68, go_sem, k0, k1, k2, k3, k4]) rfl
            (by
              have HF := entry_end w wr blk w1.heap.size w.heap.size l.length (t3.drop q.toNat) (.string (BA t3)) (.string (BA (t3.take q.toNat))) (.int .i64 x.r) (.int .i64 x.n) (.int .i64 a.toNat) (.string (BA (t3.take q.toNat))) (.slice av l.length cv) (.slice av l.length cv) (idCells l) ⟨_, r1⟩ r2 (GW.out _ GR.out) hb rfl zw hown
              rw [HE.out]
              exact ⟨_, rfl, HF.1, HF.2⟩)
    | succ m =>
      obtain ⟨lv, hcl, hown⟩ := hR.cl
      obtain ⟨av, cv, rfl⟩ := own_form hown
      have r1 := hR.s
      have r2 := hR.f
      have r3 : blk < wr.heap.size := by have := hR.gr.size; have := HZ.out; omega
      cases h2 : rdId t' with
      | error d =>
        have HE : Hid (rdTail x a.toNat (rdIds n.toNat t) = .error d) := by show _ = _; rw [hT.out, rdApp_err h2]; rfl
        have GR := Lib.hid hR.gr
        go_wp2_with fail
        refine wp_region_any (by kernel_rfl) (any_good (Good6 blk w1.heap.size) ?_ ?_ ?_ _ _ _ ?_)
        · rintro ls ac ⟨b0, b1, b2, b6, -, h, -⟩
          cases b0 <;> cases b1 <;> cases b2 <;> cases b6 <;> simp at h
        · rintro f ls ac ⟨b0, b1, b2, b6, rfl, -⟩
          cases b0 <;> cases b1 <;> cases b2 <;> cases b6 <;> decide +kernel
        · rintro f ls ac i ⟨b0, b1, b2, b6, rfl, hf, hd, hsz, e0, e3, e18, e1, e20⟩ hi
          have hi2 : (i = 0 ∧ b0 = false) ∨ (i = 1 ∧ b0 = true ∧ b1 = false) ∨ (i = 2 ∧ b2 = false) ∨ (i = 3 ∧ b2 = true) ∨ (i = 6 ∧ b6 = false) := by
            clear hf hd hsz e0 e3 e18 e20
            cases b0 <;> cases b1 <;> first | (exact absurd (e1 rfl) (by decide)) | (clear e1; cases b2 <;> cases b6 <;> (revert i; decide +kernel))
          rcases hi2 with ⟨rfl, rfl⟩ | ⟨rfl, rfl, rfl⟩ | ⟨rfl, rfl⟩ | ⟨rfl, rfl⟩ | ⟨rfl, rfl⟩
          · refine .inl ?_
            have G : Good6 blk w1.heap.size f #[true, b1, b2, false, false, false, b6, false] (ac.put (some 18) (.pointer (some ⟨w1.heap.size, 4, none⟩))) := by
              refine ⟨true, b1, b2, b6, rfl, by simp at hf ⊢; omega, by rw [put_defers]; exact hd, by rw [put_size]; exact hsz, ?_, ?_, fun _ => ?_, fun _ => rfl, fun h => ?_⟩
              all_goals rw [put_get _ _ _ _ (by omega)]
              · exact e0
              · exact e3
              · rfl
              · exact e20 h
            simp [Oper.wp, execOp, Act.eval, go_sem, e3]
            exact G
          · refine .inl ?_
            have G : Good6 blk w1.heap.size f #[true, true, b2, false, false, false, b6, false] (ac.put (some 19) (.slice av l.length cv)) := by
              refine ⟨true, true, b2, b6, rfl, by simp at hf ⊢; omega, by rw [put_defers]; exact hd, by rw [put_size]; exact hsz, ?_, ?_, fun _ => ?_, fun _ => rfl, fun h => ?_⟩
              all_goals rw [put_get _ _ _ _ (by omega)]
              · exact e0
              · exact e3
              · exact e18 rfl
              · exact e20 h
            have e18' := e18 rfl
            simp [Oper.wp, execOp, Act.eval, go_sem, e18', hcl]
            exact G
          · refine .inl ?_
            have G : Good6 blk w1.heap.size f #[b0, b1, true, false, false, false, b6, false] (ac.put (some 20) (.pointer (some ⟨blk, 0, none⟩))) := by
              refine ⟨b0, b1, true, b6, rfl, by simp at hf ⊢; omega, by rw [put_defers]; exact hd, by rw [put_size]; exact hsz, ?_, ?_, fun h => ?_, e1, fun _ => ?_⟩
              all_goals rw [put_get _ _ _ _ (by omega)]
              · exact e0
              · exact e3
              · exact e18 h
              · rfl
            simp [Oper.wp, execOp, Act.eval, go_sem, e0]
            exact G
          · refine .inl ?_
            have e20' := e20 rfl
            simp [Oper.wp, execOp, Act.eval, go_sem, e20']
            refine (id_read t' blk _ (by simpa using r1) (by simpa using r2) (by simpa using r3)).mono ?_
            intro e w3 h
            rw [h2] at h
            obtain ⟨rfl, hg3⟩ := h
            refine ⟨hd, ?_⟩
            show RdE blk w (rdTail x a.toNat (rdIds n.toNat t)) _ _
            rw [HE.out]
            exact ⟨rfl, GW.out _ (grown_trans GR.out (grown_drew hg3))⟩
          · refine .inl ?_
            have G : Good6 blk w1.heap.size f #[b0, b1, b2, false, false, false, true, false] (ac.put (some 24) (.pointer (some ⟨w1.heap.size, 4, none⟩))) := by
              refine ⟨b0, b1, b2, true, rfl, by simp at hf ⊢; omega, by rw [put_defers]; exact hd, by rw [put_size]; exact hsz, ?_, ?_, fun h => ?_, e1, fun h => ?_⟩
              all_goals rw [put_get _ _ _ _ (by omega)]
              · exact e0
              · exact e3
              · exact e18 h
              · exact e20 h
            simp [Oper.wp, execOp, Act.eval, go_sem, e3]
            exact G
        · exact ⟨false, false, false, false, rfl, by simp, rfl, rfl, rfl, rfl, (fun h => by cases h), (fun h => by cases h), (fun h => by cases h)⟩
      | ok v =>
        obtain ⟨y, t2⟩ := v
        have GR := Lib.hid hR.gr
        have f4 := hR.fe 4
        have zb := hR.zb
        have z0 := hR.z0
        have hne3 : w1.heap.size ≠ blk := by have := HZ.out; omega
        go_wp2_with fail
        have hnb : Value.ownBlock (.slice av l.length cv) = none ∨ Value.ownBlock (.slice av l.length cv) ≠ some blk := .inr (fun e => by have := (hown.lt blk e).1; have := HZ.out; omega)
        obtain ⟨i0, hi, hz0, hz1, hz2⟩ := info_parts infoId
        go_region_law (first
            | (refine step_append_lies _ (by rfl) _ _ _ (by rfl) (w1.heap.size + 1) 25 i0 _ 2 16 undIds hi hz0 hz1 hz2 rfl (by omega) _ l.length _ (by rfl) (hown3.alloc _) ⟨w3.heap.size, 0, none⟩ 1 1 [.int .i64 y.r, .int .i64 y.n] (by rfl) (by rfl) (fun j u h => new_cells (vs := [.int .i64 y.r, .int .i64 y.n]) h) (by simp [Value.oneCell']) (by omega) (by unfold maxLen; omega) (by omega) (by simp; omega) (w3.heap.size + 1) (by simp) ?_; intro gg cap w4 hown4 hgrow hat hlt; have hfe4 := (frozen_blk (o := 4) (grown_block hown3 (Nat.lt_succ_self _) zb3 hgrow)).trans hfe3; have hc4 := (cell_blk (o := 4) (grown_block hown3 (Nat.lt_succ_self _) zb3 hgrow)).trans hc3)
            | (go_simp; go_at_call 72; refine (id_read t' blk _ (by simp [go_sem, r1]) (by simp [go_sem, r2]) (by simpa using r3)).mono ?_; intro e w3 h; rw [h2] at h; obtain ⟨rfl, hg3, hs3, hf3⟩ := h; have hc3 := (cell_blk (o := 4) (grown_blk (grown_drew hg3) zb (by simpa using hne3))).trans hcl; have hown3 := hown.kept (grown_drew hg3) hnb; have zb3 := Nat.lt_of_lt_of_le zb (grown_drew hg3).size; have hfe3 := (frozen_blk (o := 4) (grown_blk (grown_drew hg3) zb (by simpa using hne3))).trans f4))
        all_goals
          have RN := RdLoop.next (y := y) hR (grown_drew hg3) hs3 hf3 (by rw [HZ.out]; omega) hown3 hgrow hown4
          have HT2 : Hid (rdIds n.toNat t = rdApp (l ++ [y]) (rdIds m t2)) := by show _ = _; rw [hT.out, rdApp_ok h2]
          clear hown3 hown4 hgrow hfe4 hc4 hfe3 hc3 hs3 hf3 hg3 hR hown hcl r1 r2 f4
          go_wp2
          go_roundw
          case rel => exact ⟨m, l ++ [y], t2, by go_num, by omega, by simp; omega, HT2, RN⟩
          case measure => simp [intOf]

set_option maxHeartbeats 4000000 in
set_option maxRecDepth 100000 in
theorem entry_read (t0 : List UInt8) (blk : Nat) (w : World) (hc : w.cell? ⟨blk, 0, none⟩ = some (.string (BA t0))) (hf : w.frozen? ⟨blk, 0, none⟩ = false) (hb : blk < w.heap.size) :
    Calls Try.prog 68 #[.pointer (some ⟨blk, 0, none⟩)] w (RdE blk w (rdEntry t0)) := by
  have hne : blk ≠ w.heap.size := by omega
  have hne' : w.heap.size ≠ blk := by omega
  cases h1 : rdId t0 with
  | error c =>
    have HE : Hid (rdEntry t0 = .error c) := by show _ = _; simp [rdEntry, h1]
    rw [HE.out]
    go_enter Try.func68, Try.ntmps68
    go_wp2_with fail
    refine (id_read t0 blk _ (by simp [go_sem, hc, hb]) (by simp [go_sem, hf, hb]) (by simp; omega)).mono ?_
    intro e w1 h
    rw [h1] at h
    obtain ⟨rfl, hg⟩ := h
    go_wp2
    exact ⟨rfl, rfl, grown_trans (grown_alloc (grown_refl _ _) _) hg⟩
  | ok v =>
    obtain ⟨x, t⟩ := v
    match t, h1 with
    | a :: n :: t, h1 =>
      have HE : Hid (rdEntry t0 = rdTail x a.toNat (rdIds n.toNat t)) := by show _ = _; simp [rdEntry, h1]
      rw [HE.out]
      exact entry_loop t0 blk w hc hf hb x a n t h1
    | [], h1 =>
      have HE : Hid (rdEntry t0 = .error 5) := by show _ = _; simp [rdEntry, h1]
      rw [HE.out]
      go_enter Try.func68, Try.ntmps68
      go_wp2_with fail
      refine (id_read t0 blk _ (by simp [go_sem, hc, hb]) (by simp [go_sem, hf, hb]) (by simp; omega)).mono ?_
      intro e w1 h
      rw [h1] at h
      obtain ⟨rfl, hg, hs, hfz⟩ := h
      have z3 : blk < w1.heap.size := by have := hg.size; simp at this; omega
      go_wp2_with fail
      refine (one_none blk _ (by simp [go_sem, hs, z3])).mono ?_
      rintro e w2 ⟨rfl, rfl⟩
      go_wp2
      exact ⟨rfl, rfl, grown_alloc (grown_trans (grown_alloc (grown_refl _ _) _) hg) _⟩
    | [a], h1 =>
      have HE : Hid (rdEntry t0 = .error 5) := by show _ = _; simp [rdEntry, h1]
      rw [HE.out]
      go_enter Try.func68, Try.ntmps68
      go_wp2_with fail
      refine (id_read t0 blk _ (by simp [go_sem, hc, hb]) (by simp [go_sem, hf, hb]) (by simp; omega)).mono ?_
      intro e w1 h
      rw [h1] at h
      obtain ⟨rfl, hg, hs, hfz⟩ := h
      have z3 : blk < w1.heap.size := by have := hg.size; simp at this; omega
      have gW := grown_trans (grown_alloc (grown_refl w (some blk)) _) hg
      have z4 : w.heap.size ≤ w1.heap.size := by have := hg.size; simp at this; omega
      go_wp2_with fail
      refine (one_calls a [] blk _ (by simp [go_sem, hs, z3]) (by simp [go_sem, hfz, z3])).mono ?_
      rintro e w2 ⟨rfl, rfl⟩
      go_wp2_with fail
      refine (one_none blk _ (by simp [go_sem, hs, z3])).mono ?_
      rintro e w2 ⟨rfl, rfl⟩
      go_wp2
      exact ⟨rfl, rfl, by (repeat (first | with_reducible exact grown_refl _ _ | with_reducible assumption | with_reducible refine grown_alloc ?_ _ | with_reducible refine grown_setCell ?_ _ | with_reducible refine grown_other ?_ (by first | (simp; done) | (simp; omega) | omega) _))⟩

end Go.Proofs.Ythhkafjkhogbmaa
/- Walks through what defers and recovers: told, Decode. -/
namespace Go.Proofs.Ythhkafjkhogbmaa
set_option linter.unusedSimpArgs false
set_option linter.unusedVariables false
open Go.RowKit

set_option maxHeartbeats 2000000 in
theorem told_catch (b0 b1 b2 : Nat) (c : Int) (w : World) (k : ∀ j, j < 5 → ∃ u, w.cell? ⟨b0, j, none⟩ = some u) (f0 : ∀ j, w.frozen? ⟨b0, j, none⟩ = false) (k1 : ∃ u, w.cell? ⟨b1, 0, none⟩ = some u) (f1 : w.frozen? ⟨b1, 0, none⟩ = false)
    (k2 : ∃ u, w.cell? ⟨b2, 0, none⟩ = some u) (f2 : w.frozen? ⟨b2, 0, none⟩ = false) (h01 : b0 < b1) (h12 : b1 < b2) :
    CallsD Try.prog 67 #[.pointer (some ⟨b0, 0, none⟩), .pointer (some ⟨b1, 0, none⟩), .pointer (some ⟨b2, 0, none⟩)] (.panicking [{ v := .iface 26 (.int .i64 c), recovered := false }]) w fun e u' w' =>
      e = .returned (.tuple #[]) ∧ u' = .panicking [{ v := .iface 26 (.int .i64 c), recovered := true }] ∧
      w' = ((((((w.setCell ⟨b0, 0, none⟩ (.int .i64 0)).setCell ⟨b0, 1, none⟩ (.int .i64 0)).setCell ⟨b0, 2, none⟩ (.int .i64 0)).setCell ⟨b0, 3, none⟩ (.string (BA []))).setCell ⟨b0, 4, none⟩ (.slice none 0 0)).setCell ⟨b1, 0, none⟩ (.string (BA []))).setCell ⟨b2, 0, none⟩ (.int .i64 c) := by
  obtain ⟨u0, k00⟩ := k 0 (by omega)
  obtain ⟨u1, k01⟩ := k 1 (by omega)
  obtain ⟨u2, k02⟩ := k 2 (by omega)
  obtain ⟨u3, k03⟩ := k 3 (by omega)
  obtain ⟨u4, k04⟩ := k 4 (by omega)
  obtain ⟨v1, k10⟩ := k1
  obtain ⟨v2, k20⟩ := k2
  refine callsD_of_wpS Try.func67 rfl fun c₀ cs hu => ?_
  apply wpS_seq
  apply wpS_region
  simp [wpOpsS, go_sem, recoverD, hu, Try.ntmps67, Exit.thenS]
  apply wpS_seq
  apply wpS_region
  simp [wpOpsS, go_sem, Exit.thenS]
  refine wpS_cond (t := true) (by simp [Act.eval, Array.replicate]) ?_
  simp only [if_true]
  apply wpS_seq
  apply wpS_region
  have hta : (Instr.typeAssert (.iface 26 (.int .i64 c)) 20 26 true).run Try.prog w = .ok (.tuple #[.int .i64 c, .bool true]) w := by kernel_rfl
  simp [wpOpsS, go_sem, Exit.thenS, hta, recoverD]
  apply wpS_seq
  apply wpS_seq
  apply wpS_region
  simp [wpOpsS, go_sem, Exit.thenS]
  refine wpS_cond (t := false) (by simp [Act.eval, Array.replicate]) ?_
  simp only [Bool.false_eq_true, if_false]
  refine wpS_of_wp (wp_skip ?_)
  simp only [Exit.thenS]
  apply wpS_region
  simp [wpOpsS, go_sem, k00, k01, k02, k03, k04, k10, k20, f0, f1, f2, bodyPostS, results, Try.results67]
  rfl

theorem told_idle (b0 b1 b2 : Nat) (w : World) :
    CallsD Try.prog 67 #[.pointer (some ⟨b0, 0, none⟩), .pointer (some ⟨b1, 0, none⟩), .pointer (some ⟨b2, 0, none⟩)] .returning w fun e u' w' => e = .returned (.tuple #[]) ∧ u' = .returning ∧ w' = w := by
  refine callsD_of_wpS Try.func67 rfl fun c₀ cs hu => ?_
  apply wpS_seq
  apply wpS_region
  simp [wpOpsS, go_sem, recoverD, hu, Try.ntmps67, Exit.thenS]
  apply wpS_seq
  apply wpS_region
  simp [wpOpsS, go_sem, Exit.thenS]
  refine wpS_cond (t := false) (by simp [Act.eval, Array.replicate]) ?_
  simp only [Bool.false_eq_true, if_false]
  refine wpS_of_wp (wp_skip ?_)
  cases c₀
  simp_all [bodyPostS, results, Try.results67]

theorem below_of_grown {w W w1 : World} {blk B : Nat} (h : Below B w W) (hg : W.grownBy w1 (some blk)) (hb : B ≤ blk) (hB : B ≤ W.heap.size) : Below B w w1 :=
  ⟨hg.os.trans h.os, hg.tape.trans h.tape, hg.output.trans h.output, Nat.le_trans h.size hg.size, fun k hk => (hg.block k (by omega) (by simp; omega)).trans (h.block k hk)⟩

theorem below_set {w w1 : World} {B b o : Nat} (h : Below B w w1) (hb : B ≤ b) (v : Value) : Below B w (w1.setCell ⟨b, o, none⟩ v) := h.setCell hb v
theorem idCells_get (l : List Id) (k : Nat) (hk : k < l.length) : (idCells l)[k * 2]? = some (.int .i64 (nth l k).r) ∧ (idCells l)[k * 2 + 1]? = some (.int .i64 (nth l k).n) := by
  induction l generalizing k with
  | nil => simp at hk
  | cons x l ih =>
    cases k with
    | zero => simp [idCells, nth]
    | succ k =>
      have h := ih k (by simpa using hk)
      have e : idCells (x :: l) = .int .i64 x.r :: .int .i64 x.n :: idCells l := by simp [idCells]
      rw [e, show (k + 1) * 2 = k * 2 + 1 + 1 from by omega, show k * 2 + 1 + 1 + 1 = (k * 2 + 1) + 1 + 1 from rfl]
      simpa [nth] using h
theorem ids_of_own {w : World} {base : Nat} {v : Value} {l : List Id} (h : w.ownsRow base 25 2 v l.length (idCells l)) : IdsIn (fun b => base ≤ b) w v l := by
  rcases h.2 with ⟨rfl, h0⟩ | ⟨g, cap, cur, rfl, hg, h1, h2, h3, h4, h5⟩
  · refine ⟨none, 0, by rw [h0], by omega, by decide, fun k hk => by omega⟩
  · refine ⟨some ⟨g, 0, none⟩, cap, rfl, h2, h3, fun k hk => ⟨g, 0, rfl, hg, ?_, ?_, ?_⟩⟩
    · exact (h.lt g rfl).2
    · rw [Nat.zero_add, h.cellAt _ (by omega)]; exact (idCells_get l k hk).1
    · rw [Nat.zero_add, h.cellAt _ (by omega)]; exact (idCells_get l k hk).2
theorem own_below {w w' : World} {base size n : Nat} {e : TypeId} {v : Value} {xs : List Value} (h : w.ownsRow base e size v n xs) (hb : Below w.heap.size w w') : w'.ownsRow base e size v n xs := by
  refine ⟨h.1, ?_⟩
  rcases h.2 with h2 | ⟨g, cap, cur, hv, hg, hh, r⟩
  · exact .inl h2
  · have hlt : g < w.heap.size := by subst hv; exact (h.lt g rfl).2
    exact .inr ⟨g, cap, cur, hv, hg, (hb.block g hlt).trans hh, r⟩
theorem own_set {w : World} {base size n b o : Nat} {e : TypeId} {v : Value} {xs : List Value} (h : w.ownsRow base e size v n xs) (hb : b < base) (u : Value) : (w.setCell ⟨b, o, none⟩ u).ownsRow base e size v n xs := by
  refine ⟨h.1, ?_⟩
  rcases h.2 with h2 | ⟨g, cap, cur, hv, hg, hh, r⟩
  · exact .inl h2
  · exact .inr ⟨g, cap, cur, hv, hg, (Below.heap_setCell _ _ _ _ (by simp; omega)).trans hh, r⟩
theorem own_sets {w : World} {base size n b : Nat} {e : TypeId} {v u0 u1 u2 u3 u4 : Value} {xs : List Value} (h : w.ownsRow base e size v n xs) (hb : b < base) :
    (((((w.setCell ⟨b, 0, none⟩ u0).setCell ⟨b, 1, none⟩ u1).setCell ⟨b, 2, none⟩ u2).setCell ⟨b, 3, none⟩ u3).setCell ⟨b, 4, none⟩ u4).drew.ownsRow base e size v n xs :=
  World.ownsRow.drew (own_set (own_set (own_set (own_set (own_set h hb u0) hb u1) hb u2) hb u3) hb u4)

/-- only the normal way out -/
def onlyNormal (Q : Exit → Act → World → Prop) (e : Exit) (a : Act) (w : World) : Prop :=
  match e with
  | .normal => Q .normal a w
  | _ => False
theorem wp_onlyNormal {P : Program} {c : Code} {Q : Exit → Act → World → Prop} {a : Act} {w : World} (h : c.wp P (onlyNormal Q) a w) : c.wp P Q a w := by
  refine Code.wp_mono (fun e a w h => ?_) h
  cases e <;> first | exact h | exact h.elim
theorem hI_set {w : World} {base b : Nat} {v u0 u1 u2 u3 u4 : Value} {l : List Id} (h : IdsIn (fun b => base ≤ b) w v l) (hb : b < base) :
    IdsIn (fun b => base ≤ b) (((((w.setCell ⟨b, 0, none⟩ u0).setCell ⟨b, 1, none⟩ u1).setCell ⟨b, 2, none⟩ u2).setCell ⟨b, 3, none⟩ u3).setCell ⟨b, 4, none⟩ u4).drew v l := by
  refine h.keep (by simp [World.drew]) fun k hk _ => ?_
  have e : ∀ (W : World) (o : Nat) (u : Value), (W.setCell ⟨b, o, none⟩ u).heap[k]? = W.heap[k]? := fun W o u => Below.heap_setCell _ _ _ _ (by simp; omega)
  rw [heap_drew, e, e, e, e, e]
theorem rdTail_text {x : Id} {c : Int} {r : Except Int (List Id × List UInt8)} {z : Entry} {t' : List UInt8} (h : rdTail x c r = .ok (z, t')) : z.t.size ≤ 255 := by
  unfold rdTail at h
  split at h
  · cases h
  · cases h
  · rename_i l m t
    split at h
    · cases h
    · cases h
      have := m.toNat_lt
      simp only [BA_size, List.length_take]
      omega
theorem rdEntry_text {t : List UInt8} {z : Entry} {t' : List UInt8} (h : rdEntry t = .ok (z, t')) : z.t.size ≤ 255 := by
  unfold rdEntry at h
  split at h
  · cases h
  · cases h
  · cases h
  · exact rdTail_text h

/-- what told comes to -/
def ToldE (w : World) (r : Except Int (Entry × List UInt8)) (e : Ending) (w' : World) : Prop :=
  match r with
  | .error c => e = .returned (.tuple #[.agg #[.int .i64 0, .int .i64 0, .int .i64 0, .string (BA []), .slice none 0 0], .string (BA []), .int .i64 c]) ∧ Below w.heap.size w w'
  | .ok (x, t) => ∃ lv, e = .returned (.tuple #[.agg #[.int .i64 x.id.r, .int .i64 x.id.n, .int .i64 x.c, .string x.t, lv], .string (BA t), .int .i64 (checkEntry x)]) ∧ Below w.heap.size w w' ∧ w'.ownsRow w.heap.size 25 2 lv x.ls.length (idCells x.ls)

theorem told_end {w w2 : World} {x : Entry} {t' : List UInt8} {v u0 u1 u2 u3 u4 u5 u6 : Value} (hb : Below w.heap.size w w2) (ho : w2.ownsRow (w.heap.size + 1 + 1 + 1 + 1) 25 2 v x.ls.length (idCells x.ls)) :
    ToldE w (.ok (x, t')) (.returned (.tuple #[.agg #[.int .i64 x.id.r, .int .i64 x.id.n, .int .i64 x.c, .string x.t, v], .string (BA t'), .int .i64 (checkEntry x)]))
      (((((((w2.setCell ⟨w.heap.size, 0, none⟩ u0).setCell ⟨w.heap.size, 1, none⟩ u1).setCell ⟨w.heap.size, 2, none⟩ u2).setCell ⟨w.heap.size, 3, none⟩ u3).setCell ⟨w.heap.size, 4, none⟩ u4).setCell ⟨w.heap.size + 1, 0, none⟩ u5).setCell ⟨w.heap.size + 1 + 1, 0, none⟩ u6) := by
  refine ⟨v, rfl, ?_, ?_⟩
  · exact below_set (below_set (below_set (below_set (below_set (below_set (below_set hb (by omega) _) (by omega) _) (by omega) _) (by omega) _) (by omega) _) (by omega) _) (by omega) _
  · refine own_mono (base := w.heap.size + 1 + 1 + 1 + 1) ?_ (by omega)
    exact own_set (own_set (own_set (own_set (own_set (own_set (own_set ho (by omega) _) (by omega) _) (by omega) _) (by omega) _) (by omega) _) (by omega) _) (by omega) _

set_option maxHeartbeats 2000000 in
theorem told_err (t : List UInt8) (c : Int) (w : World) (hr : rdEntry t = .error c) :
    Calls Try.prog 52 #[.string (BA t)] w (ToldE w (rdEntry t)) := by
  have hmf : ∀ (fn : Fn) (first cap : Array Value) (w : World), (Instr.makeFunc fn first cap).run Try.prog w = .ok (.func fn first cap) w := fun _ _ _ _ => rfl
  have HR := Lib.hid hr
  rw [hr]
  clear hr
  go_enter_defers Try.func52, Try.ntmps52
  go_wp2_with fail
  refine (entry_read t (w.heap.size + 1 + 1 + 1) _ (by simp [go_sem]) (by simp [go_sem]) (by simp)).mono ?_
  intro e w1 h
  rw [HR.out] at h
  obtain ⟨rfl, hg⟩ := h
  have hz := hg.size
  simp only [World.size_alloc] at hz
  have b0 := grown_blk hg (b := w.heap.size) (by simp; omega) (by simp; omega)
  have b1 := grown_blk hg (b := w.heap.size + 1) (by simp) (by simp)
  have b2 := grown_blk hg (b := w.heap.size + 1 + 1) (by simp) (by simp)
  have c0 : w1.cell? ⟨w.heap.size, 0, none⟩ = some (.int .i64 0) := by rw [cell_blk b0]; simp [go_sem]
  have c1 : w1.cell? ⟨w.heap.size, 1, none⟩ = some (.int .i64 0) := by rw [cell_blk b0]; simp [go_sem]
  have c2 : w1.cell? ⟨w.heap.size, 2, none⟩ = some (.int .i64 0) := by rw [cell_blk b0]; simp [go_sem]
  have c3 : w1.cell? ⟨w.heap.size, 3, none⟩ = some (.string ⟨#[]⟩) := by rw [cell_blk b0]; simp [go_sem]
  have c4 : w1.cell? ⟨w.heap.size, 4, none⟩ = some (.slice none 0 0) := by rw [cell_blk b0]; simp [go_sem]
  have c5 : w1.cell? ⟨w.heap.size + 1, 0, none⟩ = some (.string ⟨#[]⟩) := by rw [cell_blk b1]; simp [go_sem]
  have c6 : w1.cell? ⟨w.heap.size + 1 + 1, 0, none⟩ = some (.int .i64 0) := by rw [cell_blk b2]; simp [go_sem]
  have d0 : ∀ o, w1.frozen? ⟨w.heap.size, o, none⟩ = false := fun o => by rw [frozen_blk b0]; simp [go_sem]
  have d1 : w1.frozen? ⟨w.heap.size + 1, 0, none⟩ = false := by rw [frozen_blk b1]; simp [go_sem]
  have d2 : w1.frozen? ⟨w.heap.size + 1 + 1, 0, none⟩ = false := by rw [frozen_blk b2]; simp [go_sem]
  go_wp2
  refine leaves_cons (f := 67) (args := #[.pointer (some ⟨w.heap.size, 0, none⟩), .pointer (some ⟨w.heap.size + 1, 0, none⟩), .pointer (some ⟨w.heap.size + 1 + 1, 0, none⟩)]) (by simp) (by simp [go_sem]) ?_
  refine (told_catch w.heap.size (w.heap.size + 1) (w.heap.size + 1 + 1) c _ (fun j hj => ?_) (fun j => ?_) ?_ ?_ ?_ ?_ (by omega) (by omega)).mono ?_
  · match j, hj with
    | 0, _ => exact ⟨_, c0⟩
    | 1, _ => exact ⟨_, c1⟩
    | 2, _ => exact ⟨_, c2⟩
    | 3, _ => exact ⟨_, c3⟩
    | 4, _ => exact ⟨_, c4⟩
  · exact d0 j
  · exact ⟨_, c5⟩
  · exact d1
  · exact ⟨_, c6⟩
  · exact d2
  rintro e u' w'' ⟨rfl, rfl, rfl⟩
  simp [Leaves, settle, results, Try.results52, go_sem, c0, c1, c2, c3, c4, c5, c6]
  have B : Below w.heap.size w w1 := below_of_grown (by (repeat (first | exact Below.refl _ _ | assumption | refine Below.drew ?_ | refine below_drewN ?_ | refine Below.alloc ?_ (by first | (simp; done) | (simp; omega) | omega) _ | refine Below.setCell ?_ (by first | (simp; done) | (simp; omega) | omega) _))) hg (by omega) (by simp; omega)
  refine ⟨rfl, ?_⟩
  exact below_set (below_set (below_set (below_set (below_set (below_set (below_set B (by omega) _) (by omega) _) (by omega) _) (by omega) _) (by omega) _) (by omega) _) (by omega) _

set_option maxHeartbeats 2000000 in
theorem told_ok (t : List UInt8) (x : Entry) (t' : List UInt8) (w : World) (hr : rdEntry t = .ok (x, t')) :
    Calls Try.prog 52 #[.string (BA t)] w (ToldE w (rdEntry t)) := by
  have hmf : ∀ (fn : Fn) (first cap : Array Value) (w : World), (Instr.makeFunc fn first cap).run Try.prog w = .ok (.func fn first cap) w := fun _ _ _ _ => rfl
  have HR := Lib.hid hr
  rw [hr]
  clear hr
  go_enter_defers Try.func52, Try.ntmps52
  go_wp2_with fail
  refine (entry_read t (w.heap.size + 1 + 1 + 1) _ (by simp [go_sem]) (by simp [go_sem]) (by simp)).mono ?_
  intro e w1 h
  rw [HR.out] at h
  obtain ⟨lv, rfl, ⟨hg, hs, hf⟩, ho⟩ := h
  have hz := hg.size
  simp only [World.size_alloc] at hz ho
  have b0 := grown_blk hg (b := w.heap.size) (by simp; omega) (by simp; omega)
  have b1 := grown_blk hg (b := w.heap.size + 1) (by simp) (by simp)
  have b2 := grown_blk hg (b := w.heap.size + 1 + 1) (by simp) (by simp)
  have c0 : w1.cell? ⟨w.heap.size, 0, none⟩ = some (.int .i64 0) := by rw [cell_blk b0]; simp [go_sem]
  have c1 : w1.cell? ⟨w.heap.size, 1, none⟩ = some (.int .i64 0) := by rw [cell_blk b0]; simp [go_sem]
  have c2 : w1.cell? ⟨w.heap.size, 2, none⟩ = some (.int .i64 0) := by rw [cell_blk b0]; simp [go_sem]
  have c3 : w1.cell? ⟨w.heap.size, 3, none⟩ = some (.string ⟨#[]⟩) := by rw [cell_blk b0]; simp [go_sem]
  have c4 : w1.cell? ⟨w.heap.size, 4, none⟩ = some (.slice none 0 0) := by rw [cell_blk b0]; simp [go_sem]
  have c5 : w1.cell? ⟨w.heap.size + 1, 0, none⟩ = some (.string ⟨#[]⟩) := by rw [cell_blk b1]; simp [go_sem]
  have c6 : w1.cell? ⟨w.heap.size + 1 + 1, 0, none⟩ = some (.int .i64 0) := by rw [cell_blk b2]; simp [go_sem]
  have d0 : ∀ o, w1.frozen? ⟨w.heap.size, o, none⟩ = false := fun o => by rw [frozen_blk b0]; simp [go_sem]
  have d1 : w1.frozen? ⟨w.heap.size + 1, 0, none⟩ = false := by rw [frozen_blk b1]; simp [go_sem]
  have d2 : w1.frozen? ⟨w.heap.size + 1 + 1, 0, none⟩ = false := by rw [frozen_blk b2]; simp [go_sem]
  have B : Below w.heap.size w w1 := below_of_grown (by (repeat (first | exact Below.refl _ _ | assumption | refine Below.drew ?_ | refine below_drewN ?_ | refine Below.alloc ?_ (by first | (simp; done) | (simp; omega) | omega) _ | refine Below.setCell ?_ (by first | (simp; done) | (simp; omega) | omega) _))) hg (by omega) (by simp; omega)
  clear b0 b1 b2
  obtain ⟨a, m, rfl⟩ := own_form ho
  have hI := ids_of_own ho
  have HT : x.t.size ≤ maxLen := Nat.le_trans (rdEntry_text HR.out) (by decide)
  have HO := Lib.hid ho
  have HI := Lib.hid hI
  have HTT := Lib.hid HT
  have HG := Lib.hid hg
  clear ho hI HT hg
  have zA : w.heap.size < w1.heap.size := by omega
  have zB : w.heap.size + 1 < w1.heap.size := by omega
  have zC : w.heap.size + 1 + 1 < w1.heap.size := by omega
  have zD : w.heap.size + 1 + 1 + 1 < w1.heap.size := by omega
  go_wp2_with fail
  refine wp_onlyNormal ?_
  (first | go_region_law (go_simp; go_at_call 28; refine (check_calls _ x _ _ (hI_set HI.out (by omega)) HTT.out).mono ?_; rintro e w2 ⟨rfl, hb⟩; obtain ⟨hc, hff⟩ := bcell hb) | fail)
  all_goals
    have O1 := HO.out
    have O2 := own_below (own_sets O1 (by omega)) hb
    have B2 := below_after (w := w) (Below.drew (below_set (below_set (below_set (below_set (below_set B (by omega) _) (by omega) _) (by omega) _) (by omega) _) (by omega) _)) hb
    have BH := Lib.hid B2
    have OH := Lib.hid O2
    have e0 : w2.cell? ⟨w.heap.size, 0, none⟩ = some (.int .i64 x.id.r) := by rw [hc _ _ (by simpa using zA)]; simp [go_sem, c0]
    have e1 : w2.cell? ⟨w.heap.size, 1, none⟩ = some (.int .i64 x.id.n) := by rw [hc _ _ (by simpa using zA)]; simp [go_sem, c1]
    have e2 : w2.cell? ⟨w.heap.size, 2, none⟩ = some (.int .i64 x.c) := by rw [hc _ _ (by simpa using zA)]; simp [go_sem, c2]
    have e3 : w2.cell? ⟨w.heap.size, 3, none⟩ = some (.string x.t) := by rw [hc _ _ (by simpa using zA)]; simp [go_sem, c3]
    have e4 : w2.cell? ⟨w.heap.size, 4, none⟩ = some (.slice a x.ls.length m) := by rw [hc _ _ (by simpa using zA)]; simp [go_sem, c4]
    have e5 : w2.cell? ⟨w.heap.size + 1, 0, none⟩ = some (.string ⟨#[]⟩) := by rw [hc _ _ (by simpa using zB)]; simp [go_sem, c5]
    have e6 : w2.cell? ⟨w.heap.size + 1 + 1, 0, none⟩ = some (.int .i64 0) := by rw [hc _ _ (by simpa using zC)]; simp [go_sem, c6]
    clear hb B B2 O1 O2 hf hs hc hff c0 c1 c2 c3 c4 c5 c6 d0 d1 d2
    simp only [onlyNormal]
    go_wp2
    refine leaves_cons (f := 67) (args := #[.pointer (some ⟨w.heap.size, 0, none⟩), .pointer (some ⟨w.heap.size + 1, 0, none⟩), .pointer (some ⟨w.heap.size + 1 + 1, 0, none⟩)]) (by simp) (by simp [go_sem]) ?_
    refine (told_idle w.heap.size (w.heap.size + 1) (w.heap.size + 1 + 1) _).mono ?_
    rintro e u' w'' ⟨rfl, rfl, rfl⟩
    simp [Leaves, settle, results, Try.results52, go_sem, e0, e1, e2, e3, e4, e5, e6]
    exact told_end BH.out OH.out
theorem told_calls (t : List UInt8) (w : World) : Calls Try.prog 52 #[.string (BA t)] w (ToldE w (rdEntry t)) := by
  cases h : rdEntry t with
  | error c => rw [← h]; exact told_err t c w h
  | ok v => rw [← h]; exact told_ok t v.1 v.2 w h

end Go.Proofs.Ythhkafjkhogbmaa
/- Walk through Decode: what it answers. -/
namespace Go.Proofs.Ythhkafjkhogbmaa
set_option linter.unusedSimpArgs false
set_option linter.unusedVariables false
open Go.RowKit

theorem told_walk (t : List UInt8) (w : World) :
    Calls Try.prog 52 #[.string (BA t)] w fun e w' => ∃ a m, e = .returned (.tuple #[.agg #[.int .i64 (toldOut t).1.id.r, .int .i64 (toldOut t).1.id.n, .int .i64 (toldOut t).1.c, .string (toldOut t).1.t, .slice a (toldOut t).1.ls.length m], .string (BA (toldOut t).2.1), .int .i64 (toldOut t).2.2]) ∧
      Below w.heap.size w w' ∧ w'.ownsRow w.heap.size 25 2 (.slice a (toldOut t).1.ls.length m) (toldOut t).1.ls.length (idCells (toldOut t).1.ls) := by
  refine (told_calls t w).mono fun e w' h => ?_
  unfold toldOut
  cases hr : rdEntry t with
  | error c =>
    rw [hr] at h
    exact ⟨none, 0, h.1, h.2, World.ownsRow_nil _ _ _ _⟩
  | ok v =>
    rw [hr] at h
    obtain ⟨lv, he, hb, ho⟩ := h
    obtain ⟨a, m, rfl⟩ := own_form ho
    exact ⟨a, m, he, hb, ho⟩

theorem dec_below {w w1 : World} {u0 u1 u2 u3 u4 : Value} {o : Obj} (hb : Below w.heap.size w w1) :
    Below w.heap.size w ((((((w1.setCell ⟨w.heap.size, 0, none⟩ u0).setCell ⟨w.heap.size, 1, none⟩ u1).setCell ⟨w.heap.size, 2, none⟩ u2).setCell ⟨w.heap.size, 3, none⟩ u3).setCell ⟨w.heap.size, 4, none⟩ u4).alloc o) := by
  have h := below_set (o := 4) (below_set (o := 3) (below_set (o := 2) (below_set (o := 1) (below_set (o := 0) hb (Nat.le_refl _) u0) (Nat.le_refl _) u1) (Nat.le_refl _) u2) (Nat.le_refl _) u3) (Nat.le_refl _) u4
  exact Below.alloc h h.size o
theorem dec_own {w w1 : World} {u0 u1 u2 u3 u4 v : Value} {o : Obj} {n : Nat} {xs : List Value} (h : w1.ownsRow (w.heap.size + 1) 25 2 v n xs) :
    ((((((w1.setCell ⟨w.heap.size, 0, none⟩ u0).setCell ⟨w.heap.size, 1, none⟩ u1).setCell ⟨w.heap.size, 2, none⟩ u2).setCell ⟨w.heap.size, 3, none⟩ u3).setCell ⟨w.heap.size, 4, none⟩ u4).alloc o).ownsRow w.heap.size 25 2 v n xs := by
  have l := Nat.lt_succ_self w.heap.size
  have h := own_set (o := 4) (own_set (o := 3) (own_set (o := 2) (own_set (o := 1) (own_set (o := 0) h l u0) l u1) l u2) l u3) l u4
  exact own_mono (h.alloc o) (Nat.le_succ _)

set_option maxHeartbeats 2000000 in
theorem decode_calls (t : List UInt8) (w : World) (ht : t.length ≤ maxLen) :
    Calls Try.prog 21 #[.string (BA t)] w fun e w' => ∃ lv, e = .returned (.tuple #[.agg #[.int .i64 (decOut t).1.id.r, .int .i64 (decOut t).1.id.n, .int .i64 (decOut t).1.c, .string (decOut t).1.t, lv], .int .i64 (decOut t).2.1, .int .i64 (decOut t).2.2]) ∧
      Below w.heap.size w w' ∧ w'.ownsRow w.heap.size 25 2 lv (decOut t).1.ls.length (idCells (decOut t).1.ls) := by
  have hl := toldOut_len t
  unfold maxLen at ht
  have a1 := BA_size
  have n1 : (0 : Int) ≤ (t.length : Int) - ((toldOut t).2.1.length : Int) := by omega
  have n2 : (t.length : Int) - ((toldOut t).2.1.length : Int) ≤ 9223372036854775807 := by omega
  by_cases h : (toldOut t).2.2 = 0
  · have H : Hid (decOut t = ((toldOut t).1, (t.length : Int) - ((toldOut t).2.1.length : Int), 0)) := by show _ = _; rw [decOut, if_pos h]
    rw [H.out]
    go_enter Try.func21, Try.ntmps21
    go_wp2_with fail
    refine (told_walk t _).mono ?_
    rintro e w1 ⟨a, m, rfl, hb, ho⟩
    rw [h]
    obtain ⟨hc, hff⟩ := bcell hb
    have z0 : w.heap.size < w1.heap.size := by have := hb.size; simp at this; omega
    have z1 : w.heap.size ≠ w1.heap.size := by omega
    have z2 : w1.heap.size ≠ w.heap.size := by omega
    have c0 : w1.cell? ⟨w.heap.size, 0, none⟩ = some (.int .i64 0) := by rw [hc _ _ (by simp)]; simp [go_sem]
    have c1 : w1.cell? ⟨w.heap.size, 1, none⟩ = some (.int .i64 0) := by rw [hc _ _ (by simp)]; simp [go_sem]
    have c2 : w1.cell? ⟨w.heap.size, 2, none⟩ = some (.int .i64 0) := by rw [hc _ _ (by simp)]; simp [go_sem]
    have c3 : w1.cell? ⟨w.heap.size, 3, none⟩ = some (.string ⟨#[]⟩) := by rw [hc _ _ (by simp)]; simp [go_sem]
    have c4 : w1.cell? ⟨w.heap.size, 4, none⟩ = some (.slice none 0 0) := by rw [hc _ _ (by simp)]; simp [go_sem]
    have d0 : ∀ o, w1.frozen? ⟨w.heap.size, o, none⟩ = false := fun o => by rw [hff _ _ (by simp)]; simp [go_sem]
    have B := below_after (w := w) (by (repeat (first | exact Below.refl _ _ | assumption | refine Below.drew ?_ | refine below_drewN ?_ | refine Below.alloc ?_ (by first | (simp; done) | (simp; omega) | omega) _ | refine Below.setCell ?_ (by first | (simp; done) | (simp; omega) | omega) _))) hb
    have BH := Lib.hid B
    have OH := Lib.hid (own_mono ho (base' := w.heap.size + 1) (by simp))
    clear hb ho B hc hff
    go_wp2
    refine bodyPost_ret (v := .tuple #[.agg #[.int .i64 (toldOut t).1.id.r, .int .i64 (toldOut t).1.id.n, .int .i64 (toldOut t).1.c, .string (toldOut t).1.t, .slice a (toldOut t).1.ls.length m], .int .i64 ((t.length : Int) - ((toldOut t).2.1.length : Int)), .int .i64 0]) (by simp [results, Try.results21, go_sem, c0, c1, c2, c3, c4, z0]) rfl ⟨_, rfl, ?_, ?_⟩
    · exact dec_below BH.out
    · exact dec_own OH.out
  · have H : Hid (decOut t = (zeroE, 0, (toldOut t).2.2)) := by show _ = _; rw [decOut, if_neg h]
    have h1 : ((toldOut t).2.2 == 0) = false := by simpa using h
    have h2 : ((toldOut t).2.2 != 0) = true := by simpa using h
    rw [H.out]
    go_enter Try.func21, Try.ntmps21
    go_wp2_with fail
    refine (told_walk t _).mono ?_
    rintro e w1 ⟨a, m, rfl, hb, ho⟩
    obtain ⟨hc, hff⟩ := bcell hb
    have z0 : w.heap.size < w1.heap.size := by have := hb.size; simp at this; omega
    have z1 : w.heap.size ≠ w1.heap.size := by omega
    have z2 : w1.heap.size ≠ w.heap.size := by omega
    have c0 : w1.cell? ⟨w.heap.size, 0, none⟩ = some (.int .i64 0) := by rw [hc _ _ (by simp)]; simp [go_sem]
    have c1 : w1.cell? ⟨w.heap.size, 1, none⟩ = some (.int .i64 0) := by rw [hc _ _ (by simp)]; simp [go_sem]
    have c2 : w1.cell? ⟨w.heap.size, 2, none⟩ = some (.int .i64 0) := by rw [hc _ _ (by simp)]; simp [go_sem]
    have c3 : w1.cell? ⟨w.heap.size, 3, none⟩ = some (.string ⟨#[]⟩) := by rw [hc _ _ (by simp)]; simp [go_sem]
    have c4 : w1.cell? ⟨w.heap.size, 4, none⟩ = some (.slice none 0 0) := by rw [hc _ _ (by simp)]; simp [go_sem]
    have d0 : ∀ o, w1.frozen? ⟨w.heap.size, o, none⟩ = false := fun o => by rw [hff _ _ (by simp)]; simp [go_sem]
    have B := below_after (w := w) (by (repeat (first | exact Below.refl _ _ | assumption | refine Below.drew ?_ | refine below_drewN ?_ | refine Below.alloc ?_ (by first | (simp; done) | (simp; omega) | omega) _ | refine Below.setCell ?_ (by first | (simp; done) | (simp; omega) | omega) _))) hb
    have BH := Lib.hid B
    have OH := Lib.hid (own_mono ho (base' := w.heap.size + 1) (by simp))
    clear hb ho B hc hff
    go_wp2
    refine bodyPost_ret (v := .tuple #[.agg #[.int .i64 0, .int .i64 0, .int .i64 0, .string ⟨#[]⟩, .slice none 0 0], .int .i64 0, .int .i64 (toldOut t).2.2]) (by simp [results, Try.results21, go_sem, c0, c1, c2, c3, c4, z0]) rfl ⟨_, rfl, ?_, ?_⟩
    · exact dec_below BH.out
    · exact World.ownsRow_nil _ _ _ _

end Go.Proofs.Ythhkafjkhogbmaa
/- Decode, by its hand walk: a contract. -/
namespace Go.Proofs.Ythhkafjkhogbmaa
open Go.RowKit
theorem ids_rep {S : Nat → Prop} {T : Nat → Nat → Prop} {w : World} {v : Value} {l : List Id} (h : IdsIn S w v l) (hT : ∀ b o, S b → b < w.heap.size → T b o) : RepP T w (.list (l.map cId)) v := by
  obtain ⟨a, c, rfl, h1, h2, h3⟩ := h
  have key : ∀ (k : Nat) row (j : Nat) p, (l.map cId)[k]? = some row → row[j]? = some p → k < l.length ∧ ((j = 0 ∧ p = .int .i64 (nth l k).r) ∨ (j = 1 ∧ p = .int .i64 (nth l k).n)) := by
    intro k row j p hk hj
    obtain ⟨y, hy, rfl⟩ := map_get hk
    have hlt : k < l.length := (List.getElem?_eq_some_iff.1 hy).1
    have : y = nth l k := by have := nth_get? l k hlt; rw [hy] at this; exact Option.some.inj this
    subst this
    refine ⟨hlt, ?_⟩
    match j, hj with
    | 0, hj => simp [cId] at hj; exact .inl ⟨rfl, hj.symm⟩
    | 1, hj => simp [cId] at hj; exact .inr ⟨rfl, hj.symm⟩
    | j + 2, hj => simp [cId] at hj
  have := RepP.list (S := T) (w := w) (l.map cId) a c 2 (fun k j => if j = 0 then .int .i64 (nth l k).r else .int .i64 (nth l k).n) (by simpa using h1) h2 (by omega) (fun row hr => by
    obtain ⟨y, -, rfl⟩ := List.mem_map.1 hr; rfl) (fun k row j p hk hj => by
    obtain ⟨hlt, hp⟩ := key k row j p hk hj
    obtain ⟨b, o, ha, hs, hb, c1, c2⟩ := h3 k hlt
    refine ⟨b, o, ha, hT _ _ hs hb, ?_⟩
    rcases hp with ⟨rfl, -⟩ | ⟨rfl, -⟩
    · simpa using c1
    · simpa using c2) (fun k row j p hk hj => by
    obtain ⟨hlt, hp⟩ := key k row j p hk hj
    rcases hp with ⟨rfl, rfl⟩ | ⟨rfl, rfl⟩
    · exact .int _ _
    · exact .int _ _)
  simpa using this

theorem decode_meets (t : List UInt8) (ht : t.length ≤ maxLen) : Meets Try.prog 21 [.str (BA t)] [] (.tup [.agg (cE (decOut t).1), .int .i64 (decOut t).2.1, .int .i64 (decOut t).2.2]) [] := by
  intro x vs hx hr hp
  obtain ⟨hlen, hp0⟩ := hp
  have hvs : vs = #[.string (BA t)] := by
    cases vs with
    | mk l =>
      match l, hlen with
      | [v], _ =>
        have := hp0 0 _ v rfl rfl
        rw [this.str_inv]
  subst hvs
  refine (decode_calls t x.w0 ht).mono fun e w' ⟨lv, he, hb, ho⟩ => ?_
  subst he
  have hstep : Step x.w0 w' fun _ => False := ⟨hb.size, hb.os, hb.tape, hb.output, fun b h _ => hb.block b h⟩
  obtain ⟨k1, -, -⟩ := hr.grow hstep
  refine ⟨_, x.C0, rfl, k1, ?_⟩
  have hS : ∀ b o, x.w0.heap.size ≤ b → b < w'.heap.size → Stab x x.C0 [] w' b o := fun b o h1 h2 => ⟨.inr (.inl h1), h2, fun id ob h => by simp at h⟩
  have hl := ids_rep (T := Stab x x.C0 [] w') (ids_of_own ho) hS
  have hone : ∃ a c, lv = .slice a (decOut t).1.ls.length c := own_form ho
  refine .tup _ [_, _, _] rfl fun j p u hj hu => ?_
  match j, hj, hu with
  | 0, hj, hu =>
    simp at hj hu
    subst hj; subst hu
    refine .agg (cE (decOut t).1) [_, _, _, _, lv] rfl (fun j y hy => ?_) fun j p y hp hy => ?_
    · obtain ⟨a, c, rfl⟩ := hone
      match j, hy with
      | 0, hy => simp at hy; subst hy; rfl
      | 1, hy => simp at hy; subst hy; rfl
      | 2, hy => simp at hy; subst hy; rfl
      | 3, hy => simp at hy; subst hy; rfl
      | 4, hy => simp at hy; subst hy; rfl
      | j + 5, hy => simp at hy
    · match j, hp, hy with
      | 0, hp, hy => simp [cE] at hp hy; subst hp; subst hy; exact .pure (.int _ _)
      | 1, hp, hy => simp [cE] at hp hy; subst hp; subst hy; exact .pure (.int _ _)
      | 2, hp, hy => simp [cE] at hp hy; subst hp; subst hy; exact .pure (.int _ _)
      | 3, hp, hy => simp [cE] at hp hy; subst hp; subst hy; exact .pure (.str _)
      | 4, hp, hy => simp [cE] at hp hy; subst hp; subst hy; exact .pure hl
      | j + 5, hp, hy => simp at hy
  | 1, hj, hu => simp at hj hu; subst hj; subst hu; exact .pure (.int _ _)
  | 2, hj, hu => simp at hj hu; subst hj; subst hu; exact .pure (.int _ _)
  | j + 3, hj, hu => simp at hu
end Go.Proofs.Ythhkafjkhogbmaa
/- Encode, by its hand walk: a contract. -/
namespace Go.Proofs.Ythhkafjkhogbmaa
open Go.RowKit
/-- ids in memory, off the abstract list -/
theorem rep_ids {T : Nat → Nat → Prop} {w : World} {v : Value} {l : List Id} (hT : ∀ b o, T b o → b < w.heap.size) (h : RepP T w (.list (l.map cId)) v) : IdsIn (fun _ => True) w v l := by
  generalize hr : l.map cId = rows at h
  cases h with
  | list rows a c sz x hc hm hsz hz hl hx =>
    subst hr
    have hlen : (l.map cId).length = l.length := by simp
    refine ⟨a, c, by rw [hlen], by simpa using hc, hm, fun k hk => ?_⟩
    have hrow : (l.map cId)[k]? = some (cId (nth l k)) := by simp [nth_get? l k hk]
    have h2 : sz = 2 := by have := hz (cId (nth l k)) (List.mem_of_getElem? hrow); simp [cId] at this; omega
    subst h2
    obtain ⟨b, o, e1, e2, e3⟩ := hl k _ 0 (.int .i64 (nth l k).r) hrow rfl
    obtain ⟨b', o', f1, f2, f3⟩ := hl k _ 1 (.int .i64 (nth l k).n) hrow rfl
    rw [e1] at f1; cases f1
    have g0 := hx k _ 0 (.int .i64 (nth l k).r) hrow rfl
    have g1 := hx k _ 1 (.int .i64 (nth l k).n) hrow rfl
    refine ⟨b, o, e1, trivial, hT _ _ e2, ?_, ?_⟩
    · rw [show o + k * 2 = o + k * 2 + 0 by omega, e3, (RepV.pure (C := ⟨0, fun _ => 0, fun _ => Go.undef, fun _ => 0⟩) g0).int_inv]
    · rw [f3, (RepV.pure (C := ⟨0, fun _ => 0, fun _ => Go.undef, fun _ => 0⟩) g1).int_inv]

theorem encode_meets (e : Entry) (ht : e.t.size ≤ maxLen) : Meets Try.prog 20 [.agg (cE e)] [] (.tup [.str (BA (encOut e)), .int .i64 (checkEntry e)]) [] := by
  intro x vs hx hr hp
  obtain ⟨hlen, hp0⟩ := hp
  obtain ⟨v, rfl, hv⟩ : ∃ v, vs = #[v] ∧ RepV (Stab x x.C0 [] x.w0) x.w0 x.C0 (.agg (cE e)) v := by
    cases vs with
    | mk l =>
      match l, hlen with
      | [v], _ => exact ⟨v, rfl, hp0 0 _ v rfl rfl⟩
  obtain ⟨us, rfl, h1, -, h2⟩ := hv.agg_inv
  match us, h1 with
  | [a, b, c, d, lv], _ =>
    have ea := (h2 0 _ a rfl rfl).int_inv
    have eb := (h2 1 _ b rfl rfl).int_inv
    have ec := (h2 2 _ c rfl rfl).int_inv
    have ed := (h2 3 _ d rfl rfl).str_inv
    subst ea; subst eb; subst ec; subst ed
    have hl := rep_ids (fun b o h => h.2.1) (h2 4 _ lv rfl rfl).list_inv
    refine (encode_calls _ e lv x.w0 hl ht).mono fun en w' ⟨he, hb⟩ => ?_
    subst he
    have hstep : Step x.w0 w' fun _ => False := ⟨hb.size, hb.os, hb.tape, hb.output, fun b h _ => hb.block b h⟩
    obtain ⟨k1, -, -⟩ := hr.grow hstep
    refine ⟨_, x.C0, rfl, k1, .tup _ [_, _] rfl fun j p u hj hu => ?_⟩
    match j, hj, hu with
    | 0, hj, hu => simp at hj hu; subst hj; subst hu; exact .pure (.str _)
    | 1, hj, hu => simp at hj hu; subst hj; subst hu; exact .pure (.int _ _)
    | j + 2, hj, hu => simp at hu
end Go.Proofs.Ythhkafjkhogbmaa
/- entryBegun answers true. -/
namespace Go.Proofs.Ythhkafjkhogbmaa
set_option linter.unusedSimpArgs false
set_option linter.unusedVariables false
open Go.RowKit
theorem begun_enc : encOut e2 = [0, 2, 3, 1, 0, 1, 6, 100, 114, 111, 112, 32, 97] ∧ checkEntry e2 = 0 := by decide +kernel
def bt1 : List UInt8 := [0, 2, 3, 1, 0, 1, 6, 100, 114, 111, 112, 32, 97, 122]
theorem begun_d1 : decOut bt1 = (e2, 13, 0) := by with_unfolding_all rfl
theorem begun_d2 : (decOut [0, 1, 1]).2.2 = 5 := by decide +kernel
theorem begun_d3 : (decOut [2]).2.2 = 1 := by decide +kernel
theorem begun_c3 : checkEntry e3 = 0 := by decide +kernel
theorem begun_l : lessB ⟨0, 2⟩ ⟨1, 1⟩ = true := by decide +kernel
theorem begun_s : sameE e2 e2 = true := by simp [sameE]
theorem entryBegun_meets : Meets Try.prog 25 [] [] (.bool true) [] := by
  refine Meets.of_walk Try.func25 Try.ntmps25 low25 res25 (by simp) fun x hx => ?_
  simp only [go_sem, Nat.reduceLT, Nat.reduceAdd, Nat.reduceEqDiff, Nat.reduceLeDiff, Nat.reduceSub, Nat.reduceMul, Int.reduceEq, eq_self, reduceIte, L25, R25]
  refine ops_call (.pure entries_meets) ?_
  simp only [go_sem, Nat.reduceLT, Nat.reduceAdd, Nat.reduceEqDiff, Nat.reduceLeDiff, Nat.reduceSub, Nat.reduceMul, Int.reduceEq, eq_self, reduceIte, Int.reduceLT, Int.reduceLE, Int.reduceToNat, Int.cast_ofNat_Int, e2, cE]
  refine ops_call (.pure (encode_meets e2 (by decide +kernel))) ?_
  have hb : BA [0, 2, 3, 1, 0, 1, 6, 100, 114, 111, 112, 32, 97] ++ (⟨#[122]⟩ : ByteArray) = BA bt1 := rfl
  simp only [go_sem, Nat.reduceLT, Nat.reduceAdd, Nat.reduceEqDiff, Nat.reduceLeDiff, Nat.reduceSub, Nat.reduceMul, Int.reduceEq, eq_self, reduceIte, begun_enc.1, begun_enc.2, hb, BA_size, List.size_toArray]
  refine ops_call (.pure (decode_meets bt1 (by decide +kernel))) ?_
  simp only [go_sem, Nat.reduceLT, Nat.reduceAdd, Nat.reduceEqDiff, Nat.reduceLeDiff, Nat.reduceSub, Nat.reduceMul, Int.reduceEq, eq_self, reduceIte, begun_d1, cE, e2]
  refine ops_call (.pure (decode_meets [0, 1, 1] (by decide +kernel))) ?_
  simp only [go_sem, Nat.reduceLT, Nat.reduceAdd, Nat.reduceEqDiff, Nat.reduceLeDiff, Nat.reduceSub, Nat.reduceMul, Int.reduceEq, eq_self, reduceIte, begun_d2, cE]
  refine ops_call (.pure (decode_meets [2] (by decide +kernel))) ?_
  simp only [go_sem, Nat.reduceLT, Nat.reduceAdd, Nat.reduceEqDiff, Nat.reduceLeDiff, Nat.reduceSub, Nat.reduceMul, Int.reduceEq, eq_self, reduceIte, begun_d3, cE]
  refine ops_call (.pure entries_meets) ?_
  simp only [go_sem, Nat.reduceLT, Nat.reduceAdd, Nat.reduceEqDiff, Nat.reduceLeDiff, Nat.reduceSub, Nat.reduceMul, Int.reduceEq, eq_self, reduceIte, Int.reduceLT, Int.reduceLE, Int.reduceToNat, Int.cast_ofNat_Int, cE]
  refine ops_call (.pure (check_meets e3)) ?_
  simp only [go_sem, Nat.reduceLT, Nat.reduceAdd, Nat.reduceEqDiff, Nat.reduceLeDiff, Nat.reduceSub, Nat.reduceMul, Int.reduceEq, eq_self, reduceIte, begun_c3]
  refine ops_call (.pure (lawId_meets _ _)) ?_
  simp only [go_sem, Nat.reduceLT, Nat.reduceAdd, Nat.reduceEqDiff, Nat.reduceLeDiff, Nat.reduceSub, Nat.reduceMul, Int.reduceEq, eq_self, reduceIte]
  refine ops_call (.pure (lawId_meets _ _)) ?_
  simp only [go_sem, Nat.reduceLT, Nat.reduceAdd, Nat.reduceEqDiff, Nat.reduceLeDiff, Nat.reduceSub, Nat.reduceMul, Int.reduceEq, eq_self, reduceIte]
  refine ops_call (.pure (less_meets ⟨0, 2⟩ ⟨1, 1⟩)) ?_
  have hsz : ((13 : Int) = ((BA [0, 2, 3, 1, 0, 1, 6, 100, 114, 111, 112, 32, 97]).size : Nat)) = True := by simp [BA_size]
  have hbs : (BA [0, 2, 3, 1, 0, 1, 6, 100, 114, 111, 112, 32, 97] = (⟨#[0, 2, 3, 1, 0, 1, 6, 100, 114, 111, 112, 32, 97]⟩ : ByteArray)) = True := eq_true rfl
  simp only [go_sem, Nat.reduceLT, Nat.reduceAdd, Nat.reduceEqDiff, Nat.reduceLeDiff, Nat.reduceSub, Nat.reduceMul, Int.reduceEq, eq_self, reduceIte, begun_l, hsz, hbs]
  refine ops_call (.pure entries_meets) ?_
  simp only [go_sem, Nat.reduceLT, Nat.reduceAdd, Nat.reduceEqDiff, Nat.reduceLeDiff, Nat.reduceSub, Nat.reduceMul, Int.reduceEq, eq_self, reduceIte, Int.reduceLT, Int.reduceLE, Int.reduceToNat, Int.cast_ofNat_Int, e2, cE]
  refine ops_call (.pure (sameEntry_meets e2 e2)) ?_
  simp only [go_sem, Nat.reduceLT, Nat.reduceAdd, Nat.reduceEqDiff, Nat.reduceLeDiff, Nat.reduceSub, Nat.reduceMul, Int.reduceEq, eq_self, reduceIte, begun_s]
  refine ret_pure hx ?_
  simp only [go_sem, Nat.reduceLT, Nat.reduceAdd, Nat.reduceEqDiff, Nat.reduceLeDiff, Nat.reduceSub, Nat.reduceMul, Int.reduceEq, eq_self, reduceIte, L25, R25]
end Go.Proofs.Ythhkafjkhogbmaa
/- EntryLess, as a contract. -/
namespace Go.Proofs.Ythhkafjkhogbmaa
set_option linter.unusedSimpArgs false
set_option linter.unusedVariables false
open Go.RowKit
theorem lessB_asymm {a b : Id} (h : lessB a b = true) : lessB b a = false := by
  simp [lessB] at *; omega
theorem lessB_total {a b : Id} : (lessB a b || lessB b a) = !decide (a = b) := by
  rw [Bool.eq_iff_iff]; simp [lessB, Id.eq_iff]; omega
theorem lessB_trans {a b c : Id} (h : lessB a b = true) (h2 : lessB b c = true) : lessB a c = true := by
  simp [lessB] at *; omega
theorem entryLess_meets (a b c : Id) : Meets Try.prog 7 [.agg (cId a), .agg (cId b), .agg (cId c)] [] (.bool true) [] := by
  refine Meets.of_walk Try.func7 Try.ntmps7 low7 res7 (by simp) fun x hx => ?_
  simp only [go_sem, Nat.reduceLT, Nat.reduceAdd, Nat.reduceEqDiff, Nat.reduceLeDiff, Nat.reduceSub, Nat.reduceMul, Int.reduceEq, eq_self, reduceIte, L7, R7, cId]
  refine ops_call (.pure (less_meets a b)) ?_
  simp only [go_sem, Nat.reduceLT, Nat.reduceAdd, Nat.reduceEqDiff, Nat.reduceLeDiff, Nat.reduceSub, Nat.reduceMul, Int.reduceEq, eq_self, reduceIte]
  refine ops_call (.pure (less_meets b a)) ?_
  simp only [go_sem, Nat.reduceLT, Nat.reduceAdd, Nat.reduceEqDiff, Nat.reduceLeDiff, Nat.reduceSub, Nat.reduceMul, Int.reduceEq, eq_self, reduceIte]
  refine ops_call (.pure entryBegun_meets) ?_
  simp only [go_sem, Nat.reduceLT, Nat.reduceAdd, Nat.reduceEqDiff, Nat.reduceLeDiff, Nat.reduceSub, Nat.reduceMul, Int.reduceEq, eq_self, reduceIte]
  have ht := lessB_total (a := a) (b := b)
  cases h1 : lessB a b
  · rw [h1] at ht
    simp only [Bool.false_or] at ht
    simp only [go_sem, Nat.reduceLT, Nat.reduceAdd, Nat.reduceEqDiff, Nat.reduceLeDiff, Nat.reduceSub, Nat.reduceMul, Int.reduceEq, eq_self, reduceIte, h1, beqId, ht]
    refine ret_pure hx ?_
    simp [go_sem, Nat.reduceLT, Nat.reduceAdd, Nat.reduceEqDiff, Nat.reduceLeDiff, Nat.reduceSub, Nat.reduceMul, Int.reduceEq, eq_self, reduceIte, L7, R7]
  · have h2 := lessB_asymm h1
    rw [h1] at ht
    simp only [Bool.true_or] at ht
    simp only [go_sem, Nat.reduceLT, Nat.reduceAdd, Nat.reduceEqDiff, Nat.reduceLeDiff, Nat.reduceSub, Nat.reduceMul, Int.reduceEq, eq_self, reduceIte, h1, h2, beqId, ← ht]
    refine ops_call (.pure (less_meets b c)) ?_
    cases h3 : lessB b c
    · simp only [go_sem, Nat.reduceLT, Nat.reduceAdd, Nat.reduceEqDiff, Nat.reduceLeDiff, Nat.reduceSub, Nat.reduceMul, Int.reduceEq, eq_self, reduceIte]
      refine ret_pure hx ?_
      simp [go_sem, Nat.reduceLT, Nat.reduceAdd, Nat.reduceEqDiff, Nat.reduceLeDiff, Nat.reduceSub, Nat.reduceMul, Int.reduceEq, eq_self, reduceIte, L7, R7]
    · simp only [go_sem, Nat.reduceLT, Nat.reduceAdd, Nat.reduceEqDiff, Nat.reduceLeDiff, Nat.reduceSub, Nat.reduceMul, Int.reduceEq, eq_self, reduceIte]
      refine ops_call (.pure (less_meets a c)) ?_
      simp only [go_sem, Nat.reduceLT, Nat.reduceAdd, Nat.reduceEqDiff, Nat.reduceLeDiff, Nat.reduceSub, Nat.reduceMul, Int.reduceEq, eq_self, reduceIte, lessB_trans h1 h3]
      refine ret_pure hx ?_
      simp [go_sem, Nat.reduceLT, Nat.reduceAdd, Nat.reduceEqDiff, Nat.reduceLeDiff, Nat.reduceSub, Nat.reduceMul, Int.reduceEq, eq_self, reduceIte, L7, R7]
end Go.Proofs.Ythhkafjkhogbmaa
/- What is wrong with an entry, in the law text's words: a contract. -/
namespace Go.Proofs.Ythhkafjkhogbmaa
set_option linter.unusedSimpArgs false
set_option linter.unusedVariables false
open Go.RowKit
theorem checkEntry_meets (e : Entry) : Meets Try.prog 22 [.agg (cE e)] [] (.int .i64 (checkEntry e)) [] := by
  refine Meets.len2 0 4 rfl (by simp [cE]; rfl) fun hm => ?_
  have hm' : e.ls.length ≤ 9223372036854775807 := by simp [maxLen] at hm; omega
  refine Meets.of_walk Try.func22 Try.ntmps22 low22 res22 (by simp) fun x hx => ?_
  simp only [go_sem, Nat.reduceLT, Nat.reduceAdd, Nat.reduceEqDiff, Nat.reduceLeDiff, Nat.reduceSub, Nat.reduceMul, Int.reduceEq, eq_self, reduceIte, L22, R22, cE]
  refine ops_call (.pure (isId_meets e.id)) ?_
  cases h1 : okId e.id
  · simp only [go_sem, Nat.reduceLT, Nat.reduceAdd, Nat.reduceEqDiff, Nat.reduceLeDiff, Nat.reduceSub, Nat.reduceMul, Int.reduceEq, eq_self, reduceIte]
    refine ret_pure hx ?_
    simp [go_sem, Nat.reduceLT, Nat.reduceAdd, Nat.reduceEqDiff, Nat.reduceLeDiff, Nat.reduceSub, Nat.reduceMul, Int.reduceEq, eq_self, reduceIte, L22, R22, checkEntry, h1]
  simp only [go_sem, Nat.reduceLT, Nat.reduceAdd, Nat.reduceEqDiff, Nat.reduceLeDiff, Nat.reduceSub, Nat.reduceMul, Int.reduceEq, eq_self, reduceIte]
  refine ops_call (.pure (between_meets _ _ _)) ?_
  cases h2 : wthn e.c 1 7
  · simp only [go_sem, Nat.reduceLT, Nat.reduceAdd, Nat.reduceEqDiff, Nat.reduceLeDiff, Nat.reduceSub, Nat.reduceMul, Int.reduceEq, eq_self, reduceIte]
    refine ret_pure hx ?_
    simp [go_sem, Nat.reduceLT, Nat.reduceAdd, Nat.reduceEqDiff, Nat.reduceLeDiff, Nat.reduceSub, Nat.reduceMul, Int.reduceEq, eq_self, reduceIte, L22, R22, checkEntry, h1, h2]
  by_cases h3 : 12 < e.t.size
  · have h3' : decide ((12 : Int) < e.t.size) = true := by simp; omega
    simp only [go_sem, Nat.reduceLT, Nat.reduceAdd, Nat.reduceEqDiff, Nat.reduceLeDiff, Nat.reduceSub, Nat.reduceMul, Int.reduceEq, eq_self, reduceIte, h3']
    refine ret_pure hx ?_
    simp [go_sem, Nat.reduceLT, Nat.reduceAdd, Nat.reduceEqDiff, Nat.reduceLeDiff, Nat.reduceSub, Nat.reduceMul, Int.reduceEq, eq_self, reduceIte, L22, R22, checkEntry, h1, h2, h3]
  have h3' : decide ((12 : Int) < e.t.size) = false := by simp; omega
  by_cases h4 : 6 < e.ls.length
  · have h4' : decide ((6 : Int) < (e.ls.length : Nat)) = true := by simp; omega
    simp only [go_sem, Nat.reduceLT, Nat.reduceAdd, Nat.reduceEqDiff, Nat.reduceLeDiff, Nat.reduceSub, Nat.reduceMul, Int.reduceEq, eq_self, reduceIte, h3', h4']
    refine ret_pure hx ?_
    simp [go_sem, Nat.reduceLT, Nat.reduceAdd, Nat.reduceEqDiff, Nat.reduceLeDiff, Nat.reduceSub, Nat.reduceMul, Int.reduceEq, eq_self, reduceIte, L22, R22, checkEntry, h1, h2, h3, h4]
  have h4' : decide ((6 : Int) < (e.ls.length : Nat)) = false := by simp; omega
  have hc : checkEntry e = firstNZ (linkErr e.id e.ls) e.ls.length := by simp [checkEntry, h1, h2, h3, h4]
  simp only [go_sem, Nat.reduceLT, Nat.reduceAdd, Nat.reduceEqDiff, Nat.reduceLeDiff, Nat.reduceSub, Nat.reduceMul, Int.reduceEq, eq_self, reduceIte, h3', h4', hc]
  refine loop_inv [1, 3] 1 (fun n st => ∃ k : Nat, k + n = e.ls.length ∧ firstNZ (linkErr e.id e.ls) k = 0 ∧
    st = ⟨mkE .top [(1, .ptr 0 0), (3, .int .i64 k)], [.box (cE e)]⟩) e.ls.length (by simp [hx]) (by simp) ?_ ?_
  · refine ⟨0, by omega, rfl, ?_⟩
    simp [trim_mk, go_sem, Nat.reduceLT, Nat.reduceAdd, Nat.reduceEqDiff, Nat.reduceLeDiff, Nat.reduceSub, Nat.reduceMul, Int.reduceEq, eq_self, reduceIte, subHeap, renObj, pos, List.range_succ, cE]
  · rintro n st ⟨k, hk, hz, rfl⟩
    simp only [go_sem, Nat.reduceLT, Nat.reduceAdd, Nat.reduceEqDiff, Nat.reduceLeDiff, Nat.reduceSub, Nat.reduceMul, Int.reduceEq, eq_self, reduceIte, cE]
    by_cases hlt : k < e.ls.length
    · have hg : e.ls[k]? = some (nth e.ls k) := nth_get? _ _ hlt
      have w1 := i64_up (k := k) (by omega)
      simp only [go_sem, Nat.reduceLT, Nat.reduceAdd, Nat.reduceEqDiff, Nat.reduceLeDiff, Nat.reduceSub, Nat.reduceMul, Int.reduceEq, eq_self, reduceIte, hlt, hg, cId]
      refine ops_call (.pure (isId_meets (nth e.ls k))) ?_
      cases h5 : okId (nth e.ls k)
      · simp only [go_sem, Nat.reduceLT, Nat.reduceAdd, Nat.reduceEqDiff, Nat.reduceLeDiff, Nat.reduceSub, Nat.reduceMul, Int.reduceEq, eq_self, reduceIte]
        refine ret_pure hx ?_
        have : linkErr e.id e.ls k = 3 := by simp [linkErr, h5]
        simp only [go_sem, Nat.reduceLT, Nat.reduceAdd, Nat.reduceEqDiff, Nat.reduceLeDiff, Nat.reduceSub, Nat.reduceMul, Int.reduceEq, eq_self, reduceIte, hc, firstNZ_hit hz (by rw [this]; decide) hlt, this]
      have fin : ∀ r : Int, linkErr e.id e.ls k = r → r ≠ 0 → firstNZ (linkErr e.id e.ls) e.ls.length = r := fun r h1 h2 => by rw [firstNZ_hit hz (by rw [h1]; exact h2) hlt, h1]
      by_cases h0 : 0 < k
      · have hg1 : e.ls[k - 1]? = some (nth e.ls (k - 1)) := nth_get? _ _ (by omega)
        have e1 : IntKind.i64.wrap ((k : Int) - 1) = ((k - 1 : Nat) : Int) := by rw [IntWalk.i64_in _ (by omega)]; omega
        have d0 : decide ((0 : Int) < (k : Int)) = true := by simp; omega
        have hlt1 : k - 1 < e.ls.length := by omega
        simp only [go_sem, Nat.reduceLT, Nat.reduceAdd, Nat.reduceEqDiff, Nat.reduceLeDiff, Nat.reduceSub, Nat.reduceMul, Int.reduceEq, eq_self, reduceIte, d0, hlt, hlt1, hg, hg1, e1, cId]
        refine ops_call (.pure (isAhead_meets (nth e.ls (k - 1)) (nth e.ls k))) ?_
        cases hl : lessB (nth e.ls (k - 1)) (nth e.ls k)
        · simp only [go_sem, Nat.reduceLT, Nat.reduceAdd, Nat.reduceEqDiff, Nat.reduceLeDiff, Nat.reduceSub, Nat.reduceMul, Int.reduceEq, eq_self, reduceIte, hlt, hg, cId]
          refine ret_pure hx ?_
          have : linkErr e.id e.ls k = 4 := by simp [linkErr, h5, h0, hl]
          simp only [go_sem, Nat.reduceLT, Nat.reduceAdd, Nat.reduceEqDiff, Nat.reduceLeDiff, Nat.reduceSub, Nat.reduceMul, Int.reduceEq, eq_self, reduceIte, fin _ this (by decide)]
        · by_cases h7 : (nth e.ls k).r = e.id.r <;> by_cases h8 : e.id.n ≤ (nth e.ls k).n <;> simp only [go_sem, Nat.reduceLT, Nat.reduceAdd, Nat.reduceEqDiff, Nat.reduceLeDiff, Nat.reduceSub, Nat.reduceMul, Int.reduceEq, eq_self, reduceIte, hlt, hg, cId, h7, h8]
          · refine ret_pure hx ?_
            have : linkErr e.id e.ls k = 4 := by simp [linkErr, h5, hl, h7, h8]
            simp only [go_sem, Nat.reduceLT, Nat.reduceAdd, Nat.reduceEqDiff, Nat.reduceLeDiff, Nat.reduceSub, Nat.reduceMul, Int.reduceEq, eq_self, reduceIte, fin _ this (by decide)]
          all_goals
            have : linkErr e.id e.ls k = 0 := by simp [linkErr, h5, hl, h7, h8]
            refine ⟨by simp, n - 1, by omega, k + 1, by omega, firstNZ_succ hz this, ?_⟩
            simp [trim_mk, go_sem, Nat.reduceLT, Nat.reduceAdd, Nat.reduceEqDiff, Nat.reduceLeDiff, Nat.reduceSub, Nat.reduceMul, Int.reduceEq, eq_self, reduceIte, subHeap, renObj, pos, List.range_succ, cE, w1]
      · have d0 : decide ((0 : Int) < (k : Int)) = false := by simp; omega
        by_cases h7 : (nth e.ls k).r = e.id.r <;> by_cases h8 : e.id.n ≤ (nth e.ls k).n <;> simp only [go_sem, Nat.reduceLT, Nat.reduceAdd, Nat.reduceEqDiff, Nat.reduceLeDiff, Nat.reduceSub, Nat.reduceMul, Int.reduceEq, eq_self, reduceIte, d0, hlt, hg, cId, h7, h8]
        · refine ret_pure hx ?_
          have : linkErr e.id e.ls k = 4 := by simp [linkErr, h5, h0, h7, h8]
          simp only [go_sem, Nat.reduceLT, Nat.reduceAdd, Nat.reduceEqDiff, Nat.reduceLeDiff, Nat.reduceSub, Nat.reduceMul, Int.reduceEq, eq_self, reduceIte, fin _ this (by decide)]
        all_goals
          have : linkErr e.id e.ls k = 0 := by simp [linkErr, h5, h0, h7, h8]
          refine ⟨by simp, n - 1, by omega, k + 1, by omega, firstNZ_succ hz this, ?_⟩
          simp [trim_mk, go_sem, Nat.reduceLT, Nat.reduceAdd, Nat.reduceEqDiff, Nat.reduceLeDiff, Nat.reduceSub, Nat.reduceMul, Int.reduceEq, eq_self, reduceIte, subHeap, renObj, pos, List.range_succ, cE, w1]
    · simp only [go_sem, Nat.reduceLT, Nat.reduceAdd, Nat.reduceEqDiff, Nat.reduceLeDiff, Nat.reduceSub, Nat.reduceMul, Int.reduceEq, eq_self, reduceIte, hlt]
      refine ret_pure hx ?_
      simp only [go_sem, Nat.reduceLT, Nat.reduceAdd, Nat.reduceEqDiff, Nat.reduceLeDiff, Nat.reduceSub, Nat.reduceMul, Int.reduceEq, eq_self, reduceIte]
      first | rw [hc, show e.ls.length = k by omega, hz] | rw [show e.ls.length = k by omega, hz]
end Go.Proofs.Ythhkafjkhogbmaa
/- An entry out of bytes, in the law text's words: a contract. -/
namespace Go.Proofs.Ythhkafjkhogbmaa
set_option linter.unusedSimpArgs false
set_option linter.unusedVariables false
open Go.RowKit
theorem BA_get (t : List UInt8) (k : Nat) : (BA t)[k]? = t[k]? := by
  by_cases h : k < t.length
  · have h2 : k < (BA t).size := by rw [BA_size]; exact h
    rw [getElem?_pos (BA t) k h2, List.getElem?_eq_getElem h]
    simp [BA, ByteArray.getElem_eq_getElem_data]
  · rw [List.getElem?_eq_none (by omega)]
    exact getElem?_neg (BA t) k (by rw [BA_size]; exact h)
theorem BA_extract (t : List UInt8) (a b : Nat) : (BA t).extract a b = BA ((t.drop a).take (b - a)) := by
  apply ByteArray.ext
  simp [BA, ByteArray.data_extract]
theorem wrap_byte (c : UInt8) : IntKind.i64.wrap (c.toNat : Int) = (c.toNat : Int) := by
  have := c.toNat_lt
  rw [IntWalk.i64_in _ (by omega)]
theorem byte_gt (c : UInt8) : decide ((1 : Int) < (c.toNat : Int)) = decide (1 < c) := by
  have : (1 < c) ↔ 1 < c.toNat := by rw [UInt8.lt_iff_toNat_lt]; rfl
  simp only [this]
  rw [decide_eq_decide]; omega
def decP (d : Entry × Int × Int) : PV := .tup [.agg (cE d.1), .int .i64 d.2.1, .int .i64 d.2.2]

theorem decOut_err {t : List UInt8} {c : Int} (h : rdEntry t = .error c) (hc : c ≠ 0) : decOut t = (zeroE, 0, c) := by
  simp [decOut, toldOut, h, hc]

theorem entryOf_meets (t : List UInt8) (ht : t.length ≤ maxLen) : Meets Try.prog 24 [.str (BA t)] [] (decP (decOut t)) [] := by
  have ht' : t.length ≤ 9223372036854775807 := by simp [maxLen] at ht; omega
  refine Meets.of_walk Try.func24 Try.ntmps24 low24 res24 (by simp) fun x hx => ?_
  have hbad : ∀ c : Int, rdEntry t = .error c → c ≠ 0 → decOut t = (zeroE, 0, c) := fun c h1 h2 => decOut_err h1 h2
  match t, ht', hbad with
  | [], _, hbad =>
    simp only [go_sem, Nat.reduceLT, Nat.reduceAdd, Nat.reduceEqDiff, Nat.reduceLeDiff, Nat.reduceSub, Nat.reduceMul, Int.reduceEq, eq_self, reduceIte, L24, R24, BA_size, Int.reduceLT, Int.cast_ofNat_Int]
    refine ret_weak (weak_ownc 0 4 0 25 2 true false rfl rfl (by omega)) ?_
    refine ret_pure hx ?_
    rw [hbad 5 rfl (by decide)]
    simp [go_sem, Nat.reduceLT, Nat.reduceAdd, Nat.reduceEqDiff, Nat.reduceLeDiff, Nat.reduceSub, Nat.reduceMul, Int.reduceEq, eq_self, reduceIte, L24, R24, decP, zeroE, cE, BA, frzAt, pos]
  | a :: t1, ht', hbad =>
    have d0 : decide ((0 : Int) < ((t1.length + 1 : Nat) : Int)) = true := by simp
    by_cases ha : 1 < a
    · simp only [go_sem, Nat.reduceLT, Nat.reduceAdd, Nat.reduceEqDiff, Nat.reduceLeDiff, Nat.reduceSub, Nat.reduceMul, Int.reduceEq, eq_self, reduceIte, L24, R24, BA_size, BA_get, d0, Int.reduceLE, Int.reduceToNat, byte_gt, ha]
      refine ret_weak (weak_ownc 0 4 0 25 2 true false rfl rfl (by omega)) ?_
      refine ret_pure hx ?_
      rw [hbad 1 (by simp [rdEntry, rdId, ha]) (by decide)]
      simp [go_sem, Nat.reduceLT, Nat.reduceAdd, Nat.reduceEqDiff, Nat.reduceLeDiff, Nat.reduceSub, Nat.reduceMul, Int.reduceEq, eq_self, reduceIte, L24, R24, decP, zeroE, cE, BA, frzAt, pos]
    by_cases hB : t1.length < 3
    · have d1 : decide (((t1.length + 1 : Nat) : Int) < 4) = true := by simp; omega
      have hz : rdEntry (a :: t1) = .error 5 := by
        match t1, hB with
        | [], _ => simp [rdEntry, rdId, ha]
        | [b], _ => simp [rdEntry, rdId, ha]
        | [b, c], _ => simp [rdEntry, rdId, ha]
        | _ :: _ :: _ :: _, hB => simp at hB; omega
      simp only [go_sem, Nat.reduceLT, Nat.reduceAdd, Nat.reduceEqDiff, Nat.reduceLeDiff, Nat.reduceSub, Nat.reduceMul, Int.reduceEq, eq_self, reduceIte, L24, R24, BA_size, BA_get, d0, d1, Int.reduceLE, Int.reduceToNat, byte_gt, ha]
      refine ret_weak (weak_ownc 0 4 0 25 2 true false rfl rfl (by omega)) ?_
      refine ret_pure hx ?_
      rw [hbad 5 hz (by decide)]
      simp [go_sem, Nat.reduceLT, Nat.reduceAdd, Nat.reduceEqDiff, Nat.reduceLeDiff, Nat.reduceSub, Nat.reduceMul, Int.reduceEq, eq_self, reduceIte, L24, R24, decP, zeroE, cE, BA, frzAt, pos]
    obtain ⟨b, c, m, u, rfl⟩ : ∃ b c m u, t1 = b :: c :: m :: u := by
      match t1, hB with
      | b :: c :: m :: u, _ => exact ⟨b, c, m, u, rfl⟩
      | [], h => simp at h
      | [_], h => simp at h
      | [_, _], h => simp at h
    have key : True := trivial
    · clear key
      have d1 : decide (((u.length + 1 + 1 + 1 + 1 : Nat) : Int) < 4) = false := by simp; omega
      simp only [List.length_cons] at d0
      simp only [go_sem, Nat.reduceLT, Nat.reduceAdd, Nat.reduceEqDiff, Nat.reduceLeDiff, Nat.reduceSub, Nat.reduceMul, Int.reduceEq, eq_self, reduceIte, L24, R24, BA_size, BA_get, d0, d1, Int.reduceLE, Int.reduceToNat, byte_gt, ha, wrap_byte]
      generalize htt : a :: b :: c :: m :: u = tt at *
      have hlen : tt.length = u.length + 4 := by rw [← htt]; simp
      have g3 : tt[3]? = some m := by rw [← htt]; rfl
      have gu : ∀ j, tt[4 + j]? = u[j]? := fun j => by rw [← htt, show 4 + j = j + 1 + 1 + 1 + 1 by omega]; rfl
      have hrd : ∀ r, rdIds m.toNat u = r → rdEntry tt = rdTail ⟨a.toNat, b.toNat⟩ c.toNat r := fun r hr => by
        rw [← htt, ← hr]; simp [rdEntry, rdId, ha]
      have hm := m.toNat_lt
      refine W_weak (weak_ownc 1 4 0 25 2 true false rfl rfl (by omega)) ?_
      refine loop_inv [0, 2, 5, 6, 7] 3 (fun n st => ∃ (k : Nat) (l : List Id) (v : List UInt8), k + n = m.toNat ∧ l.length = k ∧ v.length + 2 * k = u.length ∧ u.drop (2 * k) = v ∧ rdIds m.toNat u = rdApp l (rdIds n v) ∧
        st = ⟨mkE .top [(0, .str (BA tt)), (2, .ptr 0 0), (5, .ptr 1 0), (6, .int .i64 ((4 + 2 * k : Nat) : Int)), (7, .int .i64 k)],
          [.box [.int .i64 0, .int .i64 0, .int .i64 0, .str ⟨#[]⟩, .nilsl], .box [.int .i64 a.toNat, .int .i64 b.toNat, .int .i64 c.toNat, .str ⟨#[]⟩, .arr 2 k], .arr k true false 25 2 (l.map cId)]⟩) m.toNat (by simp [hx]) (by simp) ?_ ?_
      · refine ⟨0, [], u, by omega, rfl, by omega, by simp, ?_, ?_⟩
        · cases rdIds m.toNat u <;> simp [rdApp]
        · simp [trim_mk, go_sem, Nat.reduceLT, Nat.reduceAdd, Nat.reduceEqDiff, Nat.reduceLeDiff, Nat.reduceSub, Nat.reduceMul, Int.reduceEq, eq_self, reduceIte, subHeap, renObj, pos, List.range_succ]
      · rintro n st ⟨k, l, v, hk, hl, hv, hd, hr, rfl⟩
        simp only [go_sem, Nat.reduceLT, Nat.reduceAdd, Nat.reduceEqDiff, Nat.reduceLeDiff, Nat.reduceSub, Nat.reduceMul, Int.reduceEq, eq_self, reduceIte, BA_size, BA_get, g3, wrap_byte, Int.reduceLE, Int.reduceToNat]
        have errs : ∀ e : Int, rdIds n v = .error e → e ≠ 0 → decOut tt = (zeroE, 0, e) := fun e h1 h2 => hbad e (by rw [hrd _ hr, h1]; rfl) h2
        by_cases hlt : k < m.toNat
        · obtain ⟨n, rfl⟩ : ∃ n', n = n' + 1 := ⟨n - 1, by omega⟩
          have wr1 : IntKind.i64.wrap (((4 + 2 * k : Nat) : Int) + 1) = ((4 + 2 * k + 1 : Nat) : Int) := by rw [IntWalk.i64_in _ (by omega)]; omega
          have wr2 : IntKind.i64.wrap (((4 + 2 * k : Nat) : Int) + 2) = ((4 + 2 * k + 2 : Nat) : Int) := by rw [IntWalk.i64_in _ (by omega)]; omega
          have wk := i64_up (k := k) (by omega)
          match v, hv, hd, hr, errs with
          | [], hv, hd, hr, errs =>
            have dl : decide (4 + 2 * k < tt.length) = false := by simp at hv ⊢; omega
            have dl2 : decide (tt.length < 4 + 2 * k + 2) = true := by simp at hv ⊢; omega
            simp only [go_sem, Nat.reduceLT, Nat.reduceAdd, Nat.reduceEqDiff, Nat.reduceLeDiff, Nat.reduceSub, Nat.reduceMul, Int.reduceEq, eq_self, reduceIte, hlt, dl, dl2, BA_size, wr2]
            refine ret_weak (weak_ownc 0 4 0 25 2 true false rfl rfl (by omega)) ?_
            refine ret_pure hx ?_
            rw [errs 5 rfl (by decide)]
            simp [go_sem, Nat.reduceLT, Nat.reduceAdd, Nat.reduceEqDiff, Nat.reduceLeDiff, Nat.reduceSub, Nat.reduceMul, Int.reduceEq, eq_self, reduceIte, L24, R24, decP, zeroE, cE, BA, frzAt, pos]
          | p :: v1, hv, hd, hr, errs =>
            have dl : decide (4 + 2 * k < tt.length) = true := by simp at hv ⊢; omega
            have hp : tt[4 + 2 * k]? = some p := by
              rw [gu]; have := congrArg (·[0]?) hd; simpa using this
            by_cases hp1 : 1 < p
            · simp only [go_sem, Nat.reduceLT, Nat.reduceAdd, Nat.reduceEqDiff, Nat.reduceLeDiff, Nat.reduceSub, Nat.reduceMul, Int.reduceEq, eq_self, reduceIte, hlt, dl, BA_size, BA_get, hp, byte_gt, hp1]
              refine ret_weak (weak_ownc 0 4 0 25 2 true false rfl rfl (by omega)) ?_
              refine ret_pure hx ?_
              rw [errs 1 (by simp [rdIds, rdId, hp1]) (by decide)]
              simp [go_sem, Nat.reduceLT, Nat.reduceAdd, Nat.reduceEqDiff, Nat.reduceLeDiff, Nat.reduceSub, Nat.reduceMul, Int.reduceEq, eq_self, reduceIte, L24, R24, decP, zeroE, cE, BA, frzAt, pos]
            match v1, hv, hd, hr, errs with
            | [], hv, hd, hr, errs =>
              have dl2 : decide (tt.length < 4 + 2 * k + 2) = true := by simp at hv ⊢; omega
              simp only [go_sem, Nat.reduceLT, Nat.reduceAdd, Nat.reduceEqDiff, Nat.reduceLeDiff, Nat.reduceSub, Nat.reduceMul, Int.reduceEq, eq_self, reduceIte, hlt, dl, dl2, BA_size, BA_get, hp, byte_gt, hp1, wr2]
              refine ret_weak (weak_ownc 0 4 0 25 2 true false rfl rfl (by omega)) ?_
              refine ret_pure hx ?_
              rw [errs 5 (by simp [rdIds, rdId, hp1]) (by decide)]
              simp [go_sem, Nat.reduceLT, Nat.reduceAdd, Nat.reduceEqDiff, Nat.reduceLeDiff, Nat.reduceSub, Nat.reduceMul, Int.reduceEq, eq_self, reduceIte, L24, R24, decP, zeroE, cE, BA, frzAt, pos]
            | q :: v2, hv, hd, hr, errs =>
              have dl2 : decide (tt.length < 4 + 2 * k + 2) = false := by simp at hv ⊢; omega
              have hq : tt[4 + 2 * k + 1]? = some q := by
                rw [Nat.add_assoc, gu]; have := congrArg (·[1]?) hd; simpa using this
              have hb : (l.length + 1) * 16 ≤ 140737488355328 := by omega
              simp only [go_sem, Nat.reduceLT, Nat.reduceAdd, Nat.reduceEqDiff, Nat.reduceLeDiff, Nat.reduceSub, Nat.reduceMul, Int.reduceEq, eq_self, reduceIte, hlt, dl, dl2, BA_size, BA_get, hp, hq, byte_gt, hp1, wr1, wr2, wk, wrap_byte]
              rw [app_arr rfl rfl (by simp) (by simpa using hb)]
              simp only [go_sem, Nat.reduceLT, Nat.reduceAdd, Nat.reduceEqDiff, Nat.reduceLeDiff, Nat.reduceSub, Nat.reduceMul, Int.reduceEq, eq_self, reduceIte, wk, wr2]
              refine ⟨by simp, n, by omega, k + 1, l ++ [⟨p.toNat, q.toNat⟩], v2, by omega, by simp [hl], by simp at hv ⊢; omega, ?_, ?_, ?_⟩
              · rw [show 2 * (k + 1) = 2 * k + 2 by omega, ← List.drop_drop, hd]; rfl
              · rw [hr, rdApp_ok (t' := v2) (x := ⟨p.toNat, q.toNat⟩) (by simp [rdId, hp1])]
              · simp [trim_mk, go_sem, Nat.reduceLT, Nat.reduceAdd, Nat.reduceEqDiff, Nat.reduceLeDiff, Nat.reduceSub, Nat.reduceMul, Int.reduceEq, eq_self, reduceIte, subHeap, renObj, pos, List.range_succ, cId, show 4 + 2 * (k + 1) = 4 + 2 * k + 2 by omega]
        · obtain rfl : n = 0 := by omega
          have hr2 : rdEntry tt = rdTail ⟨a.toNat, b.toNat⟩ c.toNat (.ok (l, v)) := by rw [hrd _ hr]; simp [rdIds, rdApp]
          match v, hv, hd, hr2 with
          | [], hv, hd, hr2 =>
            have dl : decide (tt.length ≤ 4 + 2 * k) = true := by simp at hv ⊢; omega
            simp only [go_sem, Nat.reduceLT, Nat.reduceAdd, Nat.reduceEqDiff, Nat.reduceLeDiff, Nat.reduceSub, Nat.reduceMul, Int.reduceEq, eq_self, reduceIte, hlt, dl, BA_size]
            refine ret_weak (weak_ownc 0 4 0 25 2 true false rfl rfl (by omega)) ?_
            refine ret_pure hx ?_
            rw [hbad 5 hr2 (by decide)]
            simp [go_sem, Nat.reduceLT, Nat.reduceAdd, Nat.reduceEqDiff, Nat.reduceLeDiff, Nat.reduceSub, Nat.reduceMul, Int.reduceEq, eq_self, reduceIte, L24, R24, decP, zeroE, cE, BA, frzAt, pos]
          | z :: r, hv, hd, hr2 =>
            have dl : decide (tt.length ≤ 4 + 2 * k) = false := by simp at hv ⊢; omega
            have hz : tt[4 + 2 * k]? = some z := by
              rw [gu]; have := congrArg (·[0]?) hd; simpa using this
            have hzl := z.toNat_lt
            have wr1 : IntKind.i64.wrap (((4 + 2 * k : Nat) : Int) + 1) = ((4 + 2 * k + 1 : Nat) : Int) := by rw [IntWalk.i64_in _ (by omega)]; omega
            have wr3 : IntKind.i64.wrap (((4 + 2 * k + 1 : Nat) : Int) + (z.toNat : Int)) = ((4 + 2 * k + 1 + z.toNat : Nat) : Int) := by rw [IntWalk.i64_in _ (by omega)]; omega
            by_cases hsh : r.length < z.toNat
            · have dl2 : decide (tt.length < 4 + 2 * k + 1 + z.toNat) = true := by simp at hv ⊢; omega
              simp only [go_sem, Nat.reduceLT, Nat.reduceAdd, Nat.reduceEqDiff, Nat.reduceLeDiff, Nat.reduceSub, Nat.reduceMul, Int.reduceEq, eq_self, reduceIte, hlt, dl, dl2, BA_size, BA_get, hz, wr1, wr3, wrap_byte]
              refine ret_weak (weak_ownc 0 4 0 25 2 true false rfl rfl (by omega)) ?_
              refine ret_pure hx ?_
              rw [hbad 5 (by rw [hr2]; simp [rdTail, hsh]) (by decide)]
              simp [go_sem, Nat.reduceLT, Nat.reduceAdd, Nat.reduceEqDiff, Nat.reduceLeDiff, Nat.reduceSub, Nat.reduceMul, Int.reduceEq, eq_self, reduceIte, L24, R24, decP, zeroE, cE, BA, frzAt, pos]
            have dl2 : decide (tt.length < 4 + 2 * k + 1 + z.toNat) = false := by simp at hv ⊢; omega
            have dl3 : (4 + 2 * k + 1 ≤ 4 + 2 * k + 1 + z.toNat ∧ 4 + 2 * k + 1 + z.toNat ≤ tt.length) := by simp at hv ⊢; omega
            have hdr : u.drop (2 * k + 1) = r := by rw [← List.drop_drop, hd]; rfl
            have hext : (tt.drop (4 + 2 * k + 1)).take (4 + 2 * k + 1 + z.toNat - (4 + 2 * k + 1)) = r.take z.toNat := by
              rw [← htt, show 4 + 2 * k + 1 = (2 * k + 1) + 1 + 1 + 1 + 1 by omega]
              simp only [List.drop_succ_cons, hdr]
              congr 1; omega
            have hok : rdEntry tt = .ok (⟨⟨a.toNat, b.toNat⟩, c.toNat, BA (r.take z.toNat), l⟩, r.drop z.toNat) := by rw [hr2]; simp [rdTail, hsh]
            simp only [go_sem, Nat.reduceLT, Nat.reduceAdd, Nat.reduceEqDiff, Nat.reduceLeDiff, Nat.reduceSub, Nat.reduceMul, Int.reduceEq, eq_self, reduceIte, hlt, dl, dl2, BA_size, BA_get, BA_extract, hz, wr1, wr3, wrap_byte]
            rw [if_pos dl3, hext]
            simp only [go_sem, Nat.reduceLT, Nat.reduceAdd, Nat.reduceEqDiff, Nat.reduceLeDiff, Nat.reduceSub, Nat.reduceMul, Int.reduceEq, eq_self, reduceIte]
            refine ops_call (.scalarE (checkEntry_meets ⟨⟨a.toNat, b.toNat⟩, c.toNat, BA (r.take z.toNat), l⟩) rfl (by simp [go_sem, Nat.reduceLT, Nat.reduceAdd, Nat.reduceEqDiff, Nat.reduceLeDiff, Nat.reduceSub, Nat.reduceMul, Int.reduceEq, eq_self, reduceIte, frzAt, pos, cE])) ?_
            by_cases hc : checkEntry ⟨⟨a.toNat, b.toNat⟩, c.toNat, BA (r.take z.toNat), l⟩ = 0
            · simp only [go_sem, Nat.reduceLT, Nat.reduceAdd, Nat.reduceEqDiff, Nat.reduceLeDiff, Nat.reduceSub, Nat.reduceMul, Int.reduceEq, eq_self, reduceIte, hc, wr1, wr3]
              refine ret_pure hx ?_
              have : decOut tt = (⟨⟨a.toNat, b.toNat⟩, c.toNat, BA (r.take z.toNat), l⟩, ((4 + 2 * k + 1 + z.toNat : Nat) : Int), 0) := by
                simp only [decOut, toldOut, hok, hc, if_true]
                simp at hv ⊢; omega
              rw [this]
              simp [go_sem, Nat.reduceLT, Nat.reduceAdd, Nat.reduceEqDiff, Nat.reduceLeDiff, Nat.reduceSub, Nat.reduceMul, Int.reduceEq, eq_self, reduceIte, L24, R24, decP, cE, frzAt, pos]
            · simp only [go_sem, Nat.reduceLT, Nat.reduceAdd, Nat.reduceEqDiff, Nat.reduceLeDiff, Nat.reduceSub, Nat.reduceMul, Int.reduceEq, eq_self, reduceIte, hc]
              refine ret_weak (weak_ownc 0 4 0 25 2 true false rfl rfl (by omega)) ?_
              refine ret_pure hx ?_
              have : decOut tt = (zeroE, 0, checkEntry ⟨⟨a.toNat, b.toNat⟩, c.toNat, BA (r.take z.toNat), l⟩) := by
                simp [decOut, toldOut, hok, hc]
              rw [this]
              simp [go_sem, Nat.reduceLT, Nat.reduceAdd, Nat.reduceEqDiff, Nat.reduceLeDiff, Nat.reduceSub, Nat.reduceMul, Int.reduceEq, eq_self, reduceIte, L24, R24, decP, zeroE, cE, BA, frzAt, pos]
end Go.Proofs.Ythhkafjkhogbmaa
/- EntryTells, as a contract. -/
namespace Go.Proofs.Ythhkafjkhogbmaa
set_option linter.unusedSimpArgs false
set_option linter.unusedVariables false
open Go.RowKit
theorem sameE_self (e : Entry) : sameE e e = true := by simp [sameE]
theorem entryTells_meets (e : Entry) (t : List UInt8) (a b : Id) (he : e.t.size ≤ maxLen) (ht : t.length ≤ maxLen) :
    Meets Try.prog 5 [.agg (cE e), .str (BA t), .agg (cId a), .agg (cId b)] [] (.bool true) [] := by
  refine Meets.of_walk Try.func5 Try.ntmps5 low5 res5 (by simp) fun x hx => ?_
  simp only [go_sem, Nat.reduceLT, Nat.reduceAdd, Nat.reduceEqDiff, Nat.reduceLeDiff, Nat.reduceSub, Nat.reduceMul, Int.reduceEq, eq_self, reduceIte, L5, R5, cId, cE]
  refine ops_call (.pure (encode_meets e he)) ?_
  simp only [go_sem, Nat.reduceLT, Nat.reduceAdd, Nat.reduceEqDiff, Nat.reduceLeDiff, Nat.reduceSub, Nat.reduceMul, Int.reduceEq, eq_self, reduceIte]
  refine ops_call (.pure (decode_meets t ht)) ?_
  simp only [go_sem, Nat.reduceLT, Nat.reduceAdd, Nat.reduceEqDiff, Nat.reduceLeDiff, Nat.reduceSub, Nat.reduceMul, Int.reduceEq, eq_self, reduceIte, cE]
  refine ops_call (.pure (checkEntry_meets e)) ?_
  have fin : ∀ s : List UInt8, s = encOut e → True := fun _ _ => trivial
  by_cases hc : checkEntry e = 0
  · obtain ⟨-, -, h3, h4, -⟩ := check_ok_bounds hc
    have hout : encOut e = encL e := by simp [encOut, hc]
    simp only [go_sem, Nat.reduceLT, Nat.reduceAdd, Nat.reduceEqDiff, Nat.reduceLeDiff, Nat.reduceSub, Nat.reduceMul, Int.reduceEq, eq_self, reduceIte, hc, hout]
    refine ops_call (.pure (entryBytes_meets e h3 h4)) ?_
    simp only [go_sem, Nat.reduceLT, Nat.reduceAdd, Nat.reduceEqDiff, Nat.reduceLeDiff, Nat.reduceSub, Nat.reduceMul, Int.reduceEq, eq_self, reduceIte]
    refine ops_call (.pure (entryOf_meets t ht)) ?_
    simp only [go_sem, Nat.reduceLT, Nat.reduceAdd, Nat.reduceEqDiff, Nat.reduceLeDiff, Nat.reduceSub, Nat.reduceMul, Int.reduceEq, eq_self, reduceIte, decP, cE]
    refine ops_call (.pure entryBegun_meets) ?_
    simp only [go_sem, Nat.reduceLT, Nat.reduceAdd, Nat.reduceEqDiff, Nat.reduceLeDiff, Nat.reduceSub, Nat.reduceMul, Int.reduceEq, eq_self, reduceIte]
    refine ops_call (.pure (less_meets a b)) ?_
    simp only [go_sem, Nat.reduceLT, Nat.reduceAdd, Nat.reduceEqDiff, Nat.reduceLeDiff, Nat.reduceSub, Nat.reduceMul, Int.reduceEq, eq_self, reduceIte]
    refine ops_call (.pure (isAhead_meets a b)) ?_
    simp only [go_sem, Nat.reduceLT, Nat.reduceAdd, Nat.reduceEqDiff, Nat.reduceLeDiff, Nat.reduceSub, Nat.reduceMul, Int.reduceEq, eq_self, reduceIte]
    refine ops_call (.pure (check_meets e)) ?_
    simp only [go_sem, Nat.reduceLT, Nat.reduceAdd, Nat.reduceEqDiff, Nat.reduceLeDiff, Nat.reduceSub, Nat.reduceMul, Int.reduceEq, eq_self, reduceIte, hc]
    refine ops_call (.pure (sameEntry_meets (decOut t).1 (decOut t).1)) ?_
    simp only [go_sem, Nat.reduceLT, Nat.reduceAdd, Nat.reduceEqDiff, Nat.reduceLeDiff, Nat.reduceSub, Nat.reduceMul, Int.reduceEq, eq_self, reduceIte, sameE_self]
    refine ret_pure hx ?_
    simp [go_sem, Nat.reduceLT, Nat.reduceAdd, Nat.reduceEqDiff, Nat.reduceLeDiff, Nat.reduceSub, Nat.reduceMul, Int.reduceEq, eq_self, reduceIte, L5, R5]
  · have hout : encOut e = [] := by simp [encOut, hc]
    simp only [go_sem, Nat.reduceLT, Nat.reduceAdd, Nat.reduceEqDiff, Nat.reduceLeDiff, Nat.reduceSub, Nat.reduceMul, Int.reduceEq, eq_self, reduceIte, hc, hout]
    refine ops_call (.pure (entryOf_meets t ht)) ?_
    simp only [go_sem, Nat.reduceLT, Nat.reduceAdd, Nat.reduceEqDiff, Nat.reduceLeDiff, Nat.reduceSub, Nat.reduceMul, Int.reduceEq, eq_self, reduceIte, decP, cE]
    refine ops_call (.pure entryBegun_meets) ?_
    simp only [go_sem, Nat.reduceLT, Nat.reduceAdd, Nat.reduceEqDiff, Nat.reduceLeDiff, Nat.reduceSub, Nat.reduceMul, Int.reduceEq, eq_self, reduceIte]
    refine ops_call (.pure (less_meets a b)) ?_
    simp only [go_sem, Nat.reduceLT, Nat.reduceAdd, Nat.reduceEqDiff, Nat.reduceLeDiff, Nat.reduceSub, Nat.reduceMul, Int.reduceEq, eq_self, reduceIte]
    refine ops_call (.pure (isAhead_meets a b)) ?_
    simp only [go_sem, Nat.reduceLT, Nat.reduceAdd, Nat.reduceEqDiff, Nat.reduceLeDiff, Nat.reduceSub, Nat.reduceMul, Int.reduceEq, eq_self, reduceIte]
    refine ops_call (.pure (check_meets e)) ?_
    have hb0 : (BA [] = (⟨#[]⟩ : ByteArray)) = True := eq_true rfl
    simp only [go_sem, Nat.reduceLT, Nat.reduceAdd, Nat.reduceEqDiff, Nat.reduceLeDiff, Nat.reduceSub, Nat.reduceMul, Int.reduceEq, eq_self, reduceIte, hb0]
    refine ops_call (.pure (sameEntry_meets (decOut t).1 (decOut t).1)) ?_
    simp only [go_sem, Nat.reduceLT, Nat.reduceAdd, Nat.reduceEqDiff, Nat.reduceLeDiff, Nat.reduceSub, Nat.reduceMul, Int.reduceEq, eq_self, reduceIte, sameE_self]
    refine ret_pure hx ?_
    simp [go_sem, Nat.reduceLT, Nat.reduceAdd, Nat.reduceEqDiff, Nat.reduceLeDiff, Nat.reduceSub, Nat.reduceMul, Int.reduceEq, eq_self, reduceIte, L5, R5]
end Go.Proofs.Ythhkafjkhogbmaa
/- Bytes of entries: what is written is read as it was, and what is read is written as it was. No program in sight. -/
namespace Go.Proofs.Ythhkafjkhogbmaa
open Go.RowKit
theorem bytV_toNat {n : Int} (h0 : 0 ≤ n) (h1 : n < 256) : ((byt n).toNat : Int) = n := by
  have e : n % 256 = n := Int.emod_eq_of_lt h0 h1
  simp only [byt, e, UInt8.toNat_ofNat']
  omega
theorem bytV_nat (a : UInt8) : byt (a.toNat : Int) = a := by
  have := a.toNat_lt
  have e : ((a.toNat : Int) % 256).toNat = a.toNat := by omega
  simp [byt, e]
theorem bytV_small {n : Int} (h0 : 0 ≤ n) (h1 : n ≤ 1) : ¬ 1 < byt n := by
  rw [UInt8.lt_iff_toNat_lt]
  have := bytV_toNat h0 (show n < 256 by omega)
  have e : (1 : UInt8).toNat = 1 := rfl
  omega
theorem okId_bounds {x : Id} (h : okId x = true) : 0 ≤ x.r ∧ x.r ≤ 1 ∧ 1 ≤ x.n ∧ x.n ≤ 20 := by
  simp only [okId, Bool.and_eq_true, wthn_iff] at h
  omega
theorem rdId_idL {x : Id} (h : okId x = true) (r : List UInt8) : rdId (idL x ++ r) = .ok (x, r) := by
  obtain ⟨h1, h2, h3, h4⟩ := okId_bounds h
  simp only [idL, List.cons_append, List.nil_append, rdId, bytV_small h1 h2, if_false, bytV_toNat h1 (show x.r < 256 by omega), bytV_toNat (show 0 ≤ x.n by omega) (show x.n < 256 by omega)]
theorem rdIds_flat : ∀ {l : List Id}, (∀ x ∈ l, okId x = true) → ∀ r, rdIds l.length (l.flatMap idL ++ r) = .ok (l, r)
  | [], _, r => rfl
  | x :: l, h, r => by
    simp only [List.flatMap_cons, List.length_cons, rdIds, List.append_assoc]
    have ih := rdIds_flat (l := l) (fun y hy => h y (by simp [hy])) r
    simp only [rdId_idL (h x (by simp)), ih]
theorem link_ok {e : Id} {ls : List Id} (h : firstNZ (linkErr e ls) ls.length = 0) : ∀ x ∈ ls, okId x = true := by
  intro x hx
  obtain ⟨k, hk, rfl⟩ := List.getElem_of_mem hx
  have := firstNZ_zero.1 h k hk
  rw [← nth_eq ls k hk]
  cases h5 : okId (nth ls k) with
  | true => rfl
  | false => simp [linkErr, h5] at this
theorem rdEntry_enc {e : Entry} (h : checkEntry e = 0) (s : List UInt8) : rdEntry (encL e ++ s) = .ok (e, s) := by
  obtain ⟨h1, h2, h3, h4, h5⟩ := check_ok_bounds h
  obtain ⟨b1, b2, b3, b4⟩ := okId_bounds h1
  rw [wthn_iff] at h2
  have e1 : encL e ++ s = idL e.id ++ (byt e.c :: byt e.ls.length :: (e.ls.flatMap idL ++ (byt e.t.size :: (e.t.data.toList ++ s)))) := by simp [encL, headL, idL]
  rw [e1, rdEntry, rdId_idL h1]
  have e2 : (byt e.ls.length).toNat = e.ls.length := by have := bytV_toNat (show (0 : Int) ≤ (e.ls.length : Int) by omega) (by omega); omega
  have e3 : (byt e.t.size).toNat = e.t.size := by have := bytV_toNat (show (0 : Int) ≤ (e.t.size : Int) by omega) (by omega); omega
  have e4 : e.t.size = e.t.data.toList.length := by show e.t.data.size = _; simp
  simp only [e2, rdIds_flat (link_ok h5), rdTail, e3, bytV_toNat (show 0 ≤ e.c by omega) (show e.c < 256 by omega)]
  rw [if_neg (by rw [e4]; simp), e4, List.take_left, List.drop_left, BA_data]
theorem encL_len (e : Entry) : (encL e).length = 5 + 2 * e.ls.length + e.t.size := by
  have : encL e = preL e e.ls.length ++ (byt e.t.size :: e.t.data.toList) := by simp [encL, preL]
  rw [this, List.length_append, preL_len e _ (Nat.le_refl _)]
  have e4 : e.t.size = e.t.data.toList.length := by show e.t.data.size = _; simp
  rw [List.length_cons, ← e4]; omega
theorem decOut_enc {e : Entry} (h : checkEntry e = 0) (s : List UInt8) : decOut (encL e ++ s) = (e, ((encL e).length : Int), 0) := by
  simp only [decOut, toldOut, rdEntry_enc h, h, if_true, List.length_append]
  simp

theorem rdId_inv {t : List UInt8} {x : Id} {r : List UInt8} (h : rdId t = .ok (x, r)) : t = idL x ++ r := by
  match t, h with
  | [], h => cases h
  | [a], h => simp only [rdId] at h; split at h <;> cases h
  | a :: b :: t, h =>
    simp only [rdId] at h
    split at h
    · cases h
    · cases h; simp [idL, bytV_nat]
theorem rdIds_inv : ∀ {n : Nat} {t : List UInt8} {l : List Id} {r : List UInt8}, rdIds n t = .ok (l, r) → t = l.flatMap idL ++ r ∧ l.length = n
  | 0, t, l, r, h => by cases h; simp
  | n + 1, t, l, r, h => by
    rw [rdIds] at h
    cases h1 : rdId t with
    | error c => rw [h1] at h; cases h
    | ok v =>
      obtain ⟨x, t1⟩ := v
      rw [h1] at h
      simp only at h
      cases h2 : rdIds n t1 with
      | error c => rw [h2] at h; cases h
      | ok u =>
        obtain ⟨l1, t2⟩ := u
        rw [h2] at h
        cases h
        obtain ⟨g1, g2⟩ := rdIds_inv h2
        rw [rdId_inv h1, g1]
        simp [g2]
theorem rdEntry_inv {t : List UInt8} {x : Entry} {r : List UInt8} (h : rdEntry t = .ok (x, r)) : t = encL x ++ r := by
  unfold rdEntry at h
  split at h
  · cases h
  · cases h
  · cases h
  · rename_i y c n u hx
    unfold rdTail at h
    split at h
    · cases h
    · cases h
    · rename_i l m t1 hl
      split at h
      · cases h
      · rename_i hlt
        cases h
        obtain ⟨g1, g2⟩ := rdIds_inv hl
        have e1 : byt ((l.length : Nat) : Int) = n := by rw [g2, bytV_nat]
        have e2 : byt (((BA (t1.take m.toNat)).size : Nat) : Int) = m := by
          rw [BA_size, List.length_take, Nat.min_eq_left (by omega), bytV_nat]
        have e3 : (BA (t1.take m.toNat)).data.toList = t1.take m.toNat := by simp [BA]
        rw [rdId_inv hx, g1]
        simp only [encL, headL, e1, e2, e3, bytV_nat, idL]
        simp
theorem decOut_back {t : List UInt8} (h : (decOut t).2.2 = 0) : checkEntry (decOut t).1 = 0 ∧ ∃ n : Nat, (decOut t).2.1 = n ∧ n ≤ t.length ∧ encL (decOut t).1 = t.take n := by
  unfold decOut at *
  split at h
  · rename_i hz
    rw [if_pos hz]
    simp only
    unfold toldOut at *
    cases hr : rdEntry t with
    | error c =>
      rw [hr] at hz
      simp only at hz
      subst hz
      exfalso
      revert hr
      unfold rdEntry
      split
      · rename_i d hd
        intro e; cases e
        revert hd; unfold rdId
        split
        · simp
        · split
          · simp
          · split <;> simp
      · simp
      · simp
      · rename_i x0 c0 n0 u0 _
        unfold rdTail
        split
        · rename_i d hd
          intro e; cases e
          have key : ∀ (n : Nat) (u : List UInt8), rdIds n u ≠ .error 0 := by
            intro n
            induction n with
            | zero => intro u hu; cases hu
            | succ n ih =>
              intro u hu
              rw [rdIds] at hu
              cases h1 : rdId u with
              | error c =>
                rw [h1] at hu
                cases hu
                revert h1; unfold rdId
                split
                · simp
                · split
                  · simp
                  · split <;> simp
              | ok v =>
                obtain ⟨x, t1⟩ := v
                rw [h1] at hu
                simp only at hu
                cases h2 : rdIds n t1 with
                | error c => rw [h2] at hu; cases hu; exact ih _ h2
                | ok w => rw [h2] at hu; cases hu
          exact key _ _ hd
        · simp
        · split <;> simp
    | ok v =>
      obtain ⟨x, r⟩ := v
      rw [hr] at hz
      simp only at hz ⊢
      have e := rdEntry_inv hr
      refine ⟨hz, (encL x).length, ?_, ?_, ?_⟩
      · rw [e]; simp
      · rw [e]; simp
      · rw [e]; simp
  · rename_i hz; exact (hz h).elim
theorem decOut_bad {t : List UInt8} (h : (decOut t).2.2 ≠ 0) : (decOut t).1 = zeroE ∧ (decOut t).2.1 = 0 := by
  unfold decOut at *
  split at h
  · exact (h rfl).elim
  · rename_i hz; rw [if_neg hz]; exact ⟨rfl, rfl⟩
theorem encL_apart {a b : Entry} (ha : checkEntry a = 0) (hb : checkEntry b = 0) (h : (encL b).take (encL a).length = encL a) : a = b := by
  have e : encL b = encL a ++ (encL b).drop (encL a).length := by
    conv => lhs; rw [← List.take_append_drop (encL a).length (encL b), h]
  have h1 := decOut_enc hb []
  rw [List.append_nil, e, decOut_enc ha] at h1
  exact congrArg Prod.fst h1
end Go.Proofs.Ythhkafjkhogbmaa
/- EntryBack and EntryApart, as contracts. -/
namespace Go.Proofs.Ythhkafjkhogbmaa
set_option linter.unusedSimpArgs false
set_option linter.unusedVariables false
open Go.RowKit
theorem entryBack_meets (e : Entry) (t : List UInt8) (he : e.t.size ≤ 140737488355328) (ht : t.length ≤ 140737488355328) :
    Meets Try.prog 6 [.agg (cE e), .str (BA t)] [] (.bool true) [] := by
  have hm : ∀ n : Nat, n ≤ 200000000000000 → n ≤ maxLen := fun n h => by simp [maxLen]; omega
  refine Meets.of_walk Try.func6 Try.ntmps6 low6 res6 (by simp) fun x hx => ?_
  simp only [go_sem, Nat.reduceLT, Nat.reduceAdd, Nat.reduceEqDiff, Nat.reduceLeDiff, Nat.reduceSub, Nat.reduceMul, Int.reduceEq, eq_self, reduceIte, L6, R6, cE]
  refine ops_call (.pure entryBegun_meets) ?_
  simp only [go_sem, Nat.reduceLT, Nat.reduceAdd, Nat.reduceEqDiff, Nat.reduceLeDiff, Nat.reduceSub, Nat.reduceMul, Int.reduceEq, eq_self, reduceIte]
  refine ops_call (.pure (encode_meets e (hm _ (by omega)))) ?_
  simp only [go_sem, Nat.reduceLT, Nat.reduceAdd, Nat.reduceEqDiff, Nat.reduceLeDiff, Nat.reduceSub, Nat.reduceMul, Int.reduceEq, eq_self, reduceIte]
  have rest : ∀ (Q : AE → St → Prop) (st : St), True := fun _ _ => trivial
  have hz0 : ((zeroE.id.r = 0) = True) ∧ ((zeroE.id.n = 0) = True) := by simp [zeroE]
  by_cases hc : checkEntry e = 0
  · have hout : encOut e = encL e := by simp [encOut, hc]
    obtain ⟨-, -, h3, h4, -⟩ := check_ok_bounds hc
    have hl := encL_len e
    have hsz : ((encL e).length + t.length ≤ 4611686018427387904) = True := eq_true (by omega)
    simp only [go_sem, Nat.reduceLT, Nat.reduceAdd, Nat.reduceEqDiff, Nat.reduceLeDiff, Nat.reduceSub, Nat.reduceMul, Int.reduceEq, eq_self, reduceIte, hc, hout, BA_app, BA_size, hsz]
    refine ops_call (.pure (decode_meets (encL e ++ t) (by rw [List.length_append]; exact hm _ (by omega)))) ?_
    simp only [go_sem, Nat.reduceLT, Nat.reduceAdd, Nat.reduceEqDiff, Nat.reduceLeDiff, Nat.reduceSub, Nat.reduceMul, Int.reduceEq, eq_self, reduceIte, decOut_enc hc, cE, BA_size, eq_self]
    refine ops_call (.pure (sameEntry_meets e e)) ?_
    simp only [go_sem, Nat.reduceLT, Nat.reduceAdd, Nat.reduceEqDiff, Nat.reduceLeDiff, Nat.reduceSub, Nat.reduceMul, Int.reduceEq, eq_self, reduceIte, sameE_self]
    refine ops_call (.pure (decode_meets t (hm _ (by omega)))) ?_
    simp only [go_sem, Nat.reduceLT, Nat.reduceAdd, Nat.reduceEqDiff, Nat.reduceLeDiff, Nat.reduceSub, Nat.reduceMul, Int.reduceEq, eq_self, reduceIte, cE]
    by_cases hd : (decOut t).2.2 = 0
    · obtain ⟨g1, n, g2, g3, g4⟩ := decOut_back hd
      have g5 : encOut (decOut t).1 = t.take n := by simp [encOut, g1, g4]
      have g6 : (BA t).extract 0 n = BA (t.take n) := by rw [BA_extract]; simp
      have g3' : decide ((n : Int) ≤ (t.length : Int)) = true := by simp; omega
      simp only [go_sem, Nat.reduceLT, Nat.reduceAdd, Nat.reduceEqDiff, Nat.reduceLeDiff, Nat.reduceSub, Nat.reduceMul, Int.reduceEq, eq_self, reduceIte, hd]
      refine ops_call (.pure (encode_meets (decOut t).1 ?_)) ?_
      · obtain ⟨-, -, q, -, -⟩ := check_ok_bounds g1; exact hm _ (by omega)
      simp only [go_sem, Nat.reduceLT, Nat.reduceAdd, Nat.reduceEqDiff, Nat.reduceLeDiff, Nat.reduceSub, Nat.reduceMul, Int.reduceEq, eq_self, reduceIte, g1, g2, g5, g3, g3', g6, BA_size, Int.toNat_zero, Int.toNat_natCast, Int.le_refl]
      refine ret_pure hx ?_
      simp [go_sem, Nat.reduceLT, Nat.reduceAdd, Nat.reduceEqDiff, Nat.reduceLeDiff, Nat.reduceSub, Nat.reduceMul, Int.reduceEq, eq_self, reduceIte, L6, R6]
    · obtain ⟨g1, g2⟩ := decOut_bad hd
      simp only [go_sem, Nat.reduceLT, Nat.reduceAdd, Nat.reduceEqDiff, Nat.reduceLeDiff, Nat.reduceSub, Nat.reduceMul, Int.reduceEq, eq_self, reduceIte, hd, g1, g2, hz0.1, hz0.2]
      refine ret_pure hx ?_
      simp [go_sem, Nat.reduceLT, Nat.reduceAdd, Nat.reduceEqDiff, Nat.reduceLeDiff, Nat.reduceSub, Nat.reduceMul, Int.reduceEq, eq_self, reduceIte, L6, R6]
  · have hout : encOut e = [] := by simp [encOut, hc]
    simp only [go_sem, Nat.reduceLT, Nat.reduceAdd, Nat.reduceEqDiff, Nat.reduceLeDiff, Nat.reduceSub, Nat.reduceMul, Int.reduceEq, eq_self, reduceIte, hc, hout]
    refine ops_call (.pure (decode_meets t (hm _ (by omega)))) ?_
    simp only [go_sem, Nat.reduceLT, Nat.reduceAdd, Nat.reduceEqDiff, Nat.reduceLeDiff, Nat.reduceSub, Nat.reduceMul, Int.reduceEq, eq_self, reduceIte, cE]
    by_cases hd : (decOut t).2.2 = 0
    · obtain ⟨g1, n, g2, g3, g4⟩ := decOut_back hd
      have g5 : encOut (decOut t).1 = t.take n := by simp [encOut, g1, g4]
      have g6 : (BA t).extract 0 n = BA (t.take n) := by rw [BA_extract]; simp
      have g3' : decide ((n : Int) ≤ (t.length : Int)) = true := by simp; omega
      simp only [go_sem, Nat.reduceLT, Nat.reduceAdd, Nat.reduceEqDiff, Nat.reduceLeDiff, Nat.reduceSub, Nat.reduceMul, Int.reduceEq, eq_self, reduceIte, hd]
      refine ops_call (.pure (encode_meets (decOut t).1 ?_)) ?_
      · obtain ⟨-, -, q, -, -⟩ := check_ok_bounds g1; exact hm _ (by omega)
      simp only [go_sem, Nat.reduceLT, Nat.reduceAdd, Nat.reduceEqDiff, Nat.reduceLeDiff, Nat.reduceSub, Nat.reduceMul, Int.reduceEq, eq_self, reduceIte, g1, g2, g5, g3, g3', g6, BA_size, Int.toNat_zero, Int.toNat_natCast, Int.le_refl]
      refine ret_pure hx ?_
      simp [go_sem, Nat.reduceLT, Nat.reduceAdd, Nat.reduceEqDiff, Nat.reduceLeDiff, Nat.reduceSub, Nat.reduceMul, Int.reduceEq, eq_self, reduceIte, L6, R6]
    · obtain ⟨g1, g2⟩ := decOut_bad hd
      simp only [go_sem, Nat.reduceLT, Nat.reduceAdd, Nat.reduceEqDiff, Nat.reduceLeDiff, Nat.reduceSub, Nat.reduceMul, Int.reduceEq, eq_self, reduceIte, hd, g1, g2, hz0.1, hz0.2]
      refine ret_pure hx ?_
      simp [go_sem, Nat.reduceLT, Nat.reduceAdd, Nat.reduceEqDiff, Nat.reduceLeDiff, Nat.reduceSub, Nat.reduceMul, Int.reduceEq, eq_self, reduceIte, L6, R6]
theorem entryApart_meets (a b : Entry) (ha : a.t.size ≤ 140737488355328) (hb : b.t.size ≤ 140737488355328) :
    Meets Try.prog 8 [.agg (cE a), .agg (cE b)] [] (.bool true) [] := by
  have hm : ∀ n : Nat, n ≤ 200000000000000 → n ≤ maxLen := fun n h => by simp [maxLen]; omega
  refine Meets.of_walk Try.func8 Try.ntmps8 low8 res8 (by simp) fun x hx => ?_
  simp only [go_sem, Nat.reduceLT, Nat.reduceAdd, Nat.reduceEqDiff, Nat.reduceLeDiff, Nat.reduceSub, Nat.reduceMul, Int.reduceEq, eq_self, reduceIte, L8, R8, cE]
  refine ops_call (.pure (encode_meets a (hm _ (by omega)))) ?_
  simp only [go_sem, Nat.reduceLT, Nat.reduceAdd, Nat.reduceEqDiff, Nat.reduceLeDiff, Nat.reduceSub, Nat.reduceMul, Int.reduceEq, eq_self, reduceIte, cE]
  refine ops_call (.pure (encode_meets b (hm _ (by omega)))) ?_
  simp only [go_sem, Nat.reduceLT, Nat.reduceAdd, Nat.reduceEqDiff, Nat.reduceLeDiff, Nat.reduceSub, Nat.reduceMul, Int.reduceEq, eq_self, reduceIte, cE]
  refine ops_call (.pure entryBegun_meets) ?_
  have hb0 : (BA [] = (⟨#[]⟩ : ByteArray)) = True := eq_true rfl
  by_cases hca : checkEntry a = 0
  · have houta : encOut a = encL a := by simp [encOut, hca]
    by_cases hcb : checkEntry b = 0
    · have houtb : encOut b = encL b := by simp [encOut, hcb]
      by_cases hl : (encL b).length < (encL a).length
      · have dl : decide ((encL b).length < (encL a).length) = true := by simp [hl]
        simp only [go_sem, Nat.reduceLT, Nat.reduceAdd, Nat.reduceEqDiff, Nat.reduceLeDiff, Nat.reduceSub, Nat.reduceMul, Int.reduceEq, eq_self, reduceIte, hca, hcb, houta, houtb, BA_size, dl]
        refine ret_pure hx ?_
        simp [go_sem, Nat.reduceLT, Nat.reduceAdd, Nat.reduceEqDiff, Nat.reduceLeDiff, Nat.reduceSub, Nat.reduceMul, Int.reduceEq, eq_self, reduceIte, L8, R8]
      · have dl : decide ((encL b).length < (encL a).length) = false := by simp; omega
        have hle : (encL a).length ≤ (encL b).length := by omega
        have g6 : (BA (encL b)).extract 0 (encL a).length = BA ((encL b).take (encL a).length) := by rw [BA_extract]; simp
        simp only [go_sem, Nat.reduceLT, Nat.reduceAdd, Nat.reduceEqDiff, Nat.reduceLeDiff, Nat.reduceSub, Nat.reduceMul, Int.reduceEq, eq_self, reduceIte, hca, hcb, houta, houtb, BA_size, dl, hle, g6, Int.toNat_zero, Int.toNat_natCast, Int.le_refl]
        refine ops_call (.pure (sameEntry_meets a b)) ?_
        have hs : decide (BA ((encL b).take (encL a).length) = BA (encL a)) = sameE a b := by
          rw [Bool.eq_iff_iff, decide_eq_true_iff]
          constructor
          · intro h
            have h2 : (encL b).take (encL a).length = encL a := by
              have := congrArg (fun t : ByteArray => t.data.toList) h
              simpa [BA] using this
            rw [encL_apart hca hcb h2]; exact sameE_self b
          · intro h
            have : a = b := by simp only [sameE, Bool.and_eq_true, decide_eq_true_eq] at h; rw [Entry.eq_iff]; exact ⟨h.1.1.1, h.1.1.2, h.1.2, h.2⟩
            subst this
            rw [List.take_length]
        simp only [go_sem, Nat.reduceLT, Nat.reduceAdd, Nat.reduceEqDiff, Nat.reduceLeDiff, Nat.reduceSub, Nat.reduceMul, Int.reduceEq, eq_self, reduceIte, hs]
        refine ret_pure hx ?_
        simp [go_sem, Nat.reduceLT, Nat.reduceAdd, Nat.reduceEqDiff, Nat.reduceLeDiff, Nat.reduceSub, Nat.reduceMul, Int.reduceEq, eq_self, reduceIte, L8, R8]
    · have houtb : encOut b = [] := by simp [encOut, hcb]
      simp only [go_sem, Nat.reduceLT, Nat.reduceAdd, Nat.reduceEqDiff, Nat.reduceLeDiff, Nat.reduceSub, Nat.reduceMul, Int.reduceEq, eq_self, reduceIte, hca, hcb, houta, houtb, hb0]
      refine ret_pure hx ?_
      simp [go_sem, Nat.reduceLT, Nat.reduceAdd, Nat.reduceEqDiff, Nat.reduceLeDiff, Nat.reduceSub, Nat.reduceMul, Int.reduceEq, eq_self, reduceIte, L8, R8]
  · have houta : encOut a = [] := by simp [encOut, hca]
    by_cases hcb : checkEntry b = 0
    · simp only [go_sem, Nat.reduceLT, Nat.reduceAdd, Nat.reduceEqDiff, Nat.reduceLeDiff, Nat.reduceSub, Nat.reduceMul, Int.reduceEq, eq_self, reduceIte, hca, hcb, houta, hb0]
      refine ret_pure hx ?_
      simp [go_sem, Nat.reduceLT, Nat.reduceAdd, Nat.reduceEqDiff, Nat.reduceLeDiff, Nat.reduceSub, Nat.reduceMul, Int.reduceEq, eq_self, reduceIte, L8, R8]
    · have houtb : encOut b = [] := by simp [encOut, hcb]
      simp only [go_sem, Nat.reduceLT, Nat.reduceAdd, Nat.reduceEqDiff, Nat.reduceLeDiff, Nat.reduceSub, Nat.reduceMul, Int.reduceEq, eq_self, reduceIte, hca, hcb, houta, houtb, hb0]
      refine ret_pure hx ?_
      simp [go_sem, Nat.reduceLT, Nat.reduceAdd, Nat.reduceEqDiff, Nat.reduceLeDiff, Nat.reduceSub, Nat.reduceMul, Int.reduceEq, eq_self, reduceIte, L8, R8]
end Go.Proofs.Ythhkafjkhogbmaa
/- From an argument's reading as data to what the walks ask of memory; and from a walk that ends in 'true' to a law's statement. -/
namespace Go.Proofs.Ythhkafjkhogbmaa
open Go.RowKit Go.ChangeShapes Go.WideShapes Go.ChangeAt

section
variable {H : Type} {enc : TypeId × Value → H} {P : Program} {w : World} {sp : Nat → Bool} {held : Bool}

theorem trodAll_stays (hl : laidOutB P = true) {W W' : World} (hb : Below W.heap.size W W') : ∀ {ts : List TypeId} {vs : List Value} {ds : List (DataW H)} {ps : List MemPlace},
    (∀ t ∈ ts, P.readableRec t = true ∧ t < P.types.size) → (∀ x ∈ ps, x.block < W.heap.size) → DataW.TrodAll enc P W 0 (fun _ => true) true ts vs ds ps → DataW.TrodAll enc P W' 0 (fun b => decide (b < W.heap.size)) true ts vs ds ps
  | [], [], [], _, _, _, h => h
  | t :: ts, v :: vs, d :: ds, _, hr, hlt, h => by
    obtain ⟨p, q, h1, h2, rfl⟩ := h
    refine ⟨p, q, Below.trod hl (hr t (by simp)).1 (hr t (by simp)).2 h1 hb (fun x hx => hlt x (by simp [hx])), trodAll_stays hl hb (fun t' ht => hr t' (by simp [ht])) (fun x hx => hlt x (by simp [hx])) h2, rfl⟩
  | [], [], _ :: _, _, _, _, h => h.elim
  | [], _ :: _, _, _, _, _, h => by cases h
  | _ :: _, [], _, _, _, _, h => by cases h
  | _ :: _, _ :: _, [], _, _, _, h => h.elim

/-- A LAW's END: it has answered true, and of what was there nothing has turned. -/
theorem law_post {f : Func} {s : ChangeSpec} {apart : Bool} {W W' : World} {args : Array Value} {ds gs : List (DataW H)} {before : List MemPlace} {tb : TypeId}
    (hl : laidOutB P = true) (hpar : ∀ t ∈ f.params.toList, P.readableRec t = true ∧ t < P.types.size) (hres : f.resultTypes = #[tb]) (hub : P.underlying tb = some .bool) (hvars : s.vars = [])
    (hW : DataW.Whole enc P f.params.toList s.vars apart W args.toList ds gs before)
    (hs : s.fn H (ds ++ gs) = { results := [.lit (.bool true)], args := ds }) (hb : Below W.heap.size W W') : s.post enc P f apart true false false W args (.bool true) W' := by
  have hlt := hW.lt
  have hW' := hW
  obtain ⟨p, q, hA, hV, rfl, hfz, hnd⟩ := hW
  rw [hvars] at hV
  have hq : gs = [] ∧ q = [] := by
    cases gs with
    | nil => exact ⟨rfl, hV⟩
    | cons g gs => exact hV.elim
  obtain ⟨rfl, rfl⟩ := hq
  refine ⟨ds, [], _, [], p, [], hW', ?_, ?_, ?_, hb.frame _, fun h => by cases h⟩
  · rw [hs, hres]
    exact trodAll_mk1 (shut_bool hub true)
  · rw [hs]
    exact trodAll_stays hl hb hpar (fun x hx => hlt x (by simp [hx])) hA
  · rw [hs, hvars]
    rfl

theorem parsOf {ts : List TypeId} (h : (ts.all fun t => P.readableRec t && decide (t < P.types.size)) = true) : ∀ t ∈ ts, P.readableRec t = true ∧ t < P.types.size := by
  intro t ht
  have := List.all_eq_true.1 h t ht
  simpa only [Bool.and_eq_true, decide_eq_true_eq] using this

/-- the fields of a struct's reading -/
theorem trod_fields {t : TypeId} {fs : List (TypeId × Nat)} {fuel : Nat} {cs : List Value} {x : DataW H × List MemPlace} (hs : P.underlying t = some (.struct (P.fieldsOf t))) (hf : (P.fieldsOf t).toList.map (fun f => (f.type, f.offset)) = fs)
    (h : DataW.trod enc P w 0 sp held fuel t cs = some x) : cs.length = P.cellsOf t ∧ ∀ (i : Nat) (t' : TypeId) (o : Nat), fs[i]? = some (t', o) → ∃ n y, DataW.trod enc P w 0 sp held n t' ((cs.drop o).take (P.cellsOf t')) = some y := by
  obtain ⟨xs, n, _, _, hl, hlen, hq⟩ := DataW.trod_struct hs h
  refine ⟨hl, fun i t' o hi => ?_⟩
  rw [← hf, List.getElem?_map] at hi
  obtain ⟨f, h1, h2⟩ := Option.map_eq_some_iff.1 hi
  simp only [Prod.mk.injEq] at h2
  obtain ⟨rfl, rfl⟩ := h2
  have h3 := hq i f (by simpa using h1)
  have hi2 : i < (P.fieldsOf t).toList.length := (List.getElem?_eq_some_iff.1 h1).1
  have hi3 : i < xs.length := by rw [hlen]; simpa using hi2
  exact ⟨n, xs[i], by rw [h3]; simp⟩

/-- a slice's reading, element by element -/
theorem trod_elems {t e : TypeId} {fuel : Nat} {v : Value} {x : DataW H × List MemPlace} (ht : P.underlying t = some (.slice e)) (hsz : 0 < P.cellsOf e) (h : DataW.trod enc P w 0 sp held fuel t [v] = some x) :
    ∃ a n c, v = .slice a n c ∧ n ≤ c ∧ c ≤ maxLen ∧ ∀ k, k < n → ∃ b o cs m y, a = some ⟨b, o, none⟩ ∧ b < w.heap.size ∧ cs.length = P.cellsOf e ∧ (∀ j, j < P.cellsOf e → w.cell? ⟨b, o + k * P.cellsOf e + j, none⟩ = cs[j]?) ∧
      DataW.trod enc P w 0 sp held m e cs = some y := by
  rcases DataW.trod_slice ht h with ⟨hv, -⟩ | ⟨a, len, cap, elems, rest, m, -, hv, -, -, h1, h2, hl, hel, -, -⟩
  · exact ⟨none, 0, 0, by simpa using hv, by omega, by unfold maxLen; omega, fun k hk => by omega⟩
  · obtain rfl : v = .slice (some a) len cap := by simpa using hv
    have key : ∀ k, k < len → ∃ cs y, w.cells? 0 (a.add (k * P.cellsOf e)) (P.cellsOf e) = some cs ∧ DataW.trod enc P w 0 sp held m e cs = some y := by
      intro k hk
      have := hel k hk
      rw [List.getElem?_eq_getElem (by omega)] at this
      obtain ⟨cs, hcs, hy⟩ := Option.bind_eq_some_iff.1 this
      exact ⟨cs, _, hcs, hy⟩
    refine ⟨some a, len, cap, rfl, h1, h2, fun k hk => ?_⟩
    obtain ⟨cs0, y0, hc0, -⟩ := key 0 (by omega)
    have h0 := (World.cells?_some hc0).2.2 0 hsz
    obtain ⟨ab, ao, asp⟩ := a
    have hl0 := (World.cells?_some hc0).2.1
    have has : asp = none := by
      simp only [Nat.zero_mul, Addr.add, if_true] at h0
      rw [List.getElem?_eq_getElem (by omega)] at h0
      cases asp with
      | none => rfl
      | some s =>
        simp only [World.cell?] at h0
        split at h0 <;> simp at h0
    subst has
    obtain ⟨cs, y, hcs, hy⟩ := key k hk
    have h3 := World.cells?_some hcs
    have add_eq : ∀ (o n : Nat), (⟨ab, o, none⟩ : Addr).add n = ⟨ab, o + n, none⟩ := by
      intro o n; unfold Addr.add; split <;> simp_all
    refine ⟨ab, ao, cs, m, y, rfl, ?_, h3.2.1, fun j hj => ?_, hy⟩
    · exact World.cells?_block (a := ⟨ab, ao, none⟩) (by simpa [add_eq] using hc0) hsz
    · have := h3.2.2 j hj
      simpa [add_eq] using this
end

theorem list2 {α : Type} {l : List α} (h : l.length = 2) : ∃ a b, l = [a, b] := by
  match l, h with
  | [a, b], _ => exact ⟨a, b, rfl⟩
theorem list3 {α : Type} {l : List α} (h : l.length = 3) : ∃ a b c, l = [a, b, c] := by
  match l, h with
  | [a, b, c], _ => exact ⟨a, b, c, rfl⟩
theorem list4 {α : Type} {l : List α} (h : l.length = 4) : ∃ a b c d, l = [a, b, c, d] := by
  match l, h with
  | [a, b, c, d], _ => exact ⟨a, b, c, d, rfl⟩
theorem list5 {α : Type} {l : List α} (h : l.length = 5) : ∃ a b c d e, l = [a, b, c, d, e] := by
  match l, h with
  | [a, b, c, d, e], _ => exact ⟨a, b, c, d, e, rfl⟩
theorem arr_eq {α : Type} {cs : Array α} {l : List α} (h : cs.toList = l) : cs = l.toArray := by rw [← h]

/-- within the bounds of Go's int -/
def I64 (n : Int) : Prop := -9223372036854775808 ≤ n ∧ n ≤ 9223372036854775807
theorem i64_of_wf {n : Int} (h : (Lit.int .i64 n).wf = true) : I64 n := by simpa [Lit.wf, IntKind.min, IntKind.max, IntKind.signed, IntKind.bits, I64] using h

section
variable {H : Type} {enc : TypeId × Value → H} {w : World} {sp : Nat → Bool} {held : Bool}
theorem lawOwn : ownKnob Try.prog.godebug = none := by kernel_rfl
theorem lawLaid : laidOutB Try.prog = true := by kernel_rfl
theorem lawBool : Try.prog.underlying 4 = some .bool := by kernel_rfl
theorem undInt' : Try.prog.underlying 3 = some (.int .i64) := by kernel_rfl
theorem cellsInt : Try.prog.cellsOf 3 = 1 := by kernel_rfl
theorem openInt {fuel : Nat} {cs : List Value} {y : DataW H × List MemPlace} (h : DataW.trod enc Try.prog w 0 sp held fuel 3 cs = some y) : ∃ n, cs = [.int .i64 n] ∧ I64 n := by
  obtain ⟨n, rfl, -, hw⟩ := DataW.trod_int undInt' h
  exact ⟨n, rfl, i64_of_wf hw⟩
theorem undVec' : Try.prog.underlying 23 = some (.array 2 3) := by kernel_rfl
theorem cellsVec : Try.prog.cellsOf 23 = 2 := by kernel_rfl
set_option maxRecDepth 100000 in
theorem openVec {b0 : Nat} {v : Value} {d : DataW H} {p : List MemPlace} (hv : Value.okWide Try.prog w .any b0 23 v) (h : DataW.Trod enc Try.prog w 0 sp held 23 v d p) :
    ∃ a b : Int, v = .agg #[.int .i64 a, .int .i64 b] ∧ I64 a ∧ I64 b := by
  simp only [Value.okWide, undVec'] at hv
  obtain ⟨cs, rfl, hsz, -⟩ := hv
  obtain ⟨fuel, hf⟩ := h
  obtain ⟨xs, m, -, -, hl, hxl, hx⟩ := DataW.trod_array undVec' hf
  rw [cellsVec] at hl
  obtain ⟨u, v, e⟩ := list2 hl
  have h0 := hx 0 (by omega)
  have h1 := hx 1 (by omega)
  rw [List.getElem?_eq_getElem (by omega)] at h0 h1
  rw [e] at h0 h1
  obtain ⟨a, ea, wa⟩ := openInt h0
  obtain ⟨b, eb, wb⟩ := openInt h1
  simp only [cellsInt] at ea eb
  simp at ea eb
  subst ea eb
  exact ⟨a, b, congrArg Value.agg (arr_eq (cs := cs) e), wa, wb⟩
theorem undId : Try.prog.underlying 25 = some (.struct (Try.prog.fieldsOf 25)) := by kernel_rfl
theorem cellsId : Try.prog.cellsOf 25 = 2 := by kernel_rfl
theorem fldsId : (Try.prog.fieldsOf 25).toList.map (fun f => (f.type, f.offset)) = [(3, 0), (3, 1)] := by kernel_rfl
theorem openIdCells {fuel : Nat} {cs : List Value} {y : DataW H × List MemPlace} (h : DataW.trod enc Try.prog w 0 sp held fuel 25 cs = some y) : ∃ a b : Int, cs = [.int .i64 a, .int .i64 b] ∧ I64 a ∧ I64 b := by
  obtain ⟨hl, hx⟩ := trod_fields undId fldsId h
  rw [cellsId] at hl
  obtain ⟨u, v, rfl⟩ := list2 hl
  obtain ⟨n0, y0, h0⟩ := hx 0 3 0 rfl
  obtain ⟨n1, y1, h1⟩ := hx 1 3 1 rfl
  obtain ⟨a, ea, wa⟩ := openInt h0
  obtain ⟨b, eb, wb⟩ := openInt h1
  simp only [cellsInt] at ea eb
  simp at ea eb
  subst ea eb
  exact ⟨a, b, rfl, wa, wb⟩
set_option maxRecDepth 100000 in
theorem openId {b0 : Nat} {v : Value} {d : DataW H} {p : List MemPlace} (hv : Value.okWide Try.prog w .any b0 25 v) (h : DataW.Trod enc Try.prog w 0 sp held 25 v d p) :
    ∃ a b : Int, v = .agg #[.int .i64 a, .int .i64 b] ∧ I64 a ∧ I64 b := by
  obtain ⟨cs, rfl, -⟩ := okWide_struct undId hv
  obtain ⟨fuel, hf⟩ := h
  obtain ⟨a, b, e, wa, wb⟩ := openIdCells hf
  exact ⟨a, b, congrArg Value.agg (arr_eq (cs := cs) e), wa, wb⟩
end

end Go.Proofs.Ythhkafjkhogbmaa
/- From an argument's reading as data to abstract values; from a contract of a law to its statement. -/
namespace Go.Proofs.Ythhkafjkhogbmaa
open Go.RowKit Go.ChangeShapes Go.WideShapes Go.ChangeAt

/-- cells in memory show abstract values -/
def Shows (w : World) (ps : List PV) (cs : List Value) : Prop := cs.length = ps.length ∧ ∀ (j : Nat) p v, ps[j]? = some p → cs[j]? = some v → RepP (fun b _ => b < w.heap.size) w p v

section
variable {H : Type} {enc : TypeId × Value → H} {P : Program} {w : World} {sp : Nat → Bool} {held : Bool}

/-- what a type's reading gives: n cells, R of their abstract values -/
def Opens (enc : TypeId × Value → H) (P : Program) (w : World) (sp : Nat → Bool) (held : Bool) (t : TypeId) (n : Nat) (R : List PV → Prop) : Prop :=
  P.cellsOf t = n ∧ ∀ fuel cs (y : DataW H × List MemPlace), DataW.trod enc P w 0 sp held fuel t cs = some y → (∀ k ∈ y.1.weights P t, k ≤ reachBytes) → ∃ ps, ps.length = n ∧ R ps ∧ Shows w ps cs

theorem Opens.mono {t : TypeId} {n : Nat} {R R' : List PV → Prop} (h : Opens enc P w sp held t n R) (hR : ∀ ps, R ps → R' ps) : Opens enc P w sp held t n R' :=
  ⟨h.1, fun fuel cs y hy hw => by obtain ⟨ps, h1, h2, h3⟩ := h.2 fuel cs y hy hw; exact ⟨ps, h1, hR ps h2, h3⟩⟩

theorem shows1 {p : PV} {v : Value} (h : RepP (fun b _ => b < w.heap.size) w p v) : Shows w [p] [v] := by
  refine ⟨rfl, fun j q u hj hu => ?_⟩
  cases j with
  | zero => simp at hj hu; subst hj; subst hu; exact h
  | succ j => simp at hj

theorem opens_int {t : TypeId} (ht : P.underlying t = some (.int .i64)) (hc : P.cellsOf t = 1) : Opens enc P w sp held t 1 fun ps => ∃ n, I64 n ∧ ps = [.int .i64 n] := by
  refine ⟨hc, fun fuel cs y h _ => ?_⟩
  obtain ⟨n, rfl, -, hw⟩ := DataW.trod_int ht h
  exact ⟨[.int .i64 n], rfl, ⟨n, i64_of_wf hw, rfl⟩, shows1 (.int _ _)⟩
theorem opens_bool {t : TypeId} (ht : P.underlying t = some .bool) (hc : P.cellsOf t = 1) : Opens enc P w sp held t 1 fun ps => ∃ b, ps = [.bool b] := by
  refine ⟨hc, fun fuel cs y h _ => ?_⟩
  obtain ⟨b, rfl, -⟩ := DataW.trod_bool ht h
  exact ⟨[.bool b], rfl, ⟨b, rfl⟩, shows1 (.bool _)⟩
theorem opens_str {t : TypeId} (ht : P.underlying t = some .string) (hc : P.cellsOf t = 1) : Opens enc P w sp held t 1 fun ps => ∃ s : ByteArray, s.size ≤ reachBytes ∧ ps = [.str s] := by
  refine ⟨hc, fun fuel cs y h hw => ?_⟩
  obtain ⟨s, rfl, rfl, -⟩ := DataW.trod_string ht h
  have hs := hw s.data.toList.length (by simp [DataW.weights])
  exact ⟨[.str s], rfl, ⟨s, by simpa using hs, rfl⟩, shows1 (.str _)⟩

/-- a slice's reading, element by element, with their data -/
theorem trod_elems2 {t e : TypeId} {fuel : Nat} {v : Value} {x : DataW H × List MemPlace} (ht : P.underlying t = some (.slice e)) (hsz : 0 < P.cellsOf e) (h : DataW.trod enc P w 0 sp held fuel t [v] = some x) (hw : ∀ k ∈ x.1.weights P t, k ≤ reachBytes) :
    ∃ a n c, v = .slice a n c ∧ n ≤ c ∧ c ≤ maxLen ∧ n * P.bytesOf e ≤ reachBytes ∧ ∀ k, k < n → ∃ b o cs m y, a = some ⟨b, o, none⟩ ∧ b < w.heap.size ∧ cs.length = P.cellsOf e ∧ (∀ j, j < P.cellsOf e → w.cell? ⟨b, o + k * P.cellsOf e + j, none⟩ = cs[j]?) ∧
      DataW.trod enc P w 0 sp held m e cs = some y ∧ ∀ q ∈ y.1.weights P e, q ≤ reachBytes := by
  have memAll : ∀ (ds : List (DataW H)) (d : DataW H), d ∈ ds → ∀ q ∈ d.weights P e, q ∈ DataW.weightsAll P e ds := by
    intro ds
    induction ds with
    | nil => intro d hd; cases hd
    | cons d0 ds ih =>
      intro d hd q hq
      simp only [DataW.weightsAll, List.mem_append]
      rcases List.mem_cons.1 hd with rfl | hd
      · exact .inl hq
      · exact .inr (ih d hd q hq)
  rcases DataW.trod_slice ht h with ⟨hv, -⟩ | ⟨a, len, cap, elems, rest, m, -, hv, hx, -, h1, h2, hl, hel, -, -⟩
  · exact ⟨none, 0, 0, by simpa using hv, by omega, by unfold maxLen; omega, by omega, fun k hk => by omega⟩
  · obtain rfl : v = .slice (some a) len cap := by simpa using hv
    have hwt : len * P.bytesOf e ≤ reachBytes := by
      have := hw ((elems.length + rest.length) * P.bytesOf e) (by rw [hx]; simp [DataW.weights, ht])
      have h3 : len * P.bytesOf e ≤ (elems.length + rest.length) * P.bytesOf e := Nat.mul_le_mul_right _ (by omega)
      omega
    have key : ∀ k, k < len → ∃ cs y, w.cells? 0 (a.add (k * P.cellsOf e)) (P.cellsOf e) = some cs ∧ DataW.trod enc P w 0 sp held m e cs = some y ∧ ∀ q ∈ y.1.weights P e, q ≤ reachBytes := by
      intro k hk
      have := hel k hk
      rw [List.getElem?_eq_getElem (by omega)] at this
      obtain ⟨cs, hcs, hy⟩ := Option.bind_eq_some_iff.1 this
      refine ⟨cs, _, hcs, hy, fun q hq => hw q ?_⟩
      rw [hx]
      simp only [DataW.weights, ht, List.mem_cons, List.mem_append]
      exact .inr (.inl (memAll _ _ (List.mem_map.2 ⟨_, List.getElem_mem _, rfl⟩) q hq))
    refine ⟨some a, len, cap, rfl, h1, h2, hwt, fun k hk => ?_⟩
    obtain ⟨cs0, y0, hc0, -⟩ := key 0 (by omega)
    have h0 := (World.cells?_some hc0).2.2 0 hsz
    obtain ⟨ab, ao, asp⟩ := a
    have hl0 := (World.cells?_some hc0).2.1
    have has : asp = none := by
      simp only [Nat.zero_mul, Addr.add, if_true] at h0
      rw [List.getElem?_eq_getElem (by omega)] at h0
      cases asp with
      | none => rfl
      | some s =>
        simp only [World.cell?] at h0
        split at h0 <;> simp at h0
    subst has
    obtain ⟨cs, y, hcs, hy, hq⟩ := key k hk
    have h3 := World.cells?_some hcs
    have add_eq : ∀ (o n : Nat), (⟨ab, o, none⟩ : Addr).add n = ⟨ab, o + n, none⟩ := by
      intro o n; unfold Addr.add; split <;> simp_all
    refine ⟨ab, ao, cs, m, y, rfl, ?_, h3.2.1, fun j hj => ?_, hy, hq⟩
    · exact World.cells?_block (a := ⟨ab, ao, none⟩) (by simpa [add_eq] using hc0) hsz
    · have := h3.2.2 j hj
      simpa [add_eq] using this

theorem list_choose {α : Type} {n : Nat} {Q : Nat → α → Prop} (h : ∀ k, k < n → ∃ x, Q k x) : ∃ l : List α, l.length = n ∧ ∀ (k : Nat) x, l[k]? = some x → Q k x := by
  induction n with
  | zero => exact ⟨[], rfl, fun k x hk => by simp at hk⟩
  | succ n ih =>
    obtain ⟨l, h1, h2⟩ := ih fun k hk => h k (by omega)
    obtain ⟨x, hx⟩ := h n (by omega)
    refine ⟨l ++ [x], by simp [h1], fun k y hk => ?_⟩
    by_cases hlt : k < l.length
    · rw [List.getElem?_append_left hlt] at hk; exact h2 k y hk
    · rw [List.getElem?_append_right (by omega)] at hk
      have : k - l.length = 0 := by
        have := (List.getElem?_eq_some_iff.1 hk).1
        simp at this; omega
      rw [this] at hk
      simp at hk
      subst hk
      rw [show k = n by omega]; exact hx

theorem opens_slice {t e : TypeId} {n : Nat} {R : List PV → Prop} (ht : P.underlying t = some (.slice e)) (hc : P.cellsOf t = 1) (hn : 0 < n) (he : Opens enc P w sp held e n R) :
    Opens enc P w sp held t 1 fun ps => ∃ rows, rows.length * P.bytesOf e ≤ reachBytes ∧ (∀ row ∈ rows, row.length = n ∧ R row) ∧ ps = [.list rows] := by
  refine ⟨hc, fun fuel cs y h hw => ?_⟩
  have hcs : ∃ v, cs = [v] := by
    rcases DataW.trod_slice ht h with ⟨hv, -⟩ | ⟨a, len, cap, elems, rest, m, -, hv, -⟩ <;> exact ⟨_, hv⟩
  obtain ⟨v, rfl⟩ := hcs
  obtain ⟨hce, he⟩ := he
  obtain ⟨a, len, c, rfl, h1, h2, hby, h3⟩ := trod_elems2 ht (by omega) h hw
  rw [hce] at h3
  obtain ⟨rows, r1, r2⟩ := list_choose (Q := fun k (row : List PV) => row.length = n ∧ R row ∧ ∃ b o cs, a = some ⟨b, o, none⟩ ∧ b < w.heap.size ∧ cs.length = n ∧ (∀ j, j < n → w.cell? ⟨b, o + k * n + j, none⟩ = cs[j]?) ∧ Shows w row cs) fun k hk => by
    obtain ⟨b, o, cs, m, y, q1, q2, q3, q4, q5, q6⟩ := h3 k hk
    obtain ⟨ps, p1, p2, p3⟩ := he m cs y q5 q6
    exact ⟨ps, p1, p2, b, o, cs, q1, q2, q3, q4, p3⟩
  refine ⟨[.list rows], rfl, ⟨rows, by rw [r1]; exact hby, fun row hr => ?_, rfl⟩, shows1 ?_⟩
  · obtain ⟨k, hk⟩ := List.getElem?_of_mem hr
    exact ⟨(r2 k row hk).1, (r2 k row hk).2.1⟩
  · have key : ∀ k row j p, rows[k]? = some row → row[j]? = some p → ∃ b o, a = some ⟨b, o, none⟩ ∧ b < w.heap.size ∧ ∃ u, w.cell? ⟨b, o + k * n + j, none⟩ = some u ∧ RepP (fun b _ => b < w.heap.size) w p u := by
      intro k row j p hk hj
      obtain ⟨hl, -, b, o, cs, q1, q2, q3, q4, q5⟩ := r2 k row hk
      have hlt : j < n := by rw [← hl]; exact (List.getElem?_eq_some_iff.1 hj).1
      refine ⟨b, o, q1, q2, cs[j]'(by omega), ?_, ?_⟩
      · rw [q4 j hlt, List.getElem?_eq_getElem (by omega)]
      · exact q5.2 j p _ hj (List.getElem?_eq_getElem (by omega))
    have := RepP.list (S := fun b _ => b < w.heap.size) (w := w) rows a c n (fun k j => match a with | some ad => (w.cell? ⟨ad.block, ad.off + k * n + j, none⟩).getD Go.undef | none => Go.undef) (by omega) h2 hn (fun row hr => by
        obtain ⟨k, hk⟩ := List.getElem?_of_mem hr
        exact (r2 k row hk).1) (fun k row j p hk hj => by
        obtain ⟨b, o, q1, q2, u, q3, q4⟩ := key k row j p hk hj
        subst q1
        exact ⟨b, o, rfl, q2, by simp [q3]⟩) (fun k row j p hk hj => by
        obtain ⟨b, o, q1, q2, u, q3, q4⟩ := key k row j p hk hj
        subst q1
        simp only [q3, Option.getD_some]
        exact q4)
    rw [r1] at this
    exact this

/-- fields, one behind the other -/
def offs : Nat → List (TypeId × Nat) → List (TypeId × Nat)
  | _, [] => []
  | o, (t, n) :: r => (t, o) :: offs (o + n) r
def RAll : List (Nat × (List PV → Prop)) → List PV → Prop
  | [], ps => ps = []
  | (n, R) :: r, ps => ∃ a b, ps = a ++ b ∧ a.length = n ∧ R a ∧ RAll r b
def OpensAll (enc : TypeId × Value → H) (P : Program) (w : World) (sp : Nat → Bool) (held : Bool) : List (TypeId × Nat × (List PV → Prop)) → Prop
  | [] => True
  | (t, n, R) :: r => Opens enc P w sp held t n R ∧ OpensAll enc P w sp held r

theorem shows_append {a b : List PV} {cs ds : List Value} (h1 : Shows w a cs) (h2 : Shows w b ds) : Shows w (a ++ b) (cs ++ ds) := by
  refine ⟨by simp [h1.1, h2.1], fun j p v hj hv => ?_⟩
  by_cases hlt : j < a.length
  · rw [List.getElem?_append_left hlt] at hj
    rw [List.getElem?_append_left (by rw [h1.1]; exact hlt)] at hv
    exact h1.2 j p v hj hv
  · rw [List.getElem?_append_right (by omega)] at hj
    rw [List.getElem?_append_right (by rw [h1.1]; omega), h1.1] at hv
    exact h2.2 _ p v hj hv

theorem opens_fields : ∀ (fl : List (TypeId × Nat × (List PV → Prop))) (o : Nat) (cs : List Value), OpensAll enc P w sp held fl → cs.length = o + (fl.map (·.2.1)).sum →
    (∀ (i : Nat) (t' : TypeId) (o' : Nat), (offs o (fl.map fun f => (f.1, f.2.1)))[i]? = some (t', o') → ∃ n y, DataW.trod enc P w 0 sp held n t' ((cs.drop o').take (P.cellsOf t')) = some y ∧ ∀ k ∈ y.1.weights P t', k ≤ reachBytes) →
    ∃ ps, ps.length = (fl.map (·.2.1)).sum ∧ RAll (fl.map (·.2)) ps ∧ Shows w ps (cs.drop o)
  | [], o, cs, _, hl, _ => ⟨[], rfl, rfl, by
      rw [List.drop_eq_nil_of_le (by simp at hl; omega)]
      exact ⟨rfl, fun j p v hj => by simp at hj⟩⟩
  | (t, n, R) :: fl, o, cs, ho, hl, hx => by
    obtain ⟨⟨hc, h1⟩, h2⟩ := ho
    obtain ⟨m, y, hy, hwy⟩ := hx 0 t o rfl
    obtain ⟨ps, p1, p2, p3⟩ := h1 m _ y hy hwy
    simp only [List.map_cons, List.sum_cons] at hl
    obtain ⟨qs, q1, q2, q3⟩ := opens_fields fl (o + n) cs h2 (by omega) fun i t' o' hi => hx (i + 1) t' o' hi
    refine ⟨ps ++ qs, by simp [p1, q1], ⟨ps, qs, rfl, p1, p2, q2⟩, ?_⟩
    rw [hc] at p3
    have : cs.drop o = (cs.drop o).take n ++ cs.drop (o + n) := by rw [← List.drop_drop, List.take_append_drop]
    rw [this]
    exact shows_append p3 q3

theorem opens_struct {t : TypeId} {n : Nat} (fl : List (TypeId × Nat × (List PV → Prop))) (hs : P.underlying t = some (.struct (P.fieldsOf t))) (hf : (P.fieldsOf t).toList.map (fun f => (f.type, f.offset)) = offs 0 (fl.map fun f => (f.1, f.2.1)))
    (hc : P.cellsOf t = n) (hn : (fl.map (·.2.1)).sum = n) (ho : OpensAll enc P w sp held fl) : Opens enc P w sp held t n (RAll (fl.map (·.2))) := by
  refine ⟨hc, fun fuel cs y h hw => ?_⟩
  obtain ⟨xs, m, _, hy, hl, hlen, hq⟩ := DataW.trod_struct hs h
  have hx : ∀ (i : Nat) (t' : TypeId) (o' : Nat), (offs 0 (fl.map fun f => (f.1, f.2.1)))[i]? = some (t', o') → ∃ n y, DataW.trod enc P w 0 sp held n t' ((cs.drop o').take (P.cellsOf t')) = some y ∧ ∀ k ∈ y.1.weights P t', k ≤ reachBytes := by
    intro i t' o' hi
    rw [← hf, List.getElem?_map] at hi
    obtain ⟨f, h1, h2⟩ := Option.map_eq_some_iff.1 hi
    simp only [Prod.mk.injEq] at h2
    obtain ⟨rfl, rfl⟩ := h2
    have h3 := hq i f (by simpa using h1)
    have hi2 : i < (P.fieldsOf t).toList.length := (List.getElem?_eq_some_iff.1 h1).1
    have hi3 : i < xs.length := by rw [hlen]; simpa using hi2
    refine ⟨m, xs[i], by rw [h3]; simp, fun k hk => hw k ?_⟩
    rw [hy]
    simp only [DataW.weights, hs]
    refine DataW.weights_mem_each (j := i) (t := f.type) (d := xs[i].1) ?_ ?_ k hk
    · rw [List.getElem?_map, h1]; rfl
    · rw [List.getElem?_map, List.getElem?_eq_getElem hi3]; rfl
  obtain ⟨ps, h1, h2, h3⟩ := opens_fields fl 0 cs ho (by omega) hx
  exact ⟨ps, by omega, h2, h3⟩

/-- an argument of one cell -/
theorem open_cell {t : TypeId} {R : List PV → Prop} (ho : Opens enc P w sp held t 1 R) {v : Value} (h1 : ∀ cs, v ≠ .agg cs) {d : DataW H} {p : List MemPlace} (h : DataW.Trod enc P w 0 sp held t v d p) (hw : ∀ k ∈ d.weights P t, k ≤ reachBytes) : ∃ q, R [q] ∧ RepP (fun b _ => b < w.heap.size) w q v := by
  obtain ⟨fuel, hf⟩ := h
  obtain ⟨ps, p1, p2, p3⟩ := ho.2 fuel _ _ hf hw
  have hv : v.cells.toList = [v] := by cases v <;> first | rfl | exact (h1 _ rfl).elim
  match ps, p1 with
  | [q], _ => exact ⟨q, p2, p3.2 0 q v rfl (by rw [hv]; rfl)⟩

/-- an argument of several cells -/
theorem open_agg {t : TypeId} {n : Nat} {R : List PV → Prop} (ho : Opens enc P w sp held t n R) {v : Value} (h1 : ∃ cs, v = .agg cs) {d : DataW H} {p : List MemPlace} (h : DataW.Trod enc P w 0 sp held t v d p) (hw : ∀ k ∈ d.weights P t, k ≤ reachBytes) (S : Nat → Nat → Prop) (hS : ∀ b o, b < w.heap.size → S b o) (C : Conc) : ∃ ps, R ps ∧ RepV S w C (.agg ps) v := by
  obtain ⟨fuel, hf⟩ := h
  obtain ⟨cs, rfl⟩ := h1
  obtain ⟨ps, p1, p2, p3⟩ := ho.2 fuel _ _ hf hw
  have hk : ∀ (j : Nat) q x, ps[j]? = some q → cs.toList[j]? = some x → RepP (fun b _ => b < w.heap.size) w q x := fun j q x hj hx => p3.2 j q x hj hx
  refine ⟨ps, p2, ?_⟩
  have := RepV.agg (S := S) (w := w) (C := C) ps cs.toList p3.1 (fun j x hx => ?_) fun j q x hj hx => .pure ((hk j q x hj hx).mono (fun b o h => hS b o h) fun _ _ _ => rfl)
  · simpa using this
  · have hlt : j < ps.length := by rw [← p3.1]; exact (List.getElem?_eq_some_iff.1 hx).1
    exact (hk j _ x (List.getElem?_eq_getElem hlt) hx).one
end

/-- the world in which a law is called -/
def lawCx (w : World) : Cx := ⟨w, fun b _ => b < w.heap.size, ⟨0, fun _ => 0, fun _ => Go.undef, fun _ => 0⟩, []⟩
theorem lawHR (w : World) : HR (lawCx w) (lawCx w).C0 [] w :=
  ⟨rfl, fun id ob h => by simp at h, fun id id' ob ob' b h => by simp at h, fun id ob b h => by simp at h, fun b o h => ⟨h, fun id ob h => by simp at h, rfl⟩, Nat.le_refl _, rfl, rfl, rfl, fun b _ _ => rfl, Nat.le_refl _, fun i hi => rfl, fun i hi => .inl ⟨rfl, rfl⟩⟩
theorem lawStab {w : World} {b o : Nat} (h : b < w.heap.size) : Stab (lawCx w) (lawCx w).C0 [] w b o := ⟨.inl h, h, fun id ob h => by simp at h⟩

/-- an argument, seen from the law's call -/
def Arg (w : World) (p : PV) (v : Value) : Prop := RepV (Stab (lawCx w) (lawCx w).C0 [] w) w (lawCx w).C0 p v
theorem Arg.of {w : World} {p : PV} {v : Value} (h : RepP (fun b _ => b < w.heap.size) w p v) : Arg w p v := .pure (h.mono (fun _ _ h => lawStab h) fun _ _ _ => rfl)

inductive ArgsAre (w : World) : List PV → List Value → Prop
  | nil : ArgsAre w [] []
  | cons {p : PV} {v : Value} {ps : List PV} {vs : List Value} (h : Arg w p v) (t : ArgsAre w ps vs) : ArgsAre w (p :: ps) (v :: vs)
theorem ArgsAre.reps {w : World} {ps : List PV} {vs : List Value} (h : ArgsAre w ps vs) : Reps (Stab (lawCx w) (lawCx w).C0 [] w) w (lawCx w).C0 ps vs := by
  induction h with
  | nil => exact ⟨rfl, fun j p v hj => by simp at hj⟩
  | cons h t ih =>
    refine ⟨by simp [ih.1], fun j p v hj hv => ?_⟩
    cases j with
    | zero => simp at hj hv; subst hj; subst hv; exact h
    | succ j => exact ih.2 j p v (by simpa using hj) (by simpa using hv)

theorem law_calls {P : Program} {f : Nat} {args : List PV} {vs : Array Value} {w : World} (h : Meets P f args [] (.bool true) []) (hp : ArgsAre w args vs.toList) : Calls P f vs w fun e w' => e = .returned (.bool true) ∧ Below w.heap.size w w' := by
  refine (h (lawCx w) vs rfl (lawHR w) hp.reps).mono fun e w' ⟨v, C', h1, h2, h3⟩ => ?_
  have hv := h3.bool_inv
  subst hv
  exact ⟨h1, ⟨h2.os, h2.tape, h2.output, h2.size, fun b hb => h2.frame b hb fun i ob0 hi => by simp [lawCx] at hi⟩⟩

end Go.Proofs.Ythhkafjkhogbmaa
/- Arguments of laws, opened: ids, entries, lists of them. -/
namespace Go.Proofs.Ythhkafjkhogbmaa
open Go.RowKit Go.ChangeShapes Go.WideShapes Go.ChangeAt
section
variable {H : Type} {enc : TypeId × Value → H} {w : World} {sp : Nat → Bool} {held : Bool}

theorem rows_map {α : Type} {f : α → List PV} {Q : α → Prop} {n : Nat} : ∀ {rows : List (List PV)}, (∀ row ∈ rows, row.length = n ∧ ∃ x, Q x ∧ row = f x) → ∃ l : List α, (∀ x ∈ l, Q x) ∧ rows = l.map f
  | [], _ => ⟨[], by simp, rfl⟩
  | row :: rows, h => by
    obtain ⟨-, x, h1, rfl⟩ := h row (by simp)
    obtain ⟨l, h2, rfl⟩ := rows_map (rows := rows) fun row hr => h row (by simp [hr])
    exact ⟨x :: l, by simpa using ⟨h1, h2⟩, rfl⟩

theorem opInt : Opens enc Try.prog w sp held 3 1 fun ps => ∃ n, I64 n ∧ ps = [.int .i64 n] := opens_int undInt' cellsInt
theorem opStr : Opens enc Try.prog w sp held 9 1 fun ps => ∃ s : ByteArray, s.size ≤ reachBytes ∧ ps = [.str s] := opens_str (by kernel_rfl) (by kernel_rfl)
theorem opBool : Opens enc Try.prog w sp held 4 1 fun ps => ∃ b, ps = [.bool b] := opens_bool lawBool (by kernel_rfl)

def wfId (x : Id) : Prop := I64 x.r ∧ I64 x.n
theorem opId : Opens enc Try.prog w sp held 25 2 fun ps => ∃ x : Id, wfId x ∧ ps = cId x :=
  (opens_struct [(3, 1, _), (3, 1, _)] undId (by kernel_rfl) cellsId rfl ⟨opInt, opInt, trivial⟩).mono (by
    rintro ps ⟨a, b, rfl, -, ⟨n, hn, rfl⟩, c, d, rfl, -, ⟨m, hm, rfl⟩, rfl⟩
    exact ⟨⟨n, m⟩, ⟨hn, hm⟩, rfl⟩)
theorem opIds : Opens enc Try.prog w sp held 37 1 fun ps => ∃ l : List Id, l.length * 16 ≤ reachBytes ∧ (∀ x ∈ l, wfId x) ∧ ps = [.list (l.map cId)] :=
  (opens_slice (by kernel_rfl) (by kernel_rfl) (by omega) opId).mono (by
    rintro ps ⟨rows, hm, hr, rfl⟩
    obtain ⟨l, h1, rfl⟩ := rows_map hr
    rw [show Try.prog.bytesOf 25 = 16 by kernel_rfl] at hm
    exact ⟨l, by simpa using hm, h1, rfl⟩)
def wfE (e : Entry) : Prop := wfId e.id ∧ I64 e.c ∧ e.t.size ≤ reachBytes ∧ e.ls.length * 16 ≤ reachBytes ∧ ∀ x ∈ e.ls, wfId x
theorem undEntry : Try.prog.underlying 39 = some (.struct (Try.prog.fieldsOf 39)) := by kernel_rfl
theorem opEntry : Opens enc Try.prog w sp held 39 5 fun ps => ∃ e : Entry, wfE e ∧ ps = cE e :=
  (opens_struct [(25, 2, _), (3, 1, _), (9, 1, _), (37, 1, _)] undEntry (by kernel_rfl) (by kernel_rfl) rfl ⟨opId, opInt, opStr, opIds, trivial⟩).mono (by
    rintro ps ⟨a, b, rfl, -, ⟨x, hx, rfl⟩, c, d, rfl, -, ⟨n, hn, rfl⟩, f, g, rfl, -, ⟨s, hs, rfl⟩, k, q, rfl, -, ⟨l, hl, hq, rfl⟩, rfl⟩
    exact ⟨⟨x, n, s, l⟩, ⟨hx, hn, hs, hl, hq⟩, rfl⟩)

set_option maxRecDepth 100000 in
theorem argInt {b0 : Nat} {v : Value} {d : DataW H} {p : List MemPlace} (hv : Value.okWide Try.prog w .any b0 3 v) (h : DataW.Trod enc Try.prog w 0 sp held 3 v d p) (hw : ∀ k ∈ d.weights Try.prog 3, k ≤ reachBytes) : ∃ n, I64 n ∧ Arg w (.int .i64 n) v := by
  obtain ⟨m, rfl⟩ := okWide_int undInt' hv
  obtain ⟨q, ⟨n, hn, hq⟩, h2⟩ := open_cell opInt (by simp) h hw
  simp at hq; subst hq
  exact ⟨n, hn, .of h2⟩
set_option maxRecDepth 100000 in
theorem argBool {b0 : Nat} {v : Value} {d : DataW H} {p : List MemPlace} (hv : Value.okWide Try.prog w .any b0 4 v) (h : DataW.Trod enc Try.prog w 0 sp held 4 v d p) (hw : ∀ k ∈ d.weights Try.prog 4, k ≤ reachBytes) : ∃ n, Arg w (.bool n) v := by
  obtain ⟨m, rfl⟩ := okWide_bool lawBool hv
  obtain ⟨q, ⟨n, hq⟩, h2⟩ := open_cell opBool (by simp) h hw
  simp at hq; subst hq
  exact ⟨n, .of h2⟩
set_option maxRecDepth 100000 in
theorem argStr {b0 : Nat} {v : Value} {d : DataW H} {p : List MemPlace} (hv : Value.okWide Try.prog w .any b0 9 v) (h : DataW.Trod enc Try.prog w 0 sp held 9 v d p) (hw : ∀ k ∈ d.weights Try.prog 9, k ≤ reachBytes) : ∃ s : ByteArray, s.size ≤ reachBytes ∧ Arg w (.str s) v := by
  obtain ⟨m, rfl⟩ := okWide_string (by kernel_rfl) hv
  obtain ⟨q, ⟨n, hn, hq⟩, h2⟩ := open_cell opStr (by simp) h hw
  simp at hq; subst hq
  exact ⟨n, hn, .of h2⟩
set_option maxRecDepth 100000 in
theorem argId {b0 : Nat} {v : Value} {d : DataW H} {p : List MemPlace} (hv : Value.okWide Try.prog w .any b0 25 v) (h : DataW.Trod enc Try.prog w 0 sp held 25 v d p) (hw : ∀ k ∈ d.weights Try.prog 25, k ≤ reachBytes) : ∃ x : Id, wfId x ∧ Arg w (.agg (cId x)) v := by
  obtain ⟨cs, rfl, -⟩ := okWide_struct undId hv
  obtain ⟨ps, ⟨x, hx, rfl⟩, h2⟩ := open_agg opId ⟨_, rfl⟩ h hw (Stab (lawCx w) (lawCx w).C0 [] w) (fun _ _ h => lawStab h) _
  exact ⟨x, hx, h2⟩
set_option maxRecDepth 100000 in
theorem argEntry {b0 : Nat} {v : Value} {d : DataW H} {p : List MemPlace} (hv : Value.okWide Try.prog w .any b0 39 v) (h : DataW.Trod enc Try.prog w 0 sp held 39 v d p) (hw : ∀ k ∈ d.weights Try.prog 39, k ≤ reachBytes) : ∃ e : Entry, wfE e ∧ Arg w (.agg (cE e)) v := by
  obtain ⟨cs, rfl, -⟩ := okWide_struct undEntry hv
  obtain ⟨ps, ⟨x, hx, rfl⟩, h2⟩ := open_agg opEntry ⟨_, rfl⟩ h hw (Stab (lawCx w) (lawCx w).C0 [] w) (fun _ _ h => lawStab h) _
  exact ⟨x, hx, h2⟩
end
end Go.Proofs.Ythhkafjkhogbmaa
