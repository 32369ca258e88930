/- Walks through the reference's small words: numbers, ids. -/
import Derived.Test.YthhkafjkhogbmaaEntryW
namespace Go.Proofs.Ythhkafjkhogbmaa
open Go.RowKit

theorem between_calls (n a b : Int) (w : World) : Calls Try.prog 49 #[.int .i64 n, .int .i64 a, .int .i64 b] w fun e w' => e = .returned (.bool (wthn n a b)) ∧ w = w' := by
  by_cases h1 : a ≤ n
  · go_enter Try.func49, Try.ntmps49
    go_wp2
    go_ret
    exact ⟨by simp [wthn, h1], rfl⟩
  · go_enter Try.func49, Try.ntmps49
    go_wp2
    go_ret
    exact ⟨by simp [wthn]; omega, rfl⟩
theorem isId_calls (r n : Int) (w : World) : Calls Try.prog 17 #[.agg #[.int .i64 r, .int .i64 n]] w fun e w' => e = .returned (.bool (okId ⟨r, n⟩)) ∧ Below w.heap.size w w' := by
  cases h1 : wthn r 0 1
  · have e : okId ⟨r, n⟩ = false := by simp [okId, h1]
    rw [e]
    go_enter Try.func17, Try.ntmps17
    go_wp2_with (go_at_call 49; refine (between_calls _ _ _ _).mono ?_; rintro x w1 ⟨rfl, rfl⟩)
    go_ret
    exact ⟨rfl, (Below.refl _ _).alloc (Nat.le_refl _) _⟩
  · have e : okId ⟨r, n⟩ = wthn n 1 20 := by simp [okId, h1]
    rw [e]
    go_enter Try.func17, Try.ntmps17
    go_wp2_with (go_at_call 49; refine (between_calls _ _ _ _).mono ?_; rintro x w1 ⟨rfl, rfl⟩)
    go_ret
    exact ⟨rfl, (Below.refl _ _).alloc (Nat.le_refl _) _⟩
theorem isAhead_calls (a b : Id) (w : World) : Calls Try.prog 27 #[.agg #[.int .i64 a.r, .int .i64 a.n], .agg #[.int .i64 b.r, .int .i64 b.n]] w fun e w' => e = .returned (.bool (lessB a b)) ∧ Below w.heap.size w w' := by
  by_cases h1 : a.r < b.r
  · have e : lessB a b = true := by simp [lessB, h1]
    rw [e]
    go_enter Try.func27, Try.ntmps27
    go_wp2
    go_ret
    exact ⟨rfl, by (repeat (first | exact Below.refl _ _ | assumption | refine Below.drew ?_ | refine below_drewN ?_ | refine Below.alloc ?_ (by first | (simp; done) | (simp; omega) | omega) _ | refine Below.setCell ?_ (by first | (simp; done) | (simp; omega) | omega) _))⟩
  · cases h2 : (a.r == b.r)
    · have e : lessB a b = false := by
        have h3 : a.r ≠ b.r := by simpa using h2
        simp only [lessB, decide_eq_false_iff_not]; omega
      rw [e]
      go_enter Try.func27, Try.ntmps27
      go_wp2
      go_ret
      exact ⟨rfl, by (repeat (first | exact Below.refl _ _ | assumption | refine Below.drew ?_ | refine below_drewN ?_ | refine Below.alloc ?_ (by first | (simp; done) | (simp; omega) | omega) _ | refine Below.setCell ?_ (by first | (simp; done) | (simp; omega) | omega) _))⟩
    · have e : lessB a b = decide (a.n < b.n) := by
        have h3 : a.r = b.r := by simpa using h2
        simp only [lessB, decide_eq_decide]; omega
      rw [e]
      go_enter Try.func27, Try.ntmps27
      go_wp2
      go_ret
      exact ⟨rfl, by (repeat (first | exact Below.refl _ _ | assumption | refine Below.drew ?_ | refine below_drewN ?_ | refine Below.alloc ?_ (by first | (simp; done) | (simp; omega) | omega) _ | refine Below.setCell ?_ (by first | (simp; done) | (simp; omega) | omega) _))⟩
theorem lawId_calls (r n : Int) (w : World) : Calls Try.prog 50 #[.int .i64 r, .int .i64 n] w fun e w' => e = .returned (.agg #[.int .i64 r, .int .i64 n]) ∧ Below w.heap.size w w' := by
  go_enter Try.func50, Try.ntmps50
  go_wp2
  exact bodyPost_ret (v := .agg #[.int .i64 r, .int .i64 n]) (by simp [results, Try.results50, go_sem]) rfl ⟨rfl, by (repeat (first | exact Below.refl _ _ | assumption | refine Below.drew ?_ | refine below_drewN ?_ | refine Below.alloc ?_ (by first | (simp; done) | (simp; omega) | omega) _ | refine Below.setCell ?_ (by first | (simp; done) | (simp; omega) | omega) _))⟩

end Go.Proofs.Ythhkafjkhogbmaa
