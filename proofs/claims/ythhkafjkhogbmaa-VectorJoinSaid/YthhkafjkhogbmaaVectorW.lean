/- Walks through package vector and what the reference says of vectors. -/
import Derived.Test.YthhkafjkhogbmaaEntryW
namespace Go.Proofs.Ythhkafjkhogbmaa
open Go.RowKit

/-- what is wrong with a vector -/
def chkV (a b : Int) : Int := if wthn a 0 20 = true ∧ wthn b 0 20 = true then 0 else 3
theorem chkV_ok {a b : Int} (h1 : 0 ≤ a) (h2 : a ≤ 20) (h3 : 0 ≤ b) (h4 : b ≤ 20) : chkV a b = 0 := by
  rw [chkV, if_pos ⟨wthn_iff.2 ⟨h1, h2⟩, wthn_iff.2 ⟨h3, h4⟩⟩]
theorem chkV_bad {a b : Int} (h : ¬(0 ≤ a ∧ a ≤ 20 ∧ 0 ≤ b ∧ b ≤ 20)) : chkV a b = 3 := by
  rw [chkV, if_neg]
  rw [wthn_iff, wthn_iff]
  omega

set_option maxRecDepth 100000 in
theorem vcheck_calls (a b : Int) (w : World) : Calls Try.prog 19 #[.agg #[.int .i64 a, .int .i64 b]] w fun x w' => x = .returned (.int .i64 (chkV a b)) ∧ Below w.heap.size w w' := by
  have i0 : ∀ w, (Instr.index 23 (.agg #[.int .i64 a, .int .i64 b]) (.int .i64 0)).run Try.prog w = .ok (.int .i64 a) w := fun _ => by kernel_rfl
  have i1 : ∀ w, (Instr.index 23 (.agg #[.int .i64 a, .int .i64 b]) (.int .i64 1)).run Try.prog w = .ok (.int .i64 b) w := fun _ => by kernel_rfl
  go_enter Try.func19, Try.ntmps19
  go_wp2
  refine wp_loop_rounds 3 ?_
  refine rounds_step (n := 2) ?_
  go_wp2
  all_goals (try (go_ret; refine ⟨ret_int (chkV_bad (by omega)).symm, by (repeat (first | exact Below.refl _ _ | assumption | refine Below.drew ?_ | refine below_drewN ?_ | refine Below.alloc ?_ (by first | (simp; done) | (simp; omega) | omega) _ | refine Below.setCell ?_ (by first | (simp; done) | (simp; omega) | omega) _))⟩))
  all_goals (try (refine rounds_step (n := 1) ?_; go_wp2))
  all_goals (try (go_ret; refine ⟨ret_int (chkV_bad (by omega)).symm, by (repeat (first | exact Below.refl _ _ | assumption | refine Below.drew ?_ | refine below_drewN ?_ | refine Below.alloc ?_ (by first | (simp; done) | (simp; omega) | omega) _ | refine Below.setCell ?_ (by first | (simp; done) | (simp; omega) | omega) _))⟩))
  all_goals (try (refine rounds_step (n := 0) ?_; go_wp2))
  all_goals (try (go_ret; refine ⟨ret_int (chkV_ok (by omega) (by omega) (by omega) (by omega)).symm, by (repeat (first | exact Below.refl _ _ | assumption | refine Below.drew ?_ | refine below_drewN ?_ | refine Below.alloc ?_ (by first | (simp; done) | (simp; omega) | omega) _ | refine Below.setCell ?_ (by first | (simp; done) | (simp; omega) | omega) _))⟩))

/-- has a vector an id that may be? -/
def hasV (a b r n : Int) : Bool := decide (n ≤ if r = 0 then a else b)
theorem holds_calls (a b r n : Int) (hr : r = 0 ∨ r = 1) (w : World) : Calls Try.prog 47 #[.agg #[.int .i64 a, .int .i64 b], .agg #[.int .i64 r, .int .i64 n]] w fun x w' => x = .returned (.bool (hasV a b r n)) ∧ Below w.heap.size w w' := by
  rcases hr with rfl | rfl
  · go_enter Try.func47, Try.ntmps47
    go_wp2
    go_quiet (fail)
    go_wp2
    go_ret
    exact ⟨rfl, by (repeat (first | exact Below.refl _ _ | assumption | refine Below.drew ?_ | refine below_drewN ?_ | refine Below.alloc ?_ (by first | (simp; done) | (simp; omega) | omega) _ | refine Below.setCell ?_ (by first | (simp; done) | (simp; omega) | omega) _))⟩
  · go_enter Try.func47, Try.ntmps47
    go_wp2
    go_quiet (fail)
    go_wp2
    go_ret
    exact ⟨rfl, by (repeat (first | exact Below.refl _ _ | assumption | refine Below.drew ?_ | refine below_drewN ?_ | refine Below.alloc ?_ (by first | (simp; done) | (simp; omega) | omega) _ | refine Below.setCell ?_ (by first | (simp; done) | (simp; omega) | omega) _))⟩

/-- what Has answers: its errno -/
def hasE (a b r n : Int) : Int := if chkV a b = 0 then (if okId ⟨r, n⟩ = true then 0 else 3) else chkV a b
theorem okId_iff {x : Id} : okId x = true ↔ (x.r = 0 ∨ x.r = 1) ∧ 1 ≤ x.n ∧ x.n ≤ 20 := by
  simp only [okId, Bool.and_eq_true, wthn_iff]; omega
theorem has_calls (a b r n : Int) (w : World) : Calls Try.prog 14 #[.agg #[.int .i64 a, .int .i64 b], .agg #[.int .i64 r, .int .i64 n]] w
    fun x w' => x = .returned (.tuple #[.bool (decide (hasE a b r n = 0) && hasV a b r n), .int .i64 (hasE a b r n)]) ∧ Below w.heap.size w w' := by
  by_cases h1 : chkV a b = 0
  · cases h2 : okId ⟨r, n⟩
    · have H : Hid (hasE a b r n = 3) := by show _ = _; rw [hasE, if_pos h1, if_neg (by simp [h2])]
      rw [H.out]
      go_enter Try.func14, Try.ntmps14
      go_wp2_with (first | (go_at_call 19; refine (vcheck_calls _ _ _).mono ?_; rintro x w1 ⟨rfl, hb⟩; (have B := below_after (w := w) (by (repeat (first | exact Below.refl _ _ | assumption | refine Below.drew ?_ | refine below_drewN ?_ | refine Below.alloc ?_ (by first | (simp; done) | (simp; omega) | omega) _ | refine Below.setCell ?_ (by first | (simp; done) | (simp; omega) | omega) _))) hb; obtain ⟨hc, hf⟩ := bcell hb; have hz := hb.size; (try simp only [World.size_alloc] at hz); clear hb); (try have zz0 : w.heap.size < w1.heap.size := by omega); (try have zz1 : w.heap.size + 1 < w1.heap.size := by omega); (try have zz2 : w.heap.size + 1 + 1 < w1.heap.size := by omega); (try have zz3 : w.heap.size + 1 + 1 + 1 < w1.heap.size := by omega)) | (go_at_call 46; refine (id_calls _ _ _).mono ?_; rintro x w1 ⟨rfl, hb⟩; (have B := below_after (w := w) (by (repeat (first | exact Below.refl _ _ | assumption | refine Below.drew ?_ | refine below_drewN ?_ | refine Below.alloc ?_ (by first | (simp; done) | (simp; omega) | omega) _ | refine Below.setCell ?_ (by first | (simp; done) | (simp; omega) | omega) _))) hb; obtain ⟨hc, hf⟩ := bcell hb; have hz := hb.size; (try simp only [World.size_alloc] at hz); clear hb); (try have zz0 : w.heap.size < w1.heap.size := by omega); (try have zz1 : w.heap.size + 1 < w1.heap.size := by omega); (try have zz2 : w.heap.size + 1 + 1 < w1.heap.size := by omega); (try have zz3 : w.heap.size + 1 + 1 + 1 < w1.heap.size := by omega)))
      go_ret2
      exact ⟨rfl, B⟩
    · have H : Hid (hasE a b r n = 0) := by show _ = _; rw [hasE, if_pos h1, if_pos h2]
      rw [H.out]
      go_enter Try.func14, Try.ntmps14
      go_wp2_with (first | (go_at_call 19; refine (vcheck_calls _ _ _).mono ?_; rintro x w1 ⟨rfl, hb⟩; (have B := below_after (w := w) (by (repeat (first | exact Below.refl _ _ | assumption | refine Below.drew ?_ | refine below_drewN ?_ | refine Below.alloc ?_ (by first | (simp; done) | (simp; omega) | omega) _ | refine Below.setCell ?_ (by first | (simp; done) | (simp; omega) | omega) _))) hb; obtain ⟨hc, hf⟩ := bcell hb; have hz := hb.size; (try simp only [World.size_alloc] at hz); clear hb); (try have zz0 : w.heap.size < w1.heap.size := by omega); (try have zz1 : w.heap.size + 1 < w1.heap.size := by omega); (try have zz2 : w.heap.size + 1 + 1 < w1.heap.size := by omega); (try have zz3 : w.heap.size + 1 + 1 + 1 < w1.heap.size := by omega)) | (go_at_call 46; refine (id_calls _ _ _).mono ?_; rintro x w1 ⟨rfl, hb⟩; (have B := below_after (w := w) (by (repeat (first | exact Below.refl _ _ | assumption | refine Below.drew ?_ | refine below_drewN ?_ | refine Below.alloc ?_ (by first | (simp; done) | (simp; omega) | omega) _ | refine Below.setCell ?_ (by first | (simp; done) | (simp; omega) | omega) _))) hb; obtain ⟨hc, hf⟩ := bcell hb; have hz := hb.size; (try simp only [World.size_alloc] at hz); clear hb); (try have zz0 : w.heap.size < w1.heap.size := by omega); (try have zz1 : w.heap.size + 1 < w1.heap.size := by omega); (try have zz2 : w.heap.size + 1 + 1 < w1.heap.size := by omega); (try have zz3 : w.heap.size + 1 + 1 + 1 < w1.heap.size := by omega)) | (go_at_call 47; refine (holds_calls _ _ _ _ (okId_iff.1 h2).1 _).mono ?_; rintro x w1 ⟨rfl, hb⟩; (have B := below_after (w := w) (by (repeat (first | exact Below.refl _ _ | assumption | refine Below.drew ?_ | refine below_drewN ?_ | refine Below.alloc ?_ (by first | (simp; done) | (simp; omega) | omega) _ | refine Below.setCell ?_ (by first | (simp; done) | (simp; omega) | omega) _))) hb; obtain ⟨hc, hf⟩ := bcell hb; have hz := hb.size; (try simp only [World.size_alloc] at hz); clear hb); (try have zz0 : w.heap.size < w1.heap.size := by omega); (try have zz1 : w.heap.size + 1 < w1.heap.size := by omega); (try have zz2 : w.heap.size + 1 + 1 < w1.heap.size := by omega); (try have zz3 : w.heap.size + 1 + 1 + 1 < w1.heap.size := by omega)))
      go_ret2
      exact ⟨rfl, B⟩
  · have H : Hid (hasE a b r n = 3) := by
      show _ = _
      rw [hasE, if_neg h1, chkV, if_neg]
      intro h; exact h1 (by rw [chkV, if_pos h])
    rw [H.out]
    have h3 : chkV a b = 3 := by
      rw [chkV, if_neg]
      intro h; exact h1 (by rw [chkV, if_pos h])
    clear h1
    go_enter Try.func14, Try.ntmps14
    go_wp2_with (first | (go_at_call 19; refine (vcheck_calls _ _ _).mono ?_; rintro x w1 ⟨rfl, hb⟩; (have B := below_after (w := w) (by (repeat (first | exact Below.refl _ _ | assumption | refine Below.drew ?_ | refine below_drewN ?_ | refine Below.alloc ?_ (by first | (simp; done) | (simp; omega) | omega) _ | refine Below.setCell ?_ (by first | (simp; done) | (simp; omega) | omega) _))) hb; obtain ⟨hc, hf⟩ := bcell hb; have hz := hb.size; (try simp only [World.size_alloc] at hz); clear hb); (try have zz0 : w.heap.size < w1.heap.size := by omega); (try have zz1 : w.heap.size + 1 < w1.heap.size := by omega); (try have zz2 : w.heap.size + 1 + 1 < w1.heap.size := by omega); (try have zz3 : w.heap.size + 1 + 1 + 1 < w1.heap.size := by omega)) | (go_at_call 46; refine (id_calls _ _ _).mono ?_; rintro x w1 ⟨rfl, hb⟩; (have B := below_after (w := w) (by (repeat (first | exact Below.refl _ _ | assumption | refine Below.drew ?_ | refine below_drewN ?_ | refine Below.alloc ?_ (by first | (simp; done) | (simp; omega) | omega) _ | refine Below.setCell ?_ (by first | (simp; done) | (simp; omega) | omega) _))) hb; obtain ⟨hc, hf⟩ := bcell hb; have hz := hb.size; (try simp only [World.size_alloc] at hz); clear hb); (try have zz0 : w.heap.size < w1.heap.size := by omega); (try have zz1 : w.heap.size + 1 < w1.heap.size := by omega); (try have zz2 : w.heap.size + 1 + 1 < w1.heap.size := by omega); (try have zz3 : w.heap.size + 1 + 1 + 1 < w1.heap.size := by omega)))
    go_ret2
    exact ⟨rfl, B⟩

theorem chkV_cases (a b : Int) : chkV a b = 0 ∨ chkV a b = 3 := by
  rw [chkV]; split
  · exact .inl rfl
  · exact .inr rfl
/-- what is wrong with two vectors -/
def chk2 (a b c d : Int) : Int := if chkV a b = 0 then chkV c d else 3
set_option maxRecDepth 100000 in
theorem two_calls (a b c d : Int) (blk : Nat) (w : World) (hb : blk < w.heap.size) (h0 : w.cell? ⟨blk, 0, none⟩ = some (.int .i64 a)) (h1 : w.cell? ⟨blk, 1, none⟩ = some (.int .i64 b))
    (h2 : w.cell? ⟨blk, 2, none⟩ = some (.int .i64 c)) (h3 : w.cell? ⟨blk, 3, none⟩ = some (.int .i64 d)) :
    Calls Try.prog 45 #[.slice (some ⟨blk, 0, none⟩) 2 2] w fun x w' => x = .returned (.int .i64 (chk2 a b c d)) ∧ Below w.heap.size w w' := by
  have hb' : blk ≠ w.heap.size := by omega
  rcases chkV_cases a b with e1 | e1
  · rcases chkV_cases c d with e2 | e2
    · have H : Hid (chk2 a b c d = 0) := by show _ = _; rw [chk2, if_pos e1, e2]
      rw [H.out]
      go_enter Try.func45, Try.ntmps45
      go_wp2
      refine wp_loop_rounds 3 ?_
      refine rounds_step (n := 2) ?_
      go_wp2_with ((go_at_call 19; refine (vcheck_calls _ _ _).mono ?_; rintro x w1 ⟨rfl, hb⟩; (have B := below_after (w := w) (by (repeat (first | exact Below.refl _ _ | assumption | refine Below.drew ?_ | refine below_drewN ?_ | refine Below.alloc ?_ (by first | (simp; done) | (simp; omega) | omega) _ | refine Below.setCell ?_ (by first | (simp; done) | (simp; omega) | omega) _))) hb; obtain ⟨hc, hf⟩ := bcell hb; have hz := hb.size; (try simp only [World.size_alloc] at hz); clear hb); (try have zz0 : w.heap.size < w1.heap.size := by omega); (try have zz1 : w.heap.size + 1 < w1.heap.size := by omega); (try have zz2 : w.heap.size + 1 + 1 < w1.heap.size := by omega); (try have zz3 : w.heap.size + 1 + 1 + 1 < w1.heap.size := by omega)); have zz : blk < w1.heap.size := by omega)
      refine rounds_step (n := 1) ?_
      go_wp2_with ((go_at_call 19; refine (vcheck_calls _ _ _).mono ?_; rintro x w2 ⟨rfl, hb⟩; (have B := below_after (w := w) (by (repeat (first | exact Below.refl _ _ | assumption | refine Below.drew ?_ | refine below_drewN ?_ | refine Below.alloc ?_ (by first | (simp; done) | (simp; omega) | omega) _ | refine Below.setCell ?_ (by first | (simp; done) | (simp; omega) | omega) _))) hb; obtain ⟨hc, hf⟩ := bcell hb; have hz := hb.size; (try simp only [World.size_alloc] at hz); clear hb); (try have zz0 : w.heap.size < w2.heap.size := by omega); (try have zz1 : w.heap.size + 1 < w2.heap.size := by omega); (try have zz2 : w.heap.size + 1 + 1 < w2.heap.size := by omega); (try have zz3 : w.heap.size + 1 + 1 + 1 < w2.heap.size := by omega)); have zz : blk < w2.heap.size := by omega)
      refine rounds_step (n := 0) ?_
      go_wp2
      go_ret
      exact ⟨rfl, B⟩
    · have H : Hid (chk2 a b c d = 3) := by show _ = _; rw [chk2, if_pos e1, e2]
      rw [H.out]
      go_enter Try.func45, Try.ntmps45
      go_wp2
      refine wp_loop_rounds 3 ?_
      refine rounds_step (n := 2) ?_
      go_wp2_with ((go_at_call 19; refine (vcheck_calls _ _ _).mono ?_; rintro x w1 ⟨rfl, hb⟩; (have B := below_after (w := w) (by (repeat (first | exact Below.refl _ _ | assumption | refine Below.drew ?_ | refine below_drewN ?_ | refine Below.alloc ?_ (by first | (simp; done) | (simp; omega) | omega) _ | refine Below.setCell ?_ (by first | (simp; done) | (simp; omega) | omega) _))) hb; obtain ⟨hc, hf⟩ := bcell hb; have hz := hb.size; (try simp only [World.size_alloc] at hz); clear hb); (try have zz0 : w.heap.size < w1.heap.size := by omega); (try have zz1 : w.heap.size + 1 < w1.heap.size := by omega); (try have zz2 : w.heap.size + 1 + 1 < w1.heap.size := by omega); (try have zz3 : w.heap.size + 1 + 1 + 1 < w1.heap.size := by omega)); have zz : blk < w1.heap.size := by omega)
      refine rounds_step (n := 1) ?_
      go_wp2_with ((go_at_call 19; refine (vcheck_calls _ _ _).mono ?_; rintro x w2 ⟨rfl, hb⟩; (have B := below_after (w := w) (by (repeat (first | exact Below.refl _ _ | assumption | refine Below.drew ?_ | refine below_drewN ?_ | refine Below.alloc ?_ (by first | (simp; done) | (simp; omega) | omega) _ | refine Below.setCell ?_ (by first | (simp; done) | (simp; omega) | omega) _))) hb; obtain ⟨hc, hf⟩ := bcell hb; have hz := hb.size; (try simp only [World.size_alloc] at hz); clear hb); (try have zz0 : w.heap.size < w2.heap.size := by omega); (try have zz1 : w.heap.size + 1 < w2.heap.size := by omega); (try have zz2 : w.heap.size + 1 + 1 < w2.heap.size := by omega); (try have zz3 : w.heap.size + 1 + 1 + 1 < w2.heap.size := by omega)); have zz : blk < w2.heap.size := by omega)
      go_ret
      exact ⟨rfl, B⟩
  · have H : Hid (chk2 a b c d = 3) := by show _ = _; rw [chk2, if_neg (by omega)]
    rw [H.out]
    go_enter Try.func45, Try.ntmps45
    go_wp2
    refine wp_loop_rounds 3 ?_
    refine rounds_step (n := 2) ?_
    go_wp2_with ((go_at_call 19; refine (vcheck_calls _ _ _).mono ?_; rintro x w1 ⟨rfl, hb⟩; (have B := below_after (w := w) (by (repeat (first | exact Below.refl _ _ | assumption | refine Below.drew ?_ | refine below_drewN ?_ | refine Below.alloc ?_ (by first | (simp; done) | (simp; omega) | omega) _ | refine Below.setCell ?_ (by first | (simp; done) | (simp; omega) | omega) _))) hb; obtain ⟨hc, hf⟩ := bcell hb; have hz := hb.size; (try simp only [World.size_alloc] at hz); clear hb); (try have zz0 : w.heap.size < w1.heap.size := by omega); (try have zz1 : w.heap.size + 1 < w1.heap.size := by omega); (try have zz2 : w.heap.size + 1 + 1 < w1.heap.size := by omega); (try have zz3 : w.heap.size + 1 + 1 + 1 < w1.heap.size := by omega)); have zz : blk < w1.heap.size := by omega)
    go_ret
    exact ⟨rfl, B⟩

def fitsV (a b c d : Int) : Bool := decide (a ≤ c ∧ b ≤ d)
set_option maxRecDepth 100000 in
theorem fits_calls (a b c d : Int) (w : World) : Calls Try.prog 48 #[.agg #[.int .i64 a, .int .i64 b], .agg #[.int .i64 c, .int .i64 d]] w fun x w' => x = .returned (.bool (fitsV a b c d)) ∧ Below w.heap.size w w' := by
  go_enter Try.func48, Try.ntmps48
  go_wp2
  refine wp_loop_rounds 3 ?_
  refine rounds_step (n := 2) ?_
  go_wp2
  go_quiet (fail)
  go_wp2
  · go_ret
    exact ⟨ret_bool (by simp only [fitsV]; rw [eq_comm, decide_eq_false_iff_not]; omega), by (repeat (first | exact Below.refl _ _ | assumption | refine Below.drew ?_ | refine below_drewN ?_ | refine Below.alloc ?_ (by first | (simp; done) | (simp; omega) | omega) _ | refine Below.setCell ?_ (by first | (simp; done) | (simp; omega) | omega) _))⟩
  · refine rounds_step (n := 1) ?_
    go_wp2
    go_quiet (fail)
    go_wp2
    · go_ret
      exact ⟨ret_bool (by simp only [fitsV]; rw [eq_comm, decide_eq_false_iff_not]; omega), by (repeat (first | exact Below.refl _ _ | assumption | refine Below.drew ?_ | refine below_drewN ?_ | refine Below.alloc ?_ (by first | (simp; done) | (simp; omega) | omega) _ | refine Below.setCell ?_ (by first | (simp; done) | (simp; omega) | omega) _))⟩
    · refine rounds_step (n := 0) ?_
      go_wp2
      go_ret
      exact ⟨ret_bool (by simp only [fitsV]; rw [eq_comm, decide_eq_true_iff]; omega), by (repeat (first | exact Below.refl _ _ | assumption | refine Below.drew ?_ | refine below_drewN ?_ | refine Below.alloc ?_ (by first | (simp; done) | (simp; omega) | omega) _ | refine Below.setCell ?_ (by first | (simp; done) | (simp; omega) | omega) _))⟩

theorem within2_calls (a b c d : Int) (w : World) : Calls Try.prog 15 #[.agg #[.int .i64 a, .int .i64 b], .agg #[.int .i64 c, .int .i64 d]] w
    fun x w' => x = .returned (.tuple #[.bool (decide (chk2 a b c d = 0) && fitsV a b c d), .int .i64 (chk2 a b c d)]) ∧ Below w.heap.size w w' := by
  have hc : chk2 a b c d = 0 ∨ chk2 a b c d = 3 := by
    rw [chk2]; split
    · exact chkV_cases c d
    · exact .inr rfl
  rcases hc with e | e
  · go_enter Try.func15, Try.ntmps15
    go_wp2_with (first | (go_at_call 45; refine (two_calls a b c d _ _ (by simp) (by simp [go_sem]) (by simp [go_sem]) (by simp [go_sem]) (by simp [go_sem])).mono ?_; rintro x w1 ⟨rfl, hb⟩; (have B := below_after (w := w) (by (repeat (first | exact Below.refl _ _ | assumption | refine Below.drew ?_ | refine below_drewN ?_ | refine Below.alloc ?_ (by first | (simp; done) | (simp; omega) | omega) _ | refine Below.setCell ?_ (by first | (simp; done) | (simp; omega) | omega) _))) hb; obtain ⟨hc, hf⟩ := bcell hb; have hz := hb.size; (try simp only [World.size_alloc] at hz); clear hb); (try have zz0 : w.heap.size < w1.heap.size := by omega); (try have zz1 : w.heap.size + 1 < w1.heap.size := by omega); (try have zz2 : w.heap.size + 1 + 1 < w1.heap.size := by omega); (try have zz3 : w.heap.size + 1 + 1 + 1 < w1.heap.size := by omega)) | (go_at_call 48; refine (fits_calls _ _ _ _ _).mono ?_; rintro x w1 ⟨rfl, hb⟩; (have B := below_after (w := w) (by (repeat (first | exact Below.refl _ _ | assumption | refine Below.drew ?_ | refine below_drewN ?_ | refine Below.alloc ?_ (by first | (simp; done) | (simp; omega) | omega) _ | refine Below.setCell ?_ (by first | (simp; done) | (simp; omega) | omega) _))) hb; obtain ⟨hc, hf⟩ := bcell hb; have hz := hb.size; (try simp only [World.size_alloc] at hz); clear hb); (try have zz0 : w.heap.size < w1.heap.size := by omega); (try have zz1 : w.heap.size + 1 < w1.heap.size := by omega); (try have zz2 : w.heap.size + 1 + 1 < w1.heap.size := by omega); (try have zz3 : w.heap.size + 1 + 1 + 1 < w1.heap.size := by omega)))
    go_ret2
    exact ⟨by simp [e], B⟩
  · go_enter Try.func15, Try.ntmps15
    go_wp2_with (first | (go_at_call 45; refine (two_calls a b c d _ _ (by simp) (by simp [go_sem]) (by simp [go_sem]) (by simp [go_sem]) (by simp [go_sem])).mono ?_; rintro x w1 ⟨rfl, hb⟩; (have B := below_after (w := w) (by (repeat (first | exact Below.refl _ _ | assumption | refine Below.drew ?_ | refine below_drewN ?_ | refine Below.alloc ?_ (by first | (simp; done) | (simp; omega) | omega) _ | refine Below.setCell ?_ (by first | (simp; done) | (simp; omega) | omega) _))) hb; obtain ⟨hc, hf⟩ := bcell hb; have hz := hb.size; (try simp only [World.size_alloc] at hz); clear hb); (try have zz0 : w.heap.size < w1.heap.size := by omega); (try have zz1 : w.heap.size + 1 < w1.heap.size := by omega); (try have zz2 : w.heap.size + 1 + 1 < w1.heap.size := by omega); (try have zz3 : w.heap.size + 1 + 1 + 1 < w1.heap.size := by omega)) | (go_at_call 48; refine (fits_calls _ _ _ _ _).mono ?_; rintro x w1 ⟨rfl, hb⟩; (have B := below_after (w := w) (by (repeat (first | exact Below.refl _ _ | assumption | refine Below.drew ?_ | refine below_drewN ?_ | refine Below.alloc ?_ (by first | (simp; done) | (simp; omega) | omega) _ | refine Below.setCell ?_ (by first | (simp; done) | (simp; omega) | omega) _))) hb; obtain ⟨hc, hf⟩ := bcell hb; have hz := hb.size; (try simp only [World.size_alloc] at hz); clear hb); (try have zz0 : w.heap.size < w1.heap.size := by omega); (try have zz1 : w.heap.size + 1 < w1.heap.size := by omega); (try have zz2 : w.heap.size + 1 + 1 < w1.heap.size := by omega); (try have zz3 : w.heap.size + 1 + 1 + 1 < w1.heap.size := by omega)))
    go_ret2
    exact ⟨by simp [e], B⟩

def maxI (a b : Int) : Int := if a < b then b else a
def joinE (e a b : Int) : Int := if e = 0 then maxI a b else 0
set_option maxHeartbeats 2000000 in
set_option maxRecDepth 100000 in
theorem join_calls (a b c d : Int) (w : World) : Calls Try.prog 13 #[.agg #[.int .i64 a, .int .i64 b], .agg #[.int .i64 c, .int .i64 d]] w
    fun x w' => x = .returned (.tuple #[.agg #[.int .i64 (joinE (chk2 a b c d) a c), .int .i64 (joinE (chk2 a b c d) b d)], .int .i64 (chk2 a b c d)]) ∧ Below w.heap.size w w' := by
  have hc : chk2 a b c d = 0 ∨ chk2 a b c d = 3 := by
    rw [chk2]; split
    · exact chkV_cases c d
    · exact .inr rfl
  rcases hc with e | e
  · have H : Hid (joinE (chk2 a b c d) a c = maxI a c ∧ joinE (chk2 a b c d) b d = maxI b d) := by show _ ∧ _; simp [joinE, e]
    go_enter Try.func13, Try.ntmps13
    go_wp2_with (first | (go_at_call 45; refine (two_calls a b c d _ _ (by simp) (by simp [go_sem]) (by simp [go_sem]) (by simp [go_sem]) (by simp [go_sem])).mono ?_; rintro x w1 ⟨rfl, hb⟩; (have B := below_after (w := w) (by (repeat (first | exact Below.refl _ _ | assumption | refine Below.drew ?_ | refine below_drewN ?_ | refine Below.alloc ?_ (by first | (simp; done) | (simp; omega) | omega) _ | refine Below.setCell ?_ (by first | (simp; done) | (simp; omega) | omega) _))) hb; obtain ⟨hc, hf⟩ := bcell hb; have hz := hb.size; (try simp only [World.size_alloc] at hz); clear hb); (try have zz0 : w.heap.size < w1.heap.size := by omega); (try have zz1 : w.heap.size + 1 < w1.heap.size := by omega); (try have zz2 : w.heap.size + 1 + 1 < w1.heap.size := by omega); (try have zz3 : w.heap.size + 1 + 1 + 1 < w1.heap.size := by omega)))
    have k0 : w1.cell? ⟨w.heap.size, 0, none⟩ = some (.int .i64 a) := by simp [go_sem, hc]
    have k1 : w1.cell? ⟨w.heap.size, 1, none⟩ = some (.int .i64 b) := by simp [go_sem, hc]
    have k2 : w1.cell? ⟨w.heap.size + 1 + 1, 0, none⟩ = some (.int .i64 0) := by simp [go_sem, hc]
    have k3 : w1.cell? ⟨w.heap.size + 1 + 1, 1, none⟩ = some (.int .i64 0) := by simp [go_sem, hc]
    refine wp_loop_rounds 3 ?_
    refine rounds_step (n := 2) ?_
    go_wp2
    go_region
    all_goals go_wp2
    all_goals refine rounds_step (n := 1) ?_
    all_goals go_wp2
    all_goals go_region
    all_goals go_wp2
    all_goals refine rounds_step (n := 0) ?_
    all_goals go_wp2
    all_goals
      have q1 : (a < c ∧ maxI a c = c) ∨ (c ≤ a ∧ maxI a c = a) := by unfold maxI; omega
      have q2 : (b < d ∧ maxI b d = d) ∨ (d ≤ b ∧ maxI b d = b) := by unfold maxI; omega
      rcases q1 with ⟨q1, m1⟩ | ⟨q1, m1⟩ <;> rcases q2 with ⟨q2, m2⟩ | ⟨q2, m2⟩ <;>
      first
        | (exfalso; omega)
        | exact bodyPost_ret (v := .tuple #[.agg #[.int .i64 (maxI a c), .int .i64 (maxI b d)], .int .i64 0]) (by simp [results, Try.results13, go_sem, hc, m1, m2]) rfl ⟨by rw [H.out.1, H.out.2, e], by (repeat (first | exact Below.refl _ _ | assumption | refine Below.drew ?_ | refine below_drewN ?_ | refine Below.alloc ?_ (by first | (simp; done) | (simp; omega) | omega) _ | refine Below.setCell ?_ (by first | (simp; done) | (simp; omega) | omega) _))⟩
  · go_enter Try.func13, Try.ntmps13
    go_wp2_with (first | (go_at_call 45; refine (two_calls a b c d _ _ (by simp) (by simp [go_sem]) (by simp [go_sem]) (by simp [go_sem]) (by simp [go_sem])).mono ?_; rintro x w1 ⟨rfl, hb⟩; (have B := below_after (w := w) (by (repeat (first | exact Below.refl _ _ | assumption | refine Below.drew ?_ | refine below_drewN ?_ | refine Below.alloc ?_ (by first | (simp; done) | (simp; omega) | omega) _ | refine Below.setCell ?_ (by first | (simp; done) | (simp; omega) | omega) _))) hb; obtain ⟨hc, hf⟩ := bcell hb; have hz := hb.size; (try simp only [World.size_alloc] at hz); clear hb); (try have zz0 : w.heap.size < w1.heap.size := by omega); (try have zz1 : w.heap.size + 1 < w1.heap.size := by omega); (try have zz2 : w.heap.size + 1 + 1 < w1.heap.size := by omega); (try have zz3 : w.heap.size + 1 + 1 + 1 < w1.heap.size := by omega)))
    exact bodyPost_ret (v := .tuple #[.agg #[.int .i64 0, .int .i64 0], .int .i64 3]) (by simp [results, Try.results13, go_sem, hc]) rfl ⟨by simp [e, joinE], by (repeat (first | exact Below.refl _ _ | assumption | refine Below.drew ?_ | refine below_drewN ?_ | refine Below.alloc ?_ (by first | (simp; done) | (simp; omega) | omega) _ | refine Below.setCell ?_ (by first | (simp; done) | (simp; omega) | omega) _))⟩

end Go.Proofs.Ythhkafjkhogbmaa
