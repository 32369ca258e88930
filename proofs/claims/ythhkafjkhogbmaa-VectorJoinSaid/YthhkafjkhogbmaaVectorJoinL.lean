/- The walk through VectorJoin. -/
import Derived.Test.YthhkafjkhogbmaaVectorL
namespace Go.Proofs.Ythhkafjkhogbmaa
open Go.RowKit

theorem chkV_ok_iff {a b : Int} : chkV a b = 0 ↔ (0 ≤ a ∧ a ≤ 20 ∧ 0 ≤ b ∧ b ≤ 20) := by
  constructor
  · intro h
    apply Decidable.byContradiction
    intro h2
    have := chkV_bad h2
    omega
  · rintro ⟨h1, h2, h3, h4⟩
    exact chkV_ok h1 h2 h3 h4
theorem maxI_le {a b c : Int} : maxI a b ≤ c ↔ a ≤ c ∧ b ≤ c := by unfold maxI; split <;> omega
theorem le_maxI {a b c : Int} : c ≤ maxI a b ↔ c ≤ a ∨ c ≤ b := by unfold maxI; split <;> omega
theorem maxI_ok {a b c d : Int} (h1 : chkV a b = 0) (h2 : chkV c d = 0) : chkV (maxI a c) (maxI b d) = 0 := by
  rw [chkV_ok_iff] at *
  rw [maxI_le, maxI_le, le_maxI, le_maxI]
  omega
theorem maxI_comm (a b : Int) : maxI b a = maxI a b := by unfold maxI; split <;> split <;> omega
theorem maxI_self (a : Int) : maxI a a = a := by simp [maxI]
theorem fits_max1 (a b c d : Int) : fitsV a b (maxI a c) (maxI b d) = true := by
  simp [fitsV, le_maxI]
theorem fits_max2 (a b c d : Int) : fitsV c d (maxI a c) (maxI b d) = true := by
  simp [fitsV, le_maxI]
theorem fits_join (a b c d e f : Int) : fitsV (maxI a c) (maxI b d) e f = (fitsV a b e f && fitsV c d e f) := by
  rw [Bool.eq_iff_iff]
  simp only [fitsV, maxI_le, Bool.and_eq_true, decide_eq_true_iff]
  omega
theorem has_join (a b c d r n : Int) : hasV (maxI a c) (maxI b d) r n = (hasV a b r n || hasV c d r n) := by
  rw [Bool.eq_iff_iff]
  by_cases h : r = 0
  · simp only [hasV, if_pos h, le_maxI, Bool.or_eq_true, decide_eq_true_iff]
  · simp only [hasV, if_neg h, le_maxI, Bool.or_eq_true, decide_eq_true_iff]
theorem chk2_iff {a b c d : Int} : chk2 a b c d = 0 ↔ chkV a b = 0 ∧ chkV c d = 0 := by
  rcases chkV_cases a b with h | h
  · rw [chk2, if_pos h]; simp [h]
  · rw [chk2, if_neg (by omega)]; simp [h]
theorem chk2_cases (a b c d : Int) : chk2 a b c d = 0 ∨ chk2 a b c d = 3 := by
  rw [chk2]; split
  · exact chkV_cases c d
  · exact .inr rfl

set_option maxHeartbeats 4000000 in
set_option maxRecDepth 100000 in
theorem vectorJoin_calls (a b c d e f r n : Int) (w : World) :
    Calls Try.prog 4 #[.agg #[.int .i64 a, .int .i64 b], .agg #[.int .i64 c, .int .i64 d], .agg #[.int .i64 e, .int .i64 f], .agg #[.int .i64 r, .int .i64 n]] w fun x w' => x = .returned (.bool true) ∧ Below w.heap.size w w' := by
  have g0 : ∀ x y, joinE 0 x y = maxI x y := fun _ _ => rfl
  have g3 : ∀ x y, joinE 3 x y = 0 := fun _ _ => rfl
  have q1 := @eqgV
  have q2 := @eqlV
  have q3 := @neqV
  by_cases h1 : chk2 a b c d = 0
  · have h2 : chk2 c d a b = 0 := by rw [chk2_iff] at *; exact ⟨h1.2, h1.1⟩
    obtain ⟨e1, e2⟩ := chk2_iff.1 h1
    have e3 := maxI_ok e1 e2
    have e4 : chk2 a b a b = 0 := chk2_iff.2 ⟨e1, e1⟩
    have e5 : chk2 a b (maxI a c) (maxI b d) = 0 := chk2_iff.2 ⟨e1, e3⟩
    have e6 : chk2 c d (maxI a c) (maxI b d) = 0 := chk2_iff.2 ⟨e2, e3⟩
    have e7 := fits_max1 a b c d
    have e8 := fits_max2 a b c d
    have m1 := maxI_comm a c
    have m2 := maxI_comm b d
    have m3 := maxI_self
    have e9 := fits_join a b c d e f
    have e10 := has_join a b c d r n
    have e11 : chk2 a b e f = chkV e f := chk2_ok e1
    have e12 : chk2 c d e f = chkV e f := chk2_ok e2
    have e13 : chk2 (maxI a c) (maxI b d) e f = chkV e f := chk2_ok e3
    have e14 := hasE_ok (r := r) (n := n) e1
    have e15 := hasE_ok (r := r) (n := n) e2
    have e16 := hasE_ok (r := r) (n := n) e3
    clear e1 e2 e3
    go_enter Try.func4, Try.ntmps4
    (go_wp2_with fail; refine (vectorBegun_calls _).mono ?_; rintro x w0 ⟨rfl, hb⟩; (have B := below_after (w := w) (by (repeat (first | exact Below.refl _ _ | assumption | refine Below.drew ?_ | refine below_drewN ?_ | refine Below.alloc ?_ (by first | (simp; done) | (simp; omega) | omega) _ | refine Below.setCell ?_ (by first | (simp; done) | (simp; omega) | omega) _))) hb; obtain ⟨hc, hf⟩ := bcell hb; have hz := hb.size; (try simp only [World.size_alloc] at hz); clear hb); (try have zz0 : w.heap.size < w0.heap.size := by omega); (try have zz1 : w.heap.size + 1 < w0.heap.size := by omega); (try have zz2 : w.heap.size + 1 + 1 < w0.heap.size := by omega); (try have zz3 : w.heap.size + 1 + 1 + 1 < w0.heap.size := by omega))
    (go_wp2_with fail; refine (join_calls _ _ _ _ _).mono ?_; rintro x w1 ⟨rfl, hb⟩; (have B := below_after (w := w) (by (repeat (first | exact Below.refl _ _ | assumption | refine Below.drew ?_ | refine below_drewN ?_ | refine Below.alloc ?_ (by first | (simp; done) | (simp; omega) | omega) _ | refine Below.setCell ?_ (by first | (simp; done) | (simp; omega) | omega) _))) hb; obtain ⟨hc, hf⟩ := bcell hb; have hz := hb.size; (try simp only [World.size_alloc] at hz); clear hb); (try have zz0 : w.heap.size < w1.heap.size := by omega); (try have zz1 : w.heap.size + 1 < w1.heap.size := by omega); (try have zz2 : w.heap.size + 1 + 1 < w1.heap.size := by omega); (try have zz3 : w.heap.size + 1 + 1 + 1 < w1.heap.size := by omega))
    (go_wp2_with fail; refine (join_calls _ _ _ _ _).mono ?_; rintro x w2 ⟨rfl, hb⟩; (have B := below_after (w := w) (by (repeat (first | exact Below.refl _ _ | assumption | refine Below.drew ?_ | refine below_drewN ?_ | refine Below.alloc ?_ (by first | (simp; done) | (simp; omega) | omega) _ | refine Below.setCell ?_ (by first | (simp; done) | (simp; omega) | omega) _))) hb; obtain ⟨hc, hf⟩ := bcell hb; have hz := hb.size; (try simp only [World.size_alloc] at hz); clear hb); (try have zz0 : w.heap.size < w2.heap.size := by omega); (try have zz1 : w.heap.size + 1 < w2.heap.size := by omega); (try have zz2 : w.heap.size + 1 + 1 < w2.heap.size := by omega); (try have zz3 : w.heap.size + 1 + 1 + 1 < w2.heap.size := by omega); (try have yyw1 : w1.heap.size < w2.heap.size := by omega))
    (go_wp2_with fail; refine (join_calls _ _ _ _ _).mono ?_; rintro x w3 ⟨rfl, hb⟩; (have B := below_after (w := w) (by (repeat (first | exact Below.refl _ _ | assumption | refine Below.drew ?_ | refine below_drewN ?_ | refine Below.alloc ?_ (by first | (simp; done) | (simp; omega) | omega) _ | refine Below.setCell ?_ (by first | (simp; done) | (simp; omega) | omega) _))) hb; obtain ⟨hc, hf⟩ := bcell hb; have hz := hb.size; (try simp only [World.size_alloc] at hz); clear hb); (try have zz0 : w.heap.size < w3.heap.size := by omega); (try have zz1 : w.heap.size + 1 < w3.heap.size := by omega); (try have zz2 : w.heap.size + 1 + 1 < w3.heap.size := by omega); (try have zz3 : w.heap.size + 1 + 1 + 1 < w3.heap.size := by omega); (try have yyw1 : w1.heap.size < w3.heap.size := by omega); (try have yyw2 : w2.heap.size < w3.heap.size := by omega))
    (go_wp2_with fail; refine (within2_calls _ _ _ _ _).mono ?_; rintro x w4 ⟨rfl, hb⟩; (have B := below_after (w := w) (by (repeat (first | exact Below.refl _ _ | assumption | refine Below.drew ?_ | refine below_drewN ?_ | refine Below.alloc ?_ (by first | (simp; done) | (simp; omega) | omega) _ | refine Below.setCell ?_ (by first | (simp; done) | (simp; omega) | omega) _))) hb; obtain ⟨hc, hf⟩ := bcell hb; have hz := hb.size; (try simp only [World.size_alloc] at hz); clear hb); (try have zz0 : w.heap.size < w4.heap.size := by omega); (try have zz1 : w.heap.size + 1 < w4.heap.size := by omega); (try have zz2 : w.heap.size + 1 + 1 < w4.heap.size := by omega); (try have zz3 : w.heap.size + 1 + 1 + 1 < w4.heap.size := by omega); (try have yyw1 : w1.heap.size < w4.heap.size := by omega); (try have yyw2 : w2.heap.size < w4.heap.size := by omega); (try have yyw3 : w3.heap.size < w4.heap.size := by omega))
    (go_wp2_with fail; refine (within2_calls _ _ _ _ _).mono ?_; rintro x w5 ⟨rfl, hb⟩; (have B := below_after (w := w) (by (repeat (first | exact Below.refl _ _ | assumption | refine Below.drew ?_ | refine below_drewN ?_ | refine Below.alloc ?_ (by first | (simp; done) | (simp; omega) | omega) _ | refine Below.setCell ?_ (by first | (simp; done) | (simp; omega) | omega) _))) hb; obtain ⟨hc, hf⟩ := bcell hb; have hz := hb.size; (try simp only [World.size_alloc] at hz); clear hb); (try have zz0 : w.heap.size < w5.heap.size := by omega); (try have zz1 : w.heap.size + 1 < w5.heap.size := by omega); (try have zz2 : w.heap.size + 1 + 1 < w5.heap.size := by omega); (try have zz3 : w.heap.size + 1 + 1 + 1 < w5.heap.size := by omega); (try have yyw1 : w1.heap.size < w5.heap.size := by omega); (try have yyw2 : w2.heap.size < w5.heap.size := by omega); (try have yyw3 : w3.heap.size < w5.heap.size := by omega))
    (go_wp2_with fail; refine (within2_calls _ _ _ _ _).mono ?_; rintro x w6 ⟨rfl, hb⟩; (have B := below_after (w := w) (by (repeat (first | exact Below.refl _ _ | assumption | refine Below.drew ?_ | refine below_drewN ?_ | refine Below.alloc ?_ (by first | (simp; done) | (simp; omega) | omega) _ | refine Below.setCell ?_ (by first | (simp; done) | (simp; omega) | omega) _))) hb; obtain ⟨hc, hf⟩ := bcell hb; have hz := hb.size; (try simp only [World.size_alloc] at hz); clear hb); (try have zz0 : w.heap.size < w6.heap.size := by omega); (try have zz1 : w.heap.size + 1 < w6.heap.size := by omega); (try have zz2 : w.heap.size + 1 + 1 < w6.heap.size := by omega); (try have zz3 : w.heap.size + 1 + 1 + 1 < w6.heap.size := by omega); (try have yyw1 : w1.heap.size < w6.heap.size := by omega); (try have yyw2 : w2.heap.size < w6.heap.size := by omega); (try have yyw3 : w3.heap.size < w6.heap.size := by omega))
    (go_wp2_with fail; refine (within2_calls _ _ _ _ _).mono ?_; rintro x w7 ⟨rfl, hb⟩; (have B := below_after (w := w) (by (repeat (first | exact Below.refl _ _ | assumption | refine Below.drew ?_ | refine below_drewN ?_ | refine Below.alloc ?_ (by first | (simp; done) | (simp; omega) | omega) _ | refine Below.setCell ?_ (by first | (simp; done) | (simp; omega) | omega) _))) hb; obtain ⟨hc, hf⟩ := bcell hb; have hz := hb.size; (try simp only [World.size_alloc] at hz); clear hb); (try have zz0 : w.heap.size < w7.heap.size := by omega); (try have zz1 : w.heap.size + 1 < w7.heap.size := by omega); (try have zz2 : w.heap.size + 1 + 1 < w7.heap.size := by omega); (try have zz3 : w.heap.size + 1 + 1 + 1 < w7.heap.size := by omega); (try have yyw1 : w1.heap.size < w7.heap.size := by omega); (try have yyw2 : w2.heap.size < w7.heap.size := by omega); (try have yyw3 : w3.heap.size < w7.heap.size := by omega))
    (go_wp2_with fail; refine (within2_calls _ _ _ _ _).mono ?_; rintro x w8 ⟨rfl, hb⟩; (have B := below_after (w := w) (by (repeat (first | exact Below.refl _ _ | assumption | refine Below.drew ?_ | refine below_drewN ?_ | refine Below.alloc ?_ (by first | (simp; done) | (simp; omega) | omega) _ | refine Below.setCell ?_ (by first | (simp; done) | (simp; omega) | omega) _))) hb; obtain ⟨hc, hf⟩ := bcell hb; have hz := hb.size; (try simp only [World.size_alloc] at hz); clear hb); (try have zz0 : w.heap.size < w8.heap.size := by omega); (try have zz1 : w.heap.size + 1 < w8.heap.size := by omega); (try have zz2 : w.heap.size + 1 + 1 < w8.heap.size := by omega); (try have zz3 : w.heap.size + 1 + 1 + 1 < w8.heap.size := by omega); (try have yyw1 : w1.heap.size < w8.heap.size := by omega); (try have yyw2 : w2.heap.size < w8.heap.size := by omega); (try have yyw3 : w3.heap.size < w8.heap.size := by omega))
    go_upto_region 15 with fail
    go_cut [15, 16, 17, 18, 19, 20, 133] (fun _ _ _ _ _ _ s wx => s = .bool false ∧ wx = w8)
    case first =>
      clear e14 e15 e16 e10
      rcases chkV_cases e f with u | u
      · cases u1 : fitsV a b e f <;> cases u2 : fitsV c d e f
        all_goals (go_wp2_with fail; go_meet; case rel => exact ⟨rfl, rfl⟩)
      · go_wp2_with fail
        go_meet
        case rel => exact ⟨rfl, rfl⟩
    case rest =>
      obtain ⟨rfl, hw8⟩ := hcut
      subst hw8
      clear e11 e12 e13 e9 e7 e8
      have hx : (hasE a b r n = 0 ∧ hasE c d r n = 0 ∧ hasE (maxI a c) (maxI b d) r n = 0) ∨ (hasE a b r n = 3 ∧ hasE c d r n = 3 ∧ hasE (maxI a c) (maxI b d) r n = 3) := by
        rw [e14, e15, e16]
        split
        · exact .inl ⟨rfl, rfl, rfl⟩
        · exact .inr ⟨rfl, rfl, rfl⟩
      clear e14 e15 e16
      rcases hx with ⟨x1, x2, x3⟩ | ⟨x1, x2, x3⟩
      · cases u1 : hasV a b r n <;> cases u2 : hasV c d r n
        all_goals
          (go_wp2_with fail; refine (has_calls _ _ _ _ _).mono ?_; rintro x w4 ⟨rfl, hb⟩; (have B := below_after (w := w) (by (repeat (first | exact Below.refl _ _ | assumption | refine Below.drew ?_ | refine below_drewN ?_ | refine Below.alloc ?_ (by first | (simp; done) | (simp; omega) | omega) _ | refine Below.setCell ?_ (by first | (simp; done) | (simp; omega) | omega) _))) hb; obtain ⟨hc, hf⟩ := bcell hb; have hz := hb.size; (try simp only [World.size_alloc] at hz); clear hb); (try have zz0 : w.heap.size < w4.heap.size := by omega); (try have zz1 : w.heap.size + 1 < w4.heap.size := by omega); (try have zz2 : w.heap.size + 1 + 1 < w4.heap.size := by omega); (try have zz3 : w.heap.size + 1 + 1 + 1 < w4.heap.size := by omega); (try have yyw1 : w1.heap.size < w4.heap.size := by omega); (try have yyw2 : w2.heap.size < w4.heap.size := by omega); (try have yyw3 : w3.heap.size < w4.heap.size := by omega))
          (go_wp2_with fail; refine (has_calls _ _ _ _ _).mono ?_; rintro x w5 ⟨rfl, hb⟩; (have B := below_after (w := w) (by (repeat (first | exact Below.refl _ _ | assumption | refine Below.drew ?_ | refine below_drewN ?_ | refine Below.alloc ?_ (by first | (simp; done) | (simp; omega) | omega) _ | refine Below.setCell ?_ (by first | (simp; done) | (simp; omega) | omega) _))) hb; obtain ⟨hc, hf⟩ := bcell hb; have hz := hb.size; (try simp only [World.size_alloc] at hz); clear hb); (try have zz0 : w.heap.size < w5.heap.size := by omega); (try have zz1 : w.heap.size + 1 < w5.heap.size := by omega); (try have zz2 : w.heap.size + 1 + 1 < w5.heap.size := by omega); (try have zz3 : w.heap.size + 1 + 1 + 1 < w5.heap.size := by omega); (try have yyw1 : w1.heap.size < w5.heap.size := by omega); (try have yyw2 : w2.heap.size < w5.heap.size := by omega); (try have yyw3 : w3.heap.size < w5.heap.size := by omega))
          (go_wp2_with fail; refine (has_calls _ _ _ _ _).mono ?_; rintro x w6 ⟨rfl, hb⟩; (have B := below_after (w := w) (by (repeat (first | exact Below.refl _ _ | assumption | refine Below.drew ?_ | refine below_drewN ?_ | refine Below.alloc ?_ (by first | (simp; done) | (simp; omega) | omega) _ | refine Below.setCell ?_ (by first | (simp; done) | (simp; omega) | omega) _))) hb; obtain ⟨hc, hf⟩ := bcell hb; have hz := hb.size; (try simp only [World.size_alloc] at hz); clear hb); (try have zz0 : w.heap.size < w6.heap.size := by omega); (try have zz1 : w.heap.size + 1 < w6.heap.size := by omega); (try have zz2 : w.heap.size + 1 + 1 < w6.heap.size := by omega); (try have zz3 : w.heap.size + 1 + 1 + 1 < w6.heap.size := by omega); (try have yyw1 : w1.heap.size < w6.heap.size := by omega); (try have yyw2 : w2.heap.size < w6.heap.size := by omega); (try have yyw3 : w3.heap.size < w6.heap.size := by omega))
          go_wp2
          go_ret
          exact ⟨rfl, B⟩
      · (go_wp2_with fail; refine (has_calls _ _ _ _ _).mono ?_; rintro x w4 ⟨rfl, hb⟩; (have B := below_after (w := w) (by (repeat (first | exact Below.refl _ _ | assumption | refine Below.drew ?_ | refine below_drewN ?_ | refine Below.alloc ?_ (by first | (simp; done) | (simp; omega) | omega) _ | refine Below.setCell ?_ (by first | (simp; done) | (simp; omega) | omega) _))) hb; obtain ⟨hc, hf⟩ := bcell hb; have hz := hb.size; (try simp only [World.size_alloc] at hz); clear hb); (try have zz0 : w.heap.size < w4.heap.size := by omega); (try have zz1 : w.heap.size + 1 < w4.heap.size := by omega); (try have zz2 : w.heap.size + 1 + 1 < w4.heap.size := by omega); (try have zz3 : w.heap.size + 1 + 1 + 1 < w4.heap.size := by omega); (try have yyw1 : w1.heap.size < w4.heap.size := by omega); (try have yyw2 : w2.heap.size < w4.heap.size := by omega); (try have yyw3 : w3.heap.size < w4.heap.size := by omega))
        (go_wp2_with fail; refine (has_calls _ _ _ _ _).mono ?_; rintro x w5 ⟨rfl, hb⟩; (have B := below_after (w := w) (by (repeat (first | exact Below.refl _ _ | assumption | refine Below.drew ?_ | refine below_drewN ?_ | refine Below.alloc ?_ (by first | (simp; done) | (simp; omega) | omega) _ | refine Below.setCell ?_ (by first | (simp; done) | (simp; omega) | omega) _))) hb; obtain ⟨hc, hf⟩ := bcell hb; have hz := hb.size; (try simp only [World.size_alloc] at hz); clear hb); (try have zz0 : w.heap.size < w5.heap.size := by omega); (try have zz1 : w.heap.size + 1 < w5.heap.size := by omega); (try have zz2 : w.heap.size + 1 + 1 < w5.heap.size := by omega); (try have zz3 : w.heap.size + 1 + 1 + 1 < w5.heap.size := by omega); (try have yyw1 : w1.heap.size < w5.heap.size := by omega); (try have yyw2 : w2.heap.size < w5.heap.size := by omega); (try have yyw3 : w3.heap.size < w5.heap.size := by omega))
        (go_wp2_with fail; refine (has_calls _ _ _ _ _).mono ?_; rintro x w6 ⟨rfl, hb⟩; (have B := below_after (w := w) (by (repeat (first | exact Below.refl _ _ | assumption | refine Below.drew ?_ | refine below_drewN ?_ | refine Below.alloc ?_ (by first | (simp; done) | (simp; omega) | omega) _ | refine Below.setCell ?_ (by first | (simp; done) | (simp; omega) | omega) _))) hb; obtain ⟨hc, hf⟩ := bcell hb; have hz := hb.size; (try simp only [World.size_alloc] at hz); clear hb); (try have zz0 : w.heap.size < w6.heap.size := by omega); (try have zz1 : w.heap.size + 1 < w6.heap.size := by omega); (try have zz2 : w.heap.size + 1 + 1 < w6.heap.size := by omega); (try have zz3 : w.heap.size + 1 + 1 + 1 < w6.heap.size := by omega); (try have yyw1 : w1.heap.size < w6.heap.size := by omega); (try have yyw2 : w2.heap.size < w6.heap.size := by omega); (try have yyw3 : w3.heap.size < w6.heap.size := by omega))
        go_wp2
        go_ret
        exact ⟨rfl, B⟩
  · have h3 : chk2 a b c d = 3 := by have := chk2_cases a b c d; omega
    have h4 : chk2 c d a b = 3 := by
      have := chk2_cases c d a b
      have : chk2 c d a b ≠ 0 := by rw [ne_eq, chk2_iff]; rw [chk2_iff] at h1; exact fun h => h1 ⟨h.2, h.1⟩
      omega
    clear h1
    go_enter Try.func4, Try.ntmps4
    (go_wp2_with fail; refine (vectorBegun_calls _).mono ?_; rintro x w0 ⟨rfl, hb⟩; (have B := below_after (w := w) (by (repeat (first | exact Below.refl _ _ | assumption | refine Below.drew ?_ | refine below_drewN ?_ | refine Below.alloc ?_ (by first | (simp; done) | (simp; omega) | omega) _ | refine Below.setCell ?_ (by first | (simp; done) | (simp; omega) | omega) _))) hb; obtain ⟨hc, hf⟩ := bcell hb; have hz := hb.size; (try simp only [World.size_alloc] at hz); clear hb); (try have zz0 : w.heap.size < w0.heap.size := by omega); (try have zz1 : w.heap.size + 1 < w0.heap.size := by omega); (try have zz2 : w.heap.size + 1 + 1 < w0.heap.size := by omega); (try have zz3 : w.heap.size + 1 + 1 + 1 < w0.heap.size := by omega))
    (go_wp2_with fail; refine (join_calls _ _ _ _ _).mono ?_; rintro x w1 ⟨rfl, hb⟩; (have B := below_after (w := w) (by (repeat (first | exact Below.refl _ _ | assumption | refine Below.drew ?_ | refine below_drewN ?_ | refine Below.alloc ?_ (by first | (simp; done) | (simp; omega) | omega) _ | refine Below.setCell ?_ (by first | (simp; done) | (simp; omega) | omega) _))) hb; obtain ⟨hc, hf⟩ := bcell hb; have hz := hb.size; (try simp only [World.size_alloc] at hz); clear hb); (try have zz0 : w.heap.size < w1.heap.size := by omega); (try have zz1 : w.heap.size + 1 < w1.heap.size := by omega); (try have zz2 : w.heap.size + 1 + 1 < w1.heap.size := by omega); (try have zz3 : w.heap.size + 1 + 1 + 1 < w1.heap.size := by omega))
    (go_wp2_with fail; refine (join_calls _ _ _ _ _).mono ?_; rintro x w2 ⟨rfl, hb⟩; (have B := below_after (w := w) (by (repeat (first | exact Below.refl _ _ | assumption | refine Below.drew ?_ | refine below_drewN ?_ | refine Below.alloc ?_ (by first | (simp; done) | (simp; omega) | omega) _ | refine Below.setCell ?_ (by first | (simp; done) | (simp; omega) | omega) _))) hb; obtain ⟨hc, hf⟩ := bcell hb; have hz := hb.size; (try simp only [World.size_alloc] at hz); clear hb); (try have zz0 : w.heap.size < w2.heap.size := by omega); (try have zz1 : w.heap.size + 1 < w2.heap.size := by omega); (try have zz2 : w.heap.size + 1 + 1 < w2.heap.size := by omega); (try have zz3 : w.heap.size + 1 + 1 + 1 < w2.heap.size := by omega); (try have yyw1 : w1.heap.size < w2.heap.size := by omega))
    go_wp2
    go_ret
    exact ⟨rfl, by (repeat (first | exact Below.refl _ _ | assumption | refine Below.drew ?_ | refine below_drewN ?_ | refine Below.alloc ?_ (by first | (simp; done) | (simp; omega) | omega) _ | refine Below.setCell ?_ (by first | (simp; done) | (simp; omega) | omega) _))⟩

end Go.Proofs.Ythhkafjkhogbmaa
