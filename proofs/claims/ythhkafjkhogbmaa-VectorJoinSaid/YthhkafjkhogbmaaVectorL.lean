/- Walks through the law texts on vectors. -/
import Derived.Test.YthhkafjkhogbmaaVectorW
import Derived.Test.YthhkafjkhogbmaaRefA
import Derived.Test.YthhkafjkhogbmaaEq
namespace Go.Proofs.Ythhkafjkhogbmaa
open Go.RowKit

theorem checkVector_calls (a b : Int) (w : World) : Calls Try.prog 16 #[.agg #[.int .i64 a, .int .i64 b]] w fun x w' => x = .returned (.int .i64 (chkV a b)) ∧ Below w.heap.size w w' := by
  cases h1 : wthn a 0 20
  · have e : chkV a b = 3 := by rw [chkV, if_neg (by simp [h1])]
    rw [e]
    go_enter Try.func16, Try.ntmps16
    go_wp2_with (go_at_call 49; refine (between_calls _ _ _ _).mono ?_; rintro x w1 ⟨rfl, rfl⟩)
    go_ret
    exact ⟨rfl, by (repeat (first | exact Below.refl _ _ | assumption | refine Below.drew ?_ | refine below_drewN ?_ | refine Below.alloc ?_ (by first | (simp; done) | (simp; omega) | omega) _ | refine Below.setCell ?_ (by first | (simp; done) | (simp; omega) | omega) _))⟩
  · cases h2 : wthn b 0 20
    · have e : chkV a b = 3 := by rw [chkV, if_neg (by simp [h2])]
      rw [e]
      go_enter Try.func16, Try.ntmps16
      go_wp2_with (go_at_call 49; refine (between_calls _ _ _ _).mono ?_; rintro x w1 ⟨rfl, rfl⟩)
      go_ret
      exact ⟨rfl, by (repeat (first | exact Below.refl _ _ | assumption | refine Below.drew ?_ | refine below_drewN ?_ | refine Below.alloc ?_ (by first | (simp; done) | (simp; omega) | omega) _ | refine Below.setCell ?_ (by first | (simp; done) | (simp; omega) | omega) _))⟩
    · have e : chkV a b = 0 := by rw [chkV, if_pos ⟨h1, h2⟩]
      rw [e]
      go_enter Try.func16, Try.ntmps16
      go_wp2_with (go_at_call 49; refine (between_calls _ _ _ _).mono ?_; rintro x w1 ⟨rfl, rfl⟩)
      go_ret
      exact ⟨rfl, by (repeat (first | exact Below.refl _ _ | assumption | refine Below.drew ?_ | refine below_drewN ?_ | refine Below.alloc ?_ (by first | (simp; done) | (simp; omega) | omega) _ | refine Below.setCell ?_ (by first | (simp; done) | (simp; omega) | omega) _))⟩

set_option maxRecDepth 100000 in
theorem vectorBegun_calls (w : World) : Calls Try.prog 18 #[] w fun x w' => x = .returned (.bool true) ∧ Below w.heap.size w w' := by
  have f1 : joinE 0 1 3 = 3 := by decide
  have f2 : joinE 0 5 2 = 5 := by decide
  have f3 : chk2 1 5 3 2 = 0 := by decide
  have f4 : hasE 3 5 0 3 = 0 := by decide
  have f5 : hasV 3 5 0 3 = true := by decide
  have f6 : chk2 1 5 3 5 = 0 := by decide
  have f7 : fitsV 1 5 3 5 = true := by decide
  have f8 : chkV 3 5 = 0 := by decide
  have q1 := @eqgV
  have q2 := @eqlV
  go_enter Try.func18, Try.ntmps18
  go_wp2_with (go_at_call 13; refine (join_calls _ _ _ _ _).mono ?_; rintro x w1 ⟨rfl, hb⟩; (have B := below_after (w := w) (by (repeat (first | exact Below.refl _ _ | assumption | refine Below.drew ?_ | refine below_drewN ?_ | refine Below.alloc ?_ (by first | (simp; done) | (simp; omega) | omega) _ | refine Below.setCell ?_ (by first | (simp; done) | (simp; omega) | omega) _))) hb; obtain ⟨hc, hf⟩ := bcell hb; have hz := hb.size; (try simp only [World.size_alloc] at hz); clear hb); (try have zz0 : w.heap.size < w1.heap.size := by omega); (try have zz1 : w.heap.size + 1 < w1.heap.size := by omega); (try have zz2 : w.heap.size + 1 + 1 < w1.heap.size := by omega); (try have zz3 : w.heap.size + 1 + 1 + 1 < w1.heap.size := by omega))
  have hg := grow_cell (w1.alloc (Obj.cells #[Value.int IntKind.i64 3, Value.int IntKind.i64 5] 23))
  refine wp_region_quiet_below (by kernel_rfl) (by kernel_rfl) ?_
  repeat (go_big_quiet_step ((first | (go_at_call 50; exact Calls.regrown_of (lawId_calls _ _ _)) | (go_at_call 14; exact Calls.regrown_of (has_calls _ _ _ _ _)))))
  (refine wpQuiet_nil ?_; intro wq hwq; have hbq := below_of_class hwq; clear hwq hg)
  have BQ : Below w.heap.size w wq := below_after (w := w) (by (repeat (first | exact Below.refl _ _ | assumption | refine Below.drew ?_ | refine below_drewN ?_ | refine Below.alloc ?_ (by first | (simp; done) | (simp; omega) | omega) _ | refine Below.setCell ?_ (by first | (simp; done) | (simp; omega) | omega) _))) hbq
  have kq0 : wq.cell? ⟨w1.heap.size, 0, none⟩ = some (.int .i64 3) := by rw [(bcell hbq).1 _ _ (by simp)]; simp [go_sem]
  have kq1 : wq.cell? ⟨w1.heap.size, 1, none⟩ = some (.int .i64 5) := by rw [(bcell hbq).1 _ _ (by simp)]; simp [go_sem]
  have zq : w1.heap.size < wq.heap.size := by have := hbq.size; simp only [World.size_alloc] at this; omega
  clear hbq
  go_wp2_with (first | ((go_at_call 15; refine (within2_calls _ _ _ _ _).mono ?_; rintro x w3 ⟨rfl, hb⟩; (have B := below_after (w := w) (by (repeat (first | exact Below.refl _ _ | assumption | refine Below.drew ?_ | refine below_drewN ?_ | refine Below.alloc ?_ (by first | (simp; done) | (simp; omega) | omega) _ | refine Below.setCell ?_ (by first | (simp; done) | (simp; omega) | omega) _))) hb; obtain ⟨hc, hf⟩ := bcell hb; have hz := hb.size; (try simp only [World.size_alloc] at hz); clear hb); (try have zz0 : w.heap.size < w3.heap.size := by omega); (try have zz1 : w.heap.size + 1 < w3.heap.size := by omega); (try have zz2 : w.heap.size + 1 + 1 < w3.heap.size := by omega); (try have zz3 : w.heap.size + 1 + 1 + 1 < w3.heap.size := by omega)); have zz9 : w1.heap.size < w3.heap.size := by omega) | (go_at_call 19; refine (vcheck_calls _ _ _).mono ?_; rintro x w4 ⟨rfl, hb⟩; (have B := below_after (w := w) (by (repeat (first | exact Below.refl _ _ | assumption | refine Below.drew ?_ | refine below_drewN ?_ | refine Below.alloc ?_ (by first | (simp; done) | (simp; omega) | omega) _ | refine Below.setCell ?_ (by first | (simp; done) | (simp; omega) | omega) _))) hb; obtain ⟨hc, hf⟩ := bcell hb; have hz := hb.size; (try simp only [World.size_alloc] at hz); clear hb); (try have zz0 : w.heap.size < w4.heap.size := by omega); (try have zz1 : w.heap.size + 1 < w4.heap.size := by omega); (try have zz2 : w.heap.size + 1 + 1 < w4.heap.size := by omega); (try have zz3 : w.heap.size + 1 + 1 + 1 < w4.heap.size := by omega)))
  go_ret
  exact ⟨rfl, B⟩

theorem chk2_bad1 {a b c d : Int} (h : chkV a b = 3) : chk2 a b c d = 3 := by rw [chk2, if_neg (by omega)]
theorem chk2_ok {a b c d : Int} (h : chkV a b = 0) : chk2 a b c d = chkV c d := by rw [chk2, if_pos h]

theorem hasE_ok {a b r n : Int} (h : chkV a b = 0) : hasE a b r n = if okId ⟨r, n⟩ = true then 0 else 3 := by rw [hasE, if_pos h]

set_option maxHeartbeats 8000000 in
set_option maxRecDepth 100000 in
theorem vectorTells_calls (a b c d r n : Int) (w : World) :
    Calls Try.prog 3 #[.agg #[.int .i64 a, .int .i64 b], .agg #[.int .i64 c, .int .i64 d], .agg #[.int .i64 r, .int .i64 n]] w fun e w' => e = .returned (.bool true) ∧ Below w.heap.size w w' := by
  have f2 : ∀ x y, joinE 3 x y = 0 := fun _ _ => rfl
  have f0 : ∀ x y, joinE 0 x y = maxI x y := fun _ _ => rfl
  have q1 := @eqgV
  have q2 := @eqlV
  rcases chkV_cases a b with h1 | h1
  · have f4 := hasE_ok (r := r) (n := n) h1
    have fx : (okId ⟨r, n⟩ = false ∧ hasE a b r n = 3) ∨ (okId ⟨r, n⟩ = true ∧ hasE a b r n = 0 ∧ r = 0 ∧ hasV a b r n = decide (n ≤ a)) ∨ (okId ⟨r, n⟩ = true ∧ hasE a b r n = 0 ∧ r = 1 ∧ hasV a b r n = decide (n ≤ b)) := by
      cases h3 : okId ⟨r, n⟩
      · exact .inl ⟨rfl, by rw [f4, h3]; rfl⟩
      · rcases (okId_iff.1 h3).1 with e | e
        · exact .inr (.inl ⟨rfl, by rw [f4, h3]; rfl, e, by simp only at e; simp [hasV, e]⟩)
        · exact .inr (.inr ⟨rfl, by rw [f4, h3]; rfl, e, by simp only at e; simp [hasV, e]⟩)
    clear f4
    have f1 : chk2 a b c d = chkV c d := chk2_ok h1
    rcases fx with ⟨x1, x2⟩ | ⟨x1, x2, rfl, x3⟩ | ⟨x1, x2, rfl, x3⟩
    all_goals
      rcases chkV_cases c d with h2 | h2
      · go_enter Try.func3, Try.ntmps3
        go_wp2_with (go_at_call 13; refine (join_calls _ _ _ _ _).mono ?_; rintro x w1 ⟨rfl, hb⟩; (have B := below_after (w := w) (by (repeat (first | exact Below.refl _ _ | assumption | refine Below.drew ?_ | refine below_drewN ?_ | refine Below.alloc ?_ (by first | (simp; done) | (simp; omega) | omega) _ | refine Below.setCell ?_ (by first | (simp; done) | (simp; omega) | omega) _))) hb; obtain ⟨hc, hf⟩ := bcell hb; have hz := hb.size; (try simp only [World.size_alloc] at hz); clear hb); (try have zz0 : w.heap.size < w1.heap.size := by omega); (try have zz1 : w.heap.size + 1 < w1.heap.size := by omega); (try have zz2 : w.heap.size + 1 + 1 < w1.heap.size := by omega); (try have zz3 : w.heap.size + 1 + 1 + 1 < w1.heap.size := by omega))
        go_wp2_with ((go_at_call 14; refine (has_calls _ _ _ _ _).mono ?_; rintro x w2 ⟨rfl, hb⟩; (have B := below_after (w := w) (by (repeat (first | exact Below.refl _ _ | assumption | refine Below.drew ?_ | refine below_drewN ?_ | refine Below.alloc ?_ (by first | (simp; done) | (simp; omega) | omega) _ | refine Below.setCell ?_ (by first | (simp; done) | (simp; omega) | omega) _))) hb; obtain ⟨hc, hf⟩ := bcell hb; have hz := hb.size; (try simp only [World.size_alloc] at hz); clear hb); (try have zz0 : w.heap.size < w2.heap.size := by omega); (try have zz1 : w.heap.size + 1 < w2.heap.size := by omega); (try have zz2 : w.heap.size + 1 + 1 < w2.heap.size := by omega); (try have zz3 : w.heap.size + 1 + 1 + 1 < w2.heap.size := by omega)); have y1 : w1.heap.size < w2.heap.size := by omega)
        go_wp2_with ((go_at_call 15; refine (within2_calls _ _ _ _ _).mono ?_; rintro x w3 ⟨rfl, hb⟩; (have B := below_after (w := w) (by (repeat (first | exact Below.refl _ _ | assumption | refine Below.drew ?_ | refine below_drewN ?_ | refine Below.alloc ?_ (by first | (simp; done) | (simp; omega) | omega) _ | refine Below.setCell ?_ (by first | (simp; done) | (simp; omega) | omega) _))) hb; obtain ⟨hc, hf⟩ := bcell hb; have hz := hb.size; (try simp only [World.size_alloc] at hz); clear hb); (try have zz0 : w.heap.size < w3.heap.size := by omega); (try have zz1 : w.heap.size + 1 < w3.heap.size := by omega); (try have zz2 : w.heap.size + 1 + 1 < w3.heap.size := by omega); (try have zz3 : w.heap.size + 1 + 1 + 1 < w3.heap.size := by omega)); have y2 : w1.heap.size < w3.heap.size := by omega)
        go_upto_if 52 with (first | ((go_at_call 16; refine (checkVector_calls _ _ _).mono ?_; rintro x w4 ⟨rfl, hb⟩; (have B := below_after (w := w) (by (repeat (first | exact Below.refl _ _ | assumption | refine Below.drew ?_ | refine below_drewN ?_ | refine Below.alloc ?_ (by first | (simp; done) | (simp; omega) | omega) _ | refine Below.setCell ?_ (by first | (simp; done) | (simp; omega) | omega) _))) hb; obtain ⟨hc, hf⟩ := bcell hb; have hz := hb.size; (try simp only [World.size_alloc] at hz); clear hb); (try have zz0 : w.heap.size < w4.heap.size := by omega); (try have zz1 : w.heap.size + 1 < w4.heap.size := by omega); (try have zz2 : w.heap.size + 1 + 1 < w4.heap.size := by omega); (try have zz3 : w.heap.size + 1 + 1 + 1 < w4.heap.size := by omega)); have y3 : w1.heap.size < w4.heap.size := by omega) | ((go_at_call 17; refine (isId_calls _ _ _).mono ?_; rintro x w4 ⟨rfl, hb⟩; (have B := below_after (w := w) (by (repeat (first | exact Below.refl _ _ | assumption | refine Below.drew ?_ | refine below_drewN ?_ | refine Below.alloc ?_ (by first | (simp; done) | (simp; omega) | omega) _ | refine Below.setCell ?_ (by first | (simp; done) | (simp; omega) | omega) _))) hb; obtain ⟨hc, hf⟩ := bcell hb; have hz := hb.size; (try simp only [World.size_alloc] at hz); clear hb); (try have zz0 : w.heap.size < w4.heap.size := by omega); (try have zz1 : w.heap.size + 1 < w4.heap.size := by omega); (try have zz2 : w.heap.size + 1 + 1 < w4.heap.size := by omega); (try have zz3 : w.heap.size + 1 + 1 + 1 < w4.heap.size := by omega)); have y3 : w1.heap.size < w4.heap.size := by omega))
        go_cut [] (fun wx => Hid (Below w4.heap.size w4 wx ∧ wx.cell? ⟨w4.heap.size, 0, none⟩ = some (.int .i64 (maxI a c)) ∧ wx.cell? ⟨w4.heap.size, 1, none⟩ = some (.int .i64 (maxI b d)) ∧ w4.heap.size < wx.heap.size))
        case rest =>
          obtain ⟨hb, g1, g2, z9⟩ := hcut.out
          clear hcut
          have B5 := B.trans (hb.mono B.size)
          obtain ⟨hc5, hf5⟩ := bcell hb
          have u1 : w.heap.size < wc.heap.size := by omega
          have u2 : w.heap.size + 1 < wc.heap.size := by omega
          have u3 : w.heap.size + 1 + 1 < wc.heap.size := by omega
          have u4 : w1.heap.size < wc.heap.size := by omega
          have tt : (decide (a ≤ c) = true ∧ fitsV a b c d = decide (b ≤ d)) ∨ (decide (a ≤ c) = false ∧ fitsV a b c d = false) := by
            by_cases t : a ≤ c <;> simp [fitsV, t]
          rcases tt with ⟨t1, t2⟩ | ⟨t1, t2⟩
          all_goals
            go_wp2_with fail
            have hg := grow_cell
            refine wp_region_quiet_below (by kernel_rfl) (by kernel_rfl) ?_
            repeat (go_big_quiet_step ((first | (go_at_call 18; exact Calls.regrown_of (vectorBegun_calls _)) | (go_at_call 19; exact Calls.regrown_of (vcheck_calls _ _ _)))))
            (refine wpQuiet_nil ?_; intro wq hwq; have hbq := below_of_class hwq; clear hwq hg)
            go_wp2
            go_ret
            exact ⟨rfl, below_after (w := w) (by (repeat (first | exact Below.refl _ _ | assumption | refine Below.drew ?_ | refine below_drewN ?_ | refine Below.alloc ?_ (by first | (simp; done) | (simp; omega) | omega) _ | refine Below.setCell ?_ (by first | (simp; done) | (simp; omega) | omega) _))) hbq⟩
        case first =>
          have q1 : (a < c ∧ maxI a c = c) ∨ (c ≤ a ∧ maxI a c = a) := by unfold maxI; omega
          have q2 : (b < d ∧ maxI b d = d) ∨ (d ≤ b ∧ maxI b d = b) := by unfold maxI; omega
          clear x1
          rcases q1 with ⟨q1, m1⟩ | ⟨q1, m1⟩ <;> rcases q2 with ⟨q2, m2⟩ | ⟨q2, m2⟩
          all_goals
            go_wp2
            refine wp_loop_rounds 3 ?_
            refine rounds_step (n := 2) ?_
            go_wp2
            go_quiet (fail)
            go_wp2
            refine rounds_step (n := 1) ?_
            go_wp2
            go_quiet (fail)
            go_wp2
            refine rounds_step (n := 0) ?_
            go_wp2
            go_meet
            case rel => exact ⟨by (repeat (first | exact Below.refl _ _ | assumption | refine Below.drew ?_ | refine below_drewN ?_ | refine Below.alloc ?_ (by first | (simp; done) | (simp; omega) | omega) _ | refine Below.setCell ?_ (by first | (simp; done) | (simp; omega) | omega) _)), by simp [go_sem, m1], by simp [go_sem, m2], by simp⟩
      · go_enter Try.func3, Try.ntmps3
        go_wp2_with (go_at_call 13; refine (join_calls _ _ _ _ _).mono ?_; rintro x w1 ⟨rfl, hb⟩; (have B := below_after (w := w) (by (repeat (first | exact Below.refl _ _ | assumption | refine Below.drew ?_ | refine below_drewN ?_ | refine Below.alloc ?_ (by first | (simp; done) | (simp; omega) | omega) _ | refine Below.setCell ?_ (by first | (simp; done) | (simp; omega) | omega) _))) hb; obtain ⟨hc, hf⟩ := bcell hb; have hz := hb.size; (try simp only [World.size_alloc] at hz); clear hb); (try have zz0 : w.heap.size < w1.heap.size := by omega); (try have zz1 : w.heap.size + 1 < w1.heap.size := by omega); (try have zz2 : w.heap.size + 1 + 1 < w1.heap.size := by omega); (try have zz3 : w.heap.size + 1 + 1 + 1 < w1.heap.size := by omega))
        go_wp2_with ((go_at_call 14; refine (has_calls _ _ _ _ _).mono ?_; rintro x w2 ⟨rfl, hb⟩; (have B := below_after (w := w) (by (repeat (first | exact Below.refl _ _ | assumption | refine Below.drew ?_ | refine below_drewN ?_ | refine Below.alloc ?_ (by first | (simp; done) | (simp; omega) | omega) _ | refine Below.setCell ?_ (by first | (simp; done) | (simp; omega) | omega) _))) hb; obtain ⟨hc, hf⟩ := bcell hb; have hz := hb.size; (try simp only [World.size_alloc] at hz); clear hb); (try have zz0 : w.heap.size < w2.heap.size := by omega); (try have zz1 : w.heap.size + 1 < w2.heap.size := by omega); (try have zz2 : w.heap.size + 1 + 1 < w2.heap.size := by omega); (try have zz3 : w.heap.size + 1 + 1 + 1 < w2.heap.size := by omega)); have y1 : w1.heap.size < w2.heap.size := by omega)
        go_wp2_with ((go_at_call 15; refine (within2_calls _ _ _ _ _).mono ?_; rintro x w3 ⟨rfl, hb⟩; (have B := below_after (w := w) (by (repeat (first | exact Below.refl _ _ | assumption | refine Below.drew ?_ | refine below_drewN ?_ | refine Below.alloc ?_ (by first | (simp; done) | (simp; omega) | omega) _ | refine Below.setCell ?_ (by first | (simp; done) | (simp; omega) | omega) _))) hb; obtain ⟨hc, hf⟩ := bcell hb; have hz := hb.size; (try simp only [World.size_alloc] at hz); clear hb); (try have zz0 : w.heap.size < w3.heap.size := by omega); (try have zz1 : w.heap.size + 1 < w3.heap.size := by omega); (try have zz2 : w.heap.size + 1 + 1 < w3.heap.size := by omega); (try have zz3 : w.heap.size + 1 + 1 + 1 < w3.heap.size := by omega)); have y2 : w1.heap.size < w3.heap.size := by omega)
        go_wp2_with (first | ((go_at_call 16; refine (checkVector_calls _ _ _).mono ?_; rintro x w4 ⟨rfl, hb⟩; (have B := below_after (w := w) (by (repeat (first | exact Below.refl _ _ | assumption | refine Below.drew ?_ | refine below_drewN ?_ | refine Below.alloc ?_ (by first | (simp; done) | (simp; omega) | omega) _ | refine Below.setCell ?_ (by first | (simp; done) | (simp; omega) | omega) _))) hb; obtain ⟨hc, hf⟩ := bcell hb; have hz := hb.size; (try simp only [World.size_alloc] at hz); clear hb); (try have zz0 : w.heap.size < w4.heap.size := by omega); (try have zz1 : w.heap.size + 1 < w4.heap.size := by omega); (try have zz2 : w.heap.size + 1 + 1 < w4.heap.size := by omega); (try have zz3 : w.heap.size + 1 + 1 + 1 < w4.heap.size := by omega)); have y3 : w1.heap.size < w4.heap.size := by omega) | ((go_at_call 17; refine (isId_calls _ _ _).mono ?_; rintro x w4 ⟨rfl, hb⟩; (have B := below_after (w := w) (by (repeat (first | exact Below.refl _ _ | assumption | refine Below.drew ?_ | refine below_drewN ?_ | refine Below.alloc ?_ (by first | (simp; done) | (simp; omega) | omega) _ | refine Below.setCell ?_ (by first | (simp; done) | (simp; omega) | omega) _))) hb; obtain ⟨hc, hf⟩ := bcell hb; have hz := hb.size; (try simp only [World.size_alloc] at hz); clear hb); (try have zz0 : w.heap.size < w4.heap.size := by omega); (try have zz1 : w.heap.size + 1 < w4.heap.size := by omega); (try have zz2 : w.heap.size + 1 + 1 < w4.heap.size := by omega); (try have zz3 : w.heap.size + 1 + 1 + 1 < w4.heap.size := by omega)); have y3 : w1.heap.size < w4.heap.size := by omega))
        have y4 : w1.heap.size < w4.heap.size + 1 := by omega
        have y5 : w.heap.size < w4.heap.size + 1 := by omega
        have y6 : w.heap.size + 1 < w4.heap.size + 1 := by omega
        have y7 : w.heap.size + 1 + 1 < w4.heap.size + 1 := by omega
        have hg := grow_cell
        refine wp_region_quiet_below (by kernel_rfl) (by kernel_rfl) ?_
        repeat (go_big_quiet_step ((first | (go_at_call 18; exact Calls.regrown_of (vectorBegun_calls _)) | (go_at_call 19; exact Calls.regrown_of (vcheck_calls _ _ _)))))
        (refine wpQuiet_nil ?_; intro wq hwq; have hbq := below_of_class hwq; clear hwq hg)
        go_wp2
        go_ret
        exact ⟨rfl, below_after (w := w) (by (repeat (first | exact Below.refl _ _ | assumption | refine Below.drew ?_ | refine below_drewN ?_ | refine Below.alloc ?_ (by first | (simp; done) | (simp; omega) | omega) _ | refine Below.setCell ?_ (by first | (simp; done) | (simp; omega) | omega) _))) hbq⟩
  · have f1 : chk2 a b c d = 3 := chk2_bad1 h1
    have f4 : hasE a b r n = 3 := by rw [hasE, if_neg (by omega), h1]
    go_enter Try.func3, Try.ntmps3
    go_wp2_with (go_at_call 13; refine (join_calls _ _ _ _ _).mono ?_; rintro x w1 ⟨rfl, hb⟩; (have B := below_after (w := w) (by (repeat (first | exact Below.refl _ _ | assumption | refine Below.drew ?_ | refine below_drewN ?_ | refine Below.alloc ?_ (by first | (simp; done) | (simp; omega) | omega) _ | refine Below.setCell ?_ (by first | (simp; done) | (simp; omega) | omega) _))) hb; obtain ⟨hc, hf⟩ := bcell hb; have hz := hb.size; (try simp only [World.size_alloc] at hz); clear hb); (try have zz0 : w.heap.size < w1.heap.size := by omega); (try have zz1 : w.heap.size + 1 < w1.heap.size := by omega); (try have zz2 : w.heap.size + 1 + 1 < w1.heap.size := by omega); (try have zz3 : w.heap.size + 1 + 1 + 1 < w1.heap.size := by omega))
    go_wp2_with ((go_at_call 14; refine (has_calls _ _ _ _ _).mono ?_; rintro x w2 ⟨rfl, hb⟩; (have B := below_after (w := w) (by (repeat (first | exact Below.refl _ _ | assumption | refine Below.drew ?_ | refine below_drewN ?_ | refine Below.alloc ?_ (by first | (simp; done) | (simp; omega) | omega) _ | refine Below.setCell ?_ (by first | (simp; done) | (simp; omega) | omega) _))) hb; obtain ⟨hc, hf⟩ := bcell hb; have hz := hb.size; (try simp only [World.size_alloc] at hz); clear hb); (try have zz0 : w.heap.size < w2.heap.size := by omega); (try have zz1 : w.heap.size + 1 < w2.heap.size := by omega); (try have zz2 : w.heap.size + 1 + 1 < w2.heap.size := by omega); (try have zz3 : w.heap.size + 1 + 1 + 1 < w2.heap.size := by omega)); have y1 : w1.heap.size < w2.heap.size := by omega)
    go_wp2_with ((go_at_call 15; refine (within2_calls _ _ _ _ _).mono ?_; rintro x w3 ⟨rfl, hb⟩; (have B := below_after (w := w) (by (repeat (first | exact Below.refl _ _ | assumption | refine Below.drew ?_ | refine below_drewN ?_ | refine Below.alloc ?_ (by first | (simp; done) | (simp; omega) | omega) _ | refine Below.setCell ?_ (by first | (simp; done) | (simp; omega) | omega) _))) hb; obtain ⟨hc, hf⟩ := bcell hb; have hz := hb.size; (try simp only [World.size_alloc] at hz); clear hb); (try have zz0 : w.heap.size < w3.heap.size := by omega); (try have zz1 : w.heap.size + 1 < w3.heap.size := by omega); (try have zz2 : w.heap.size + 1 + 1 < w3.heap.size := by omega); (try have zz3 : w.heap.size + 1 + 1 + 1 < w3.heap.size := by omega)); have y2 : w1.heap.size < w3.heap.size := by omega)
    go_wp2_with ((go_at_call 16; refine (checkVector_calls _ _ _).mono ?_; rintro x w4 ⟨rfl, hb⟩; (have B := below_after (w := w) (by (repeat (first | exact Below.refl _ _ | assumption | refine Below.drew ?_ | refine below_drewN ?_ | refine Below.alloc ?_ (by first | (simp; done) | (simp; omega) | omega) _ | refine Below.setCell ?_ (by first | (simp; done) | (simp; omega) | omega) _))) hb; obtain ⟨hc, hf⟩ := bcell hb; have hz := hb.size; (try simp only [World.size_alloc] at hz); clear hb); (try have zz0 : w.heap.size < w4.heap.size := by omega); (try have zz1 : w.heap.size + 1 < w4.heap.size := by omega); (try have zz2 : w.heap.size + 1 + 1 < w4.heap.size := by omega); (try have zz3 : w.heap.size + 1 + 1 + 1 < w4.heap.size := by omega)); have y3 : w1.heap.size < w4.heap.size := by omega)
    have y4 : w1.heap.size < w4.heap.size + 1 := by omega
    have y5 : w.heap.size < w4.heap.size + 1 := by omega
    have hg := grow_cell
    refine wp_region_quiet_below (by kernel_rfl) (by kernel_rfl) ?_
    repeat (go_big_quiet_step ((first | (go_at_call 18; exact Calls.regrown_of (vectorBegun_calls _)) | (go_at_call 19; exact Calls.regrown_of (vcheck_calls _ _ _)))))
    (refine wpQuiet_nil ?_; intro wq hwq; have hbq := below_of_class hwq; clear hwq hg)
    go_wp2
    go_ret
    exact ⟨rfl, below_after (w := w) (by (repeat (first | exact Below.refl _ _ | assumption | refine Below.drew ?_ | refine below_drewN ?_ | refine Below.alloc ?_ (by first | (simp; done) | (simp; omega) | omega) _ | refine Below.setCell ?_ (by first | (simp; done) | (simp; omega) | omega) _))) hbq⟩

end Go.Proofs.Ythhkafjkhogbmaa
