/- Walks through the functions on ids and entries. -/
import Derived.Test.YthhkafjkhogbmaaProg
import Derived.Test.YthhkafjkhogbmaaBase
namespace Go.Proofs.Ythhkafjkhogbmaa
open Go.RowKit

/-- a number within two others -/
def wthn (n a b : Int) : Bool := decide (a ≤ n ∧ n ≤ b)
theorem wthn_iff {n a b : Int} : wthn n a b = true ↔ a ≤ n ∧ n ≤ b := by simp [wthn]
theorem wthn_false {n a b : Int} : wthn n a b = false ↔ n < a ∨ b < n := by simp only [wthn, decide_eq_false_iff_not]; omega
def okId (x : Id) : Bool := wthn x.r 0 1 && wthn x.n 1 20
def cmpI (a b : Int) : Int := if a < b then -1 else if b < a then 1 else 0
def lessB (a b : Id) : Bool := decide (a.r < b.r ∨ a.r = b.r ∧ a.n < b.n)
def ordI (a b : Id) : Int := if cmpI a.r b.r = 0 then cmpI a.n b.n else cmpI a.r b.r
theorem ordI_lt {a b : Id} : ordI a b < 0 ↔ lessB a b = true := by
  simp only [ordI, cmpI, lessB, decide_eq_true_eq]
  repeat' split
  all_goals omega

theorem within_calls (n a b : Int) (w : World) : Calls Try.prog 65 #[.int .i64 n, .int .i64 a, .int .i64 b] w fun e w' => e = .returned (.bool (wthn n a b)) ∧ w = w' := by
  by_cases h1 : a ≤ n
  · go_enter Try.func65, Try.ntmps65
    go_wp2
    go_ret
    exact ⟨by simp [wthn, h1], rfl⟩
  · go_enter Try.func65, Try.ntmps65
    go_wp2
    go_ret
    exact ⟨by simp [wthn]; omega, rfl⟩

theorem id_calls (r n : Int) (w : World) : Calls Try.prog 46 #[.agg #[.int .i64 r, .int .i64 n]] w fun e w' => e = .returned (.bool (okId ⟨r, n⟩)) ∧ Below w.heap.size w w' := by
  cases h1 : wthn r 0 1
  · have e : okId ⟨r, n⟩ = false := by simp [okId, h1]
    rw [e]
    go_enter Try.func46, Try.ntmps46
    go_wp2_with (go_at_call 65; refine (within_calls _ _ _ _).mono ?_; rintro e w' ⟨rfl, rfl⟩)
    go_ret
    exact ⟨rfl, (Below.refl _ _).alloc (Nat.le_refl _) _⟩
  · have e : okId ⟨r, n⟩ = wthn n 1 20 := by simp [okId, h1]
    rw [e]
    go_enter Try.func46, Try.ntmps46
    go_wp2_with (go_at_call 65; refine (within_calls _ _ _ _).mono ?_; rintro e w' ⟨rfl, rfl⟩)
    go_ret
    exact ⟨rfl, (Below.refl _ _).alloc (Nat.le_refl _) _⟩
theorem cmp_calls (a b : Int) (w : World) : Calls Try.prog 69 #[.int .i64 a, .int .i64 b] w fun e w' => e = .returned (.int .i64 (cmpI a b)) ∧ w = w' := by
  by_cases h1 : a < b
  · go_enter Try.func69, Try.ntmps69
    go_wp2
    go_ret
    exact ⟨by simp [cmpI, h1], rfl⟩
  · by_cases h2 : b < a
    · go_enter Try.func69, Try.ntmps69
      go_wp2
      go_ret
      exact ⟨by simp [cmpI, h1, h2], rfl⟩
    · go_enter Try.func69, Try.ntmps69
      go_wp2
      go_ret
      exact ⟨ret_int (by unfold cmpI; rw [if_neg (by omega), if_neg (by omega)]), rfl⟩
theorem order_calls (a b : Id) (w : World) : Calls Try.prog 55 #[.agg #[.int .i64 a.r, .int .i64 a.n], .agg #[.int .i64 b.r, .int .i64 b.n]] w fun e w' => e = .returned (.int .i64 (ordI a b)) ∧ Below w.heap.size w w' := by
  go_enter Try.func55, Try.ntmps55
  go_wp2_with (go_at_call 69; refine (cmp_calls _ _ _).mono ?_; rintro e w' ⟨rfl, rfl⟩)
  · go_ret
    have h : (cmpI a.r b.r != 0) = true := by assumption
    exact ⟨ret_int (by rw [ordI, if_neg (by simpa using h)]), by (repeat (first | exact Below.refl _ _ | assumption | refine Below.drew ?_ | refine below_drewN ?_ | refine Below.alloc ?_ (by first | (simp; done) | (simp; omega) | omega) _ | refine Below.setCell ?_ (by first | (simp; done) | (simp; omega) | omega) _))⟩
  · go_ret
    have h : (cmpI a.r b.r != 0) = false := by assumption
    exact ⟨ret_int (by rw [ordI, if_pos (by simpa using h)]), by (repeat (first | exact Below.refl _ _ | assumption | refine Below.drew ?_ | refine below_drewN ?_ | refine Below.alloc ?_ (by first | (simp; done) | (simp; omega) | omega) _ | refine Below.setCell ?_ (by first | (simp; done) | (simp; omega) | omega) _))⟩
theorem less_calls (a b : Id) (w : World) : Calls Try.prog 26 #[.agg #[.int .i64 a.r, .int .i64 a.n], .agg #[.int .i64 b.r, .int .i64 b.n]] w fun e w' => e = .returned (.bool (lessB a b)) ∧ Below w.heap.size w w' := by
  have h : lessB a b = decide (ordI a b < 0) := by rw [Bool.eq_iff_iff, decide_eq_true_iff, ordI_lt]
  rw [h]
  go_enter Try.func26, Try.ntmps26
  go_wp2_with (go_at_call 55; refine (order_calls _ _ _).mono ?_; rintro e w' ⟨rfl, hb⟩)
  go_ret
  exact ⟨rfl, below_after (by (repeat (first | exact Below.refl _ _ | assumption | refine Below.drew ?_ | refine below_drewN ?_ | refine Below.alloc ?_ (by first | (simp; done) | (simp; omega) | omega) _ | refine Below.setCell ?_ (by first | (simp; done) | (simp; omega) | omega) _))) hb⟩
theorem colors_calls (n : Int) (w : World) : Calls Try.prog 56 #[.int .i64 n] w fun e w' => e = .returned (.bool (wthn n 1 7)) ∧ w = w' := by
  go_enter Try.func56, Try.ntmps56
  go_wp2_with (go_at_call 65; refine (within_calls _ _ _ _).mono ?_; rintro e w' ⟨rfl, rfl⟩)
  go_ret
  exact ⟨rfl, rfl⟩

/-- what is wrong with link k of an entry -/
def linkErr (e : Id) (ls : List Id) (k : Nat) : Int :=
  if okId (nth ls k) = false then 3
  else if (decide (0 < k) && !lessB (nth ls (k - 1)) (nth ls k)) = true then 4
  else if (nth ls k).r = e.r ∧ e.n ≤ (nth ls k).n then 4 else 0
/-- what is wrong with an entry -/
def checkEntry (e : Entry) : Int :=
  if okId e.id = false then 3 else if wthn e.c 1 7 = false then 3
  else if 12 < e.t.size then 2 else if 6 < e.ls.length then 2
  else firstNZ (linkErr e.id e.ls) e.ls.length

theorem linkErr_id {e : Id} {ls : List Id} {k : Nat} (h5 : okId (nth ls k) = false) : linkErr e ls k = 3 := by rw [linkErr, if_pos h5]
theorem linkErr_ord {e : Id} {ls : List Id} {k : Nat} (h5 : okId (nth ls k) = true) (hk : 0 < k) (h : 0 ≤ ordI (nth ls (k - 1)) (nth ls k)) : linkErr e ls k = 4 := by
  have : lessB (nth ls (k - 1)) (nth ls k) = false := by rw [← Bool.not_eq_true, ← ordI_lt]; omega
  rw [linkErr, if_neg (by simp [h5]), if_pos (by simp [hk, this])]
theorem linkErr_own {e : Id} {ls : List Id} {k : Nat} (h5 : okId (nth ls k) = true) (h6 : (nth ls k).r = e.r) (h7 : e.n ≤ (nth ls k).n) : linkErr e ls k = 4 := by
  rw [linkErr, if_neg (by simp [h5])]
  split
  · rfl
  · rw [if_pos ⟨h6, h7⟩]
theorem linkErr_ok {e : Id} {ls : List Id} {k : Nat} (h5 : okId (nth ls k) = true) (hk : k = 0 ∨ ordI (nth ls (k - 1)) (nth ls k) < 0) (h6 : ¬((nth ls k).r = e.r ∧ e.n ≤ (nth ls k).n)) : linkErr e ls k = 0 := by
  rw [linkErr, if_neg (by simp [h5]), if_neg, if_neg h6]
  rcases hk with hk | hk
  · simp [hk]
  · simp [ordI_lt.1 hk]

set_option maxHeartbeats 1000000 in
theorem check_calls (S : Nat → Prop) (e : Entry) (lv : Value) (w : World) (hl : IdsIn S w lv e.ls) (ht : e.t.size ≤ maxLen) :
    Calls Try.prog 28 #[.agg #[.int .i64 e.id.r, .int .i64 e.id.n, .int .i64 e.c, .string e.t, lv]] w fun x w' => x = .returned (.int .i64 (checkEntry e)) ∧ Below w.heap.size w w' := by
  obtain ⟨a, c, rfl, hc1, hc2⟩ := hl.form
  have HL := Lib.hid hl; clear hl
  unfold maxLen at ht
  cases h1 : okId e.id
  · have H : Hid (checkEntry e = 3) := by show _ = _; rw [checkEntry, if_pos h1]
    go_enter Try.func28, Try.ntmps28
    go_wp2_with (go_at_call 46; refine (id_calls _ _ _).mono ?_; rintro x w1 ⟨rfl, hb⟩)
    go_ret
    exact ⟨ret_int H.out.symm, below_after (by (repeat (first | exact Below.refl _ _ | assumption | refine Below.drew ?_ | refine below_drewN ?_ | refine Below.alloc ?_ (by first | (simp; done) | (simp; omega) | omega) _ | refine Below.setCell ?_ (by first | (simp; done) | (simp; omega) | omega) _))) hb⟩
  cases h2 : wthn e.c 1 7
  · have H : Hid (checkEntry e = 3) := by show _ = _; rw [checkEntry, if_neg (by simp [h1]), if_pos h2]
    go_enter Try.func28, Try.ntmps28
    go_wp2_with (first | (go_at_call 46; refine (id_calls _ _ _).mono ?_; rintro x w1 ⟨rfl, hb⟩; (have B := below_after (w := w) (by (repeat (first | exact Below.refl _ _ | assumption | refine Below.drew ?_ | refine below_drewN ?_ | refine Below.alloc ?_ (by first | (simp; done) | (simp; omega) | omega) _ | refine Below.setCell ?_ (by first | (simp; done) | (simp; omega) | omega) _))) hb; obtain ⟨hc, hf⟩ := bcell hb; have hz := hb.size; (try simp only [World.size_alloc] at hz); clear hb)) | (go_at_call 56; refine (colors_calls _ _).mono ?_; rintro x w2 ⟨rfl, rfl⟩))
    go_ret
    exact ⟨ret_int H.out.symm, B⟩
  have g1 : (okId e.id = false) = False := by simp [h1]
  have g2 : (wthn e.c 1 7 = false) = False := by simp [h2]
  by_cases h3 : 12 < e.t.size
  · have H : Hid (checkEntry e = 2) := by show _ = _; simp only [checkEntry, g1, g2, if_false, if_pos h3]
    clear g1 g2
    go_enter Try.func28, Try.ntmps28
    go_wp2_with (first | (go_at_call 46; refine (id_calls _ _ _).mono ?_; rintro x w1 ⟨rfl, hb⟩; (have B := below_after (w := w) (by (repeat (first | exact Below.refl _ _ | assumption | refine Below.drew ?_ | refine below_drewN ?_ | refine Below.alloc ?_ (by first | (simp; done) | (simp; omega) | omega) _ | refine Below.setCell ?_ (by first | (simp; done) | (simp; omega) | omega) _))) hb; obtain ⟨hc, hf⟩ := bcell hb; have hz := hb.size; (try simp only [World.size_alloc] at hz); clear hb)) | (go_at_call 56; refine (colors_calls _ _).mono ?_; rintro x w2 ⟨rfl, rfl⟩))
    go_ret
    exact ⟨ret_int H.out.symm, B⟩
  by_cases h4 : 6 < e.ls.length
  · have H : Hid (checkEntry e = 2) := by show _ = _; simp only [checkEntry, g1, g2, if_false, if_neg h3, if_pos h4]
    clear g1 g2
    go_enter Try.func28, Try.ntmps28
    go_wp2_with (first | (go_at_call 46; refine (id_calls _ _ _).mono ?_; rintro x w1 ⟨rfl, hb⟩; (have B := below_after (w := w) (by (repeat (first | exact Below.refl _ _ | assumption | refine Below.drew ?_ | refine below_drewN ?_ | refine Below.alloc ?_ (by first | (simp; done) | (simp; omega) | omega) _ | refine Below.setCell ?_ (by first | (simp; done) | (simp; omega) | omega) _))) hb; obtain ⟨hc, hf⟩ := bcell hb; have hz := hb.size; (try simp only [World.size_alloc] at hz); clear hb)) | (go_at_call 56; refine (colors_calls _ _).mono ?_; rintro x w2 ⟨rfl, rfl⟩))
    go_ret
    exact ⟨ret_int H.out.symm, B⟩
  have H : Hid (checkEntry e = firstNZ (linkErr e.id e.ls) e.ls.length) := by show _ = _; simp only [checkEntry, g1, g2, if_false, if_neg h3, if_neg h4]
  clear g1 g2
  go_enter Try.func28, Try.ntmps28
  go_wp2_with (first | (go_at_call 46; refine (id_calls _ _ _).mono ?_; rintro x w1 ⟨rfl, hb⟩; (have B := below_after (w := w) (by (repeat (first | exact Below.refl _ _ | assumption | refine Below.drew ?_ | refine below_drewN ?_ | refine Below.alloc ?_ (by first | (simp; done) | (simp; omega) | omega) _ | refine Below.setCell ?_ (by first | (simp; done) | (simp; omega) | omega) _))) hb; obtain ⟨hc, hf⟩ := bcell hb; have hz := hb.size; (try simp only [World.size_alloc] at hz); clear hb)) | (go_at_call 56; refine (colors_calls _ _).mono ?_; rintro x w2 ⟨rfl, rfl⟩))
  go_loopw [30] (fun i wr => ∃ k : Nat, k ≤ e.ls.length ∧ i = .int .i64 k ∧ Hid (firstNZ (linkErr e.id e.ls) k = 0) ∧ Below w1.heap.size w1 wr) (fun i _ => e.ls.length - (intOf i).toNat)
  case atStart => exact ⟨0, by omega, rfl, rfl, Below.refl _ _⟩
  case round =>
    obtain ⟨k, hk, rfl, hz0, hbe⟩ := hrel
    by_cases hlt : k < e.ls.length
    · obtain ⟨b, o, rfl, hS, hbs, c1, c2⟩ := ((HL.out.below B).below hbe).get hlt
      obtain ⟨hcr, hfr⟩ := bcell hbe
      have hzr := hbe.size
      cases h5 : okId (nth e.ls k)
      · have HE : Hid (linkErr e.id e.ls k = 3) := by show _ = _; rw [linkErr, if_pos h5]
        go_wp2_with (go_at_call 46; refine (id_calls _ _ _).mono ?_; rintro x w3 ⟨rfl, hb⟩)
        go_ret
        exact ⟨ret_int (by rw [H.out, firstNZ_hit hz0.out (by rw [HE.out]; decide) hlt, HE.out]), B.trans (below_after (by (repeat (first | exact Below.refl _ _ | assumption | refine Below.drew ?_ | refine below_drewN ?_ | refine Below.alloc ?_ (by first | (simp; done) | (simp; omega) | omega) _ | refine Below.setCell ?_ (by first | (simp; done) | (simp; omega) | omega) _))) hb |>.mono B.size)⟩
      · by_cases hk0 : 0 < k
        · have hd : decide ((0 : Int) < (k : Int)) = true := by simpa using hk0
          obtain ⟨b', o', hb', -, -, c3, c4⟩ := ((HL.out.below B).below hbe).get (k := k - 1) (by omega)
          obtain ⟨rfl, rfl⟩ : b = b' ∧ o = o' := by simpa using hb'
          clear hb'
          go_wp2_with (first | (go_at_call 46; refine (id_calls _ _ _).mono ?_; rintro x w3 ⟨rfl, hb⟩; have B3 := below_after (w := w1) (by (repeat (first | exact Below.refl _ _ | assumption | refine Below.drew ?_ | refine below_drewN ?_ | refine Below.alloc ?_ (by first | (simp; done) | (simp; omega) | omega) _ | refine Below.setCell ?_ (by first | (simp; done) | (simp; omega) | omega) _))) hb; obtain ⟨hc3, hf3⟩ := bcell hb; have hz3 := hb.size; (try simp only [World.size_alloc] at hz3); clear hb))
          have z1 : w.heap.size < w3.heap.size := by omega
          have z2 : b < w3.heap.size := by omega
          have z3 : wr.heap.size < w3.heap.size := by omega
          have z4 : w.heap.size < wr.heap.size := by omega
          have z5 : w.heap.size < w1.heap.size := by omega
          have hg := grow_cell w3
          refine wp_region_quiet_below (by kernel_rfl) (by kernel_rfl) ?_
          repeat (go_big_quiet_step ((go_at_call 55; exact Calls.regrown_of (order_calls _ _ _))))
          (refine wpQuiet_nil ?_; intro wq hwq; have hbq := below_of_class hwq; clear hwq hg)
          obtain ⟨hcq, hfq⟩ := bcell hbq
          have hzq := hbq.size
          have BQ : Below w.heap.size w wq := B.trans ((B3.trans (hbq.mono B3.size)).mono B.size)
          have BR : Below w1.heap.size w1 wq := B3.trans (hbq.mono B3.size)
          go_wp2
          · go_ret
            have h : 0 ≤ ordI (nth e.ls (k - 1)) (nth e.ls k) := by assumption
            have h' := linkErr_ord (e := e.id) h5 hk0 h
            exact ⟨ret_int (by rw [H.out, firstNZ_hit hz0.out (by rw [h']; decide) hlt, h']), BQ⟩
          · go_ret
            have h' := linkErr_own (ls := e.ls) (k := k) (e := e.id) h5 (by assumption) (by assumption)
            exact ⟨ret_int (by rw [H.out, firstNZ_hit hz0.out (by rw [h']; decide) hlt, h']), BQ⟩
          all_goals
            have h : ordI (nth e.ls (k - 1)) (nth e.ls k) < 0 := by assumption
            have h' := linkErr_ok (ls := e.ls) (k := k) (e := e.id) h5 (.inr h) (by first | (rintro ⟨-, h2⟩; omega) | (rintro ⟨h2, -⟩; contradiction))
            go_roundw
            case rel => exact ⟨k + 1, by omega, by go_num, firstNZ_succ hz0.out h', BR⟩
            case measure => simp [intOf]; omega
        · have hd : decide ((0 : Int) < (k : Int)) = false := by simpa using hk0
          go_wp2_with (first | (go_at_call 46; refine (id_calls _ _ _).mono ?_; rintro x w3 ⟨rfl, hb⟩; have B3 := below_after (w := w1) (by (repeat (first | exact Below.refl _ _ | assumption | refine Below.drew ?_ | refine below_drewN ?_ | refine Below.alloc ?_ (by first | (simp; done) | (simp; omega) | omega) _ | refine Below.setCell ?_ (by first | (simp; done) | (simp; omega) | omega) _))) hb; obtain ⟨hc3, hf3⟩ := bcell hb; have hz3 := hb.size; (try simp only [World.size_alloc] at hz3); clear hb))
          have z1 : w.heap.size < w3.heap.size := by omega
          have z2 : b < w3.heap.size := by omega
          have z3 : wr.heap.size < w3.heap.size := by omega
          have z4 : w.heap.size < wr.heap.size := by omega
          have z5 : w.heap.size < w1.heap.size := by omega
          have hg := grow_cell w3
          refine wp_region_quiet_below (by kernel_rfl) (by kernel_rfl) ?_
          repeat (go_big_quiet_step ((go_at_call 55; exact Calls.regrown_of (order_calls _ _ _))))
          (refine wpQuiet_nil ?_; intro wq hwq; have hbq := below_of_class hwq; clear hwq hg)
          obtain ⟨hcq, hfq⟩ := bcell hbq
          have hzq := hbq.size
          have BQ : Below w.heap.size w wq := B.trans ((B3.trans (hbq.mono B3.size)).mono B.size)
          have BR : Below w1.heap.size w1 wq := B3.trans (hbq.mono B3.size)
          go_wp2
          · go_ret
            have h' := linkErr_own (ls := e.ls) (k := k) (e := e.id) h5 (by assumption) (by assumption)
            exact ⟨ret_int (by rw [H.out, firstNZ_hit hz0.out (by rw [h']; decide) hlt, h']), BQ⟩
          all_goals
            have h' := linkErr_ok (ls := e.ls) (k := k) (e := e.id) h5 (.inl (by omega)) (by first | (rintro ⟨-, h2⟩; omega) | (rintro ⟨h2, -⟩; contradiction))
            go_roundw
            case rel => exact ⟨k + 1, by omega, by go_num, firstNZ_succ hz0.out h', BR⟩
            case measure => simp [intOf]; omega
    · go_wp2
      go_ret
      exact ⟨ret_int (by rw [H.out, show e.ls.length = k from by omega, hz0.out]), B.trans (hbe.mono B.size)⟩

end Go.Proofs.Ythhkafjkhogbmaa
