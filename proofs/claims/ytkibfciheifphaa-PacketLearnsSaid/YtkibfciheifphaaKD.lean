/- Joined texts of this claim: ToldW DecW E9 Q4 Q5 E12 E13 Q6 Q7 Q8 Q9 E10 D1 D2 D3 M1 M2 S2 S3 Sh S1 G1 M3 D5 D4 D6 D7 D8 D9 D10 G2 D11 G3 M4 D12 D13 D14 D15. -/
import Derived.Test.YtkibfciheifphaaKC
import Derived.Defers
import Derived.Recover
import Derived.Laws.Pointers
import Derived.Test.YtkibfciheifphaaKB
import Derived.Shelf.GgSortFunc.InsertionK
import Derived.Test.YtkibfciheifphaaProg
import Derived.Shelf.RegionOpenPlain
import Derived.WalkKit
import Derived.Deep.LoopGhost
import Derived.Deep.Draws
import Derived.Lib.Walk
import Derived.Sort.WalkB12
import Derived.Lib.SliceRun
import Derived.Lib.SlicesCompact
import Derived.Shelf.SlSortCmp.WholeK
import Derived.Shelf.SlLaysF0
import Derived.KernelRfl
import Derived.Shelf.SlSortCmp.Insertion
import Derived.Shelf.SlSortCmp.NoneTotal
set_option linter.unusedSimpArgs false
set_option linter.unusedVariables false
set_option linter.unusedSectionVars false
/- Walks through what defers and recovers: told, Decode. -/
namespace Go.Proofs.Ytkibfciheifphaa
set_option linter.unusedSimpArgs false
set_option linter.unusedVariables false
open Go.RowKit
set_option maxHeartbeats 2000000 in
theorem told_catch (b0 b1 b2 : Nat) (c : Int) (w : World) (k : ∀ j, j < 5 → ∃ u, w.cell? ⟨b0, j, none⟩ = some u) (f0 : ∀ j, w.frozen? ⟨b0, j, none⟩ = false) (k1 : ∃ u, w.cell? ⟨b1, 0, none⟩ = some u) (f1 : w.frozen? ⟨b1, 0, none⟩ = false)
    (k2 : ∃ u, w.cell? ⟨b2, 0, none⟩ = some u) (f2 : w.frozen? ⟨b2, 0, none⟩ = false) (h01 : b0 < b1) (h12 : b1 < b2) :
    CallsD Try.prog 90 #[.pointer (some ⟨b0, 0, none⟩), .pointer (some ⟨b1, 0, none⟩), .pointer (some ⟨b2, 0, none⟩)] (.panicking [{ v := .iface 25 (.int .i64 c), recovered := false }]) w fun e u' w' =>
      e = .returned (.tuple #[]) ∧ u' = .panicking [{ v := .iface 25 (.int .i64 c), recovered := true }] ∧
      w' = ((((((w.setCell ⟨b0, 0, none⟩ (.int .i64 0)).setCell ⟨b0, 1, none⟩ (.int .i64 0)).setCell ⟨b0, 2, none⟩ (.int .i64 0)).setCell ⟨b0, 3, none⟩ (.string (BA []))).setCell ⟨b0, 4, none⟩ (.slice none 0 0)).setCell ⟨b1, 0, none⟩ (.string (BA []))).setCell ⟨b2, 0, none⟩ (.int .i64 c) := by
  obtain ⟨u0, k00⟩ := k 0 (by omega)
  obtain ⟨u1, k01⟩ := k 1 (by omega)
  obtain ⟨u2, k02⟩ := k 2 (by omega)
  obtain ⟨u3, k03⟩ := k 3 (by omega)
  obtain ⟨u4, k04⟩ := k 4 (by omega)
  obtain ⟨v1, k10⟩ := k1
  obtain ⟨v2, k20⟩ := k2
  refine callsD_of_wpS Try.func90 rfl fun c₀ cs hu => ?_
  apply wpS_seq
  apply wpS_region
  simp [wpOpsS, go_sem, recoverD, hu, Try.ntmps90, Exit.thenS]
  apply wpS_seq
  apply wpS_region
  simp [wpOpsS, go_sem, Exit.thenS]
  refine wpS_cond (t := true) (by simp [Act.eval, Array.replicate]) ?_
  simp only [if_true]
  apply wpS_seq
  apply wpS_region
  have hta : (Instr.typeAssert (.iface 25 (.int .i64 c)) 20 25 true).run Try.prog w = .ok (.tuple #[.int .i64 c, .bool true]) w := by kernel_rfl
  simp [wpOpsS, go_sem, Exit.thenS, hta, recoverD]
  apply wpS_seq
  apply wpS_seq
  apply wpS_region
  simp [wpOpsS, go_sem, Exit.thenS]
  refine wpS_cond (t := false) (by simp [Act.eval, Array.replicate]) ?_
  simp only [Bool.false_eq_true, if_false]
  refine wpS_of_wp (wp_skip ?_)
  simp only [Exit.thenS]
  apply wpS_region
  simp [wpOpsS, go_sem, k00, k01, k02, k03, k04, k10, k20, f0, f1, f2, bodyPostS, results, Try.results90]
  rfl
theorem told_idle (b0 b1 b2 : Nat) (w : World) :
    CallsD Try.prog 90 #[.pointer (some ⟨b0, 0, none⟩), .pointer (some ⟨b1, 0, none⟩), .pointer (some ⟨b2, 0, none⟩)] .returning w fun e u' w' => e = .returned (.tuple #[]) ∧ u' = .returning ∧ w' = w := by
  refine callsD_of_wpS Try.func90 rfl fun c₀ cs hu => ?_
  apply wpS_seq
  apply wpS_region
  simp [wpOpsS, go_sem, recoverD, hu, Try.ntmps90, Exit.thenS]
  apply wpS_seq
  apply wpS_region
  simp [wpOpsS, go_sem, Exit.thenS]
  refine wpS_cond (t := false) (by simp [Act.eval, Array.replicate]) ?_
  simp only [Bool.false_eq_true, if_false]
  refine wpS_of_wp (wp_skip ?_)
  cases c₀
  simp_all [bodyPostS, results, Try.results90]
theorem below_of_grown {w W w1 : World} {blk B : Nat} (h : Below B w W) (hg : W.grownBy w1 (some blk)) (hb : B ≤ blk) (hB : B ≤ W.heap.size) : Below B w w1 :=
  ⟨hg.os.trans h.os, hg.tape.trans h.tape, hg.output.trans h.output, Nat.le_trans h.size hg.size, fun k hk => (hg.block k (by omega) (by simp; omega)).trans (h.block k hk)⟩
theorem below_set {w w1 : World} {B b o : Nat} (h : Below B w w1) (hb : B ≤ b) (v : Value) : Below B w (w1.setCell ⟨b, o, none⟩ v) := h.setCell hb v
theorem idCells_get (l : List Id) (k : Nat) (hk : k < l.length) : (idCells l)[k * 2]? = some (.int .i64 (nth l k).r) ∧ (idCells l)[k * 2 + 1]? = some (.int .i64 (nth l k).n) := by
  induction l generalizing k with
  | nil => simp at hk
  | cons x l ih =>
    cases k with
    | zero => simp [idCells, nth]
    | succ k =>
      have h := ih k (by simpa using hk)
      have e : idCells (x :: l) = .int .i64 x.r :: .int .i64 x.n :: idCells l := by simp [idCells]
      rw [e, show (k + 1) * 2 = k * 2 + 1 + 1 from by omega, show k * 2 + 1 + 1 + 1 = (k * 2 + 1) + 1 + 1 from rfl]
      simpa [nth] using h
theorem ids_of_own {w : World} {base : Nat} {v : Value} {l : List Id} (h : w.ownsRow base 41 2 v l.length (idCells l)) : IdsIn (fun b => base ≤ b) w v l := by
  rcases h.2 with ⟨rfl, h0⟩ | ⟨g, cap, cur, rfl, hg, h1, h2, h3, h4, h5⟩
  · refine ⟨none, 0, by rw [h0], by omega, by decide, fun k hk => by omega⟩
  · refine ⟨some ⟨g, 0, none⟩, cap, rfl, h2, h3, fun k hk => ⟨g, 0, rfl, hg, ?_, ?_, ?_⟩⟩
    · exact (h.lt g rfl).2
    · rw [Nat.zero_add, h.cellAt _ (by omega)]; exact (idCells_get l k hk).1
    · rw [Nat.zero_add, h.cellAt _ (by omega)]; exact (idCells_get l k hk).2
theorem own_below {w w' : World} {base size n : Nat} {e : TypeId} {v : Value} {xs : List Value} (h : w.ownsRow base e size v n xs) (hb : Below w.heap.size w w') : w'.ownsRow base e size v n xs := by
  refine ⟨h.1, ?_⟩
  rcases h.2 with h2 | ⟨g, cap, cur, hv, hg, hh, r⟩
  · exact .inl h2
  · have hlt : g < w.heap.size := by subst hv; exact (h.lt g rfl).2
    exact .inr ⟨g, cap, cur, hv, hg, (hb.block g hlt).trans hh, r⟩
theorem own_set {w : World} {base size n b o : Nat} {e : TypeId} {v : Value} {xs : List Value} (h : w.ownsRow base e size v n xs) (hb : b < base) (u : Value) : (w.setCell ⟨b, o, none⟩ u).ownsRow base e size v n xs := by
  refine ⟨h.1, ?_⟩
  rcases h.2 with h2 | ⟨g, cap, cur, hv, hg, hh, r⟩
  · exact .inl h2
  · exact .inr ⟨g, cap, cur, hv, hg, (Below.heap_setCell _ _ _ _ (by simp; omega)).trans hh, r⟩
theorem own_sets {w : World} {base size n b : Nat} {e : TypeId} {v u0 u1 u2 u3 u4 : Value} {xs : List Value} (h : w.ownsRow base e size v n xs) (hb : b < base) :
    (((((w.setCell ⟨b, 0, none⟩ u0).setCell ⟨b, 1, none⟩ u1).setCell ⟨b, 2, none⟩ u2).setCell ⟨b, 3, none⟩ u3).setCell ⟨b, 4, none⟩ u4).drew.ownsRow base e size v n xs :=
  World.ownsRow.drew (own_set (own_set (own_set (own_set (own_set h hb u0) hb u1) hb u2) hb u3) hb u4)
def onlyNormal (Q : Exit → Act → World → Prop) (e : Exit) (a : Act) (w : World) : Prop :=
  match e with
  | .normal => Q .normal a w
  | _ => False
theorem wp_onlyNormal {P : Program} {c : Code} {Q : Exit → Act → World → Prop} {a : Act} {w : World} (h : c.wp P (onlyNormal Q) a w) : c.wp P Q a w := by
  refine Code.wp_mono (fun e a w h => ?_) h
  cases e <;> first | exact h | exact h.elim
theorem hI_set {w : World} {base b : Nat} {v u0 u1 u2 u3 u4 : Value} {l : List Id} (h : IdsIn (fun b => base ≤ b) w v l) (hb : b < base) :
    IdsIn (fun b => base ≤ b) (((((w.setCell ⟨b, 0, none⟩ u0).setCell ⟨b, 1, none⟩ u1).setCell ⟨b, 2, none⟩ u2).setCell ⟨b, 3, none⟩ u3).setCell ⟨b, 4, none⟩ u4).drew v l := by
  refine h.keep (by simp [World.drew]) fun k hk _ => ?_
  have e : ∀ (W : World) (o : Nat) (u : Value), (W.setCell ⟨b, o, none⟩ u).heap[k]? = W.heap[k]? := fun W o u => Below.heap_setCell _ _ _ _ (by simp; omega)
  rw [heap_drew, e, e, e, e, e]
theorem rdTail_text {x : Id} {c : Int} {r : Except Int (List Id × List UInt8)} {z : Entry} {t' : List UInt8} (h : rdTail x c r = .ok (z, t')) : z.t.size ≤ 255 := by
  unfold rdTail at h
  split at h
  · cases h
  · cases h
  · rename_i l m t
    split at h
    · cases h
    · cases h
      have := m.toNat_lt
      simp only [BA_size, List.length_take]
      omega
theorem rdEntry_text {t : List UInt8} {z : Entry} {t' : List UInt8} (h : rdEntry t = .ok (z, t')) : z.t.size ≤ 255 := by
  unfold rdEntry at h
  split at h
  · cases h
  · cases h
  · cases h
  · exact rdTail_text h
def ToldE (w : World) (r : Except Int (Entry × List UInt8)) (e : Ending) (w' : World) : Prop :=
  match r with
  | .error c => e = .returned (.tuple #[.agg #[.int .i64 0, .int .i64 0, .int .i64 0, .string (BA []), .slice none 0 0], .string (BA []), .int .i64 c]) ∧ Below w.heap.size w w'
  | .ok (x, t) => ∃ lv, e = .returned (.tuple #[.agg #[.int .i64 x.id.r, .int .i64 x.id.n, .int .i64 x.c, .string x.t, lv], .string (BA t), .int .i64 (checkEntry x)]) ∧ Below w.heap.size w w' ∧ w'.ownsRow w.heap.size 41 2 lv x.ls.length (idCells x.ls)
theorem told_end {w w2 : World} {x : Entry} {t' : List UInt8} {v u0 u1 u2 u3 u4 u5 u6 : Value} (hb : Below w.heap.size w w2) (ho : w2.ownsRow (w.heap.size + 1 + 1 + 1 + 1) 41 2 v x.ls.length (idCells x.ls)) :
    ToldE w (.ok (x, t')) (.returned (.tuple #[.agg #[.int .i64 x.id.r, .int .i64 x.id.n, .int .i64 x.c, .string x.t, v], .string (BA t'), .int .i64 (checkEntry x)]))
      (((((((w2.setCell ⟨w.heap.size, 0, none⟩ u0).setCell ⟨w.heap.size, 1, none⟩ u1).setCell ⟨w.heap.size, 2, none⟩ u2).setCell ⟨w.heap.size, 3, none⟩ u3).setCell ⟨w.heap.size, 4, none⟩ u4).setCell ⟨w.heap.size + 1, 0, none⟩ u5).setCell ⟨w.heap.size + 1 + 1, 0, none⟩ u6) := by
  refine ⟨v, rfl, ?_, ?_⟩
  · exact below_set (below_set (below_set (below_set (below_set (below_set (below_set hb (by omega) _) (by omega) _) (by omega) _) (by omega) _) (by omega) _) (by omega) _) (by omega) _
  · refine own_mono (base := w.heap.size + 1 + 1 + 1 + 1) ?_ (by omega)
    exact own_set (own_set (own_set (own_set (own_set (own_set (own_set ho (by omega) _) (by omega) _) (by omega) _) (by omega) _) (by omega) _) (by omega) _) (by omega) _
set_option maxHeartbeats 2000000 in
theorem told_err (t : List UInt8) (c : Int) (w : World) (hr : rdEntry t = .error c) :
    Calls Try.prog 76 #[.string (BA t)] w (ToldE w (rdEntry t)) := by
  have hmf : ∀ (fn : Fn) (first cap : Array Value) (w : World), (Instr.makeFunc fn first cap).run Try.prog w = .ok (.func fn first cap) w := fun _ _ _ _ => rfl
  have HR := Lib.hid hr
  rw [hr]
  clear hr
  go_enter_defers Try.func76, Try.ntmps76
  go_wp2_with fail
  refine (entry_read t (w.heap.size + 1 + 1 + 1) _ (by simp [go_sem]) (by simp [go_sem]) (by simp)).mono ?_
  intro e w1 h
  rw [HR.out] at h
  obtain ⟨rfl, hg⟩ := h
  have hz := hg.size
  simp only [World.size_alloc] at hz
  have b0 := grown_blk hg (b := w.heap.size) (by simp; omega) (by simp; omega)
  have b1 := grown_blk hg (b := w.heap.size + 1) (by simp) (by simp)
  have b2 := grown_blk hg (b := w.heap.size + 1 + 1) (by simp) (by simp)
  have c0 : w1.cell? ⟨w.heap.size, 0, none⟩ = some (.int .i64 0) := by rw [cell_blk b0]; simp [go_sem]
  have c1 : w1.cell? ⟨w.heap.size, 1, none⟩ = some (.int .i64 0) := by rw [cell_blk b0]; simp [go_sem]
  have c2 : w1.cell? ⟨w.heap.size, 2, none⟩ = some (.int .i64 0) := by rw [cell_blk b0]; simp [go_sem]
  have c3 : w1.cell? ⟨w.heap.size, 3, none⟩ = some (.string ⟨#[]⟩) := by rw [cell_blk b0]; simp [go_sem]
  have c4 : w1.cell? ⟨w.heap.size, 4, none⟩ = some (.slice none 0 0) := by rw [cell_blk b0]; simp [go_sem]
  have c5 : w1.cell? ⟨w.heap.size + 1, 0, none⟩ = some (.string ⟨#[]⟩) := by rw [cell_blk b1]; simp [go_sem]
  have c6 : w1.cell? ⟨w.heap.size + 1 + 1, 0, none⟩ = some (.int .i64 0) := by rw [cell_blk b2]; simp [go_sem]
  have d0 : ∀ o, w1.frozen? ⟨w.heap.size, o, none⟩ = false := fun o => by rw [frozen_blk b0]; simp [go_sem]
  have d1 : w1.frozen? ⟨w.heap.size + 1, 0, none⟩ = false := by rw [frozen_blk b1]; simp [go_sem]
  have d2 : w1.frozen? ⟨w.heap.size + 1 + 1, 0, none⟩ = false := by rw [frozen_blk b2]; simp [go_sem]
  go_wp2
  refine leaves_cons (f := 90) (args := #[.pointer (some ⟨w.heap.size, 0, none⟩), .pointer (some ⟨w.heap.size + 1, 0, none⟩), .pointer (some ⟨w.heap.size + 1 + 1, 0, none⟩)]) (by simp) (by simp [go_sem]) ?_
  refine (told_catch w.heap.size (w.heap.size + 1) (w.heap.size + 1 + 1) c _ (fun j hj => ?_) (fun j => ?_) ?_ ?_ ?_ ?_ (by omega) (by omega)).mono ?_
  · match j, hj with
    | 0, _ => exact ⟨_, c0⟩
    | 1, _ => exact ⟨_, c1⟩
    | 2, _ => exact ⟨_, c2⟩
    | 3, _ => exact ⟨_, c3⟩
    | 4, _ => exact ⟨_, c4⟩
  · exact d0 j
  · exact ⟨_, c5⟩
  · exact d1
  · exact ⟨_, c6⟩
  · exact d2
  rintro e u' w'' ⟨rfl, rfl, rfl⟩
  simp [Leaves, settle, results, Try.results76, go_sem, c0, c1, c2, c3, c4, c5, c6]
  have B : Below w.heap.size w w1 := below_of_grown (by (repeat (first | exact Below.refl _ _ | assumption | refine Below.drew ?_ | refine below_drewN ?_ | refine Below.alloc ?_ (by first | (simp; done) | (simp; omega) | omega) _ | refine Below.setCell ?_ (by first | (simp; done) | (simp; omega) | omega) _))) hg (by omega) (by simp; omega)
  refine ⟨rfl, ?_⟩
  exact below_set (below_set (below_set (below_set (below_set (below_set (below_set B (by omega) _) (by omega) _) (by omega) _) (by omega) _) (by omega) _) (by omega) _) (by omega) _
set_option maxHeartbeats 2000000 in
theorem told_ok (t : List UInt8) (x : Entry) (t' : List UInt8) (w : World) (hr : rdEntry t = .ok (x, t')) :
    Calls Try.prog 76 #[.string (BA t)] w (ToldE w (rdEntry t)) := by
  have hmf : ∀ (fn : Fn) (first cap : Array Value) (w : World), (Instr.makeFunc fn first cap).run Try.prog w = .ok (.func fn first cap) w := fun _ _ _ _ => rfl
  have HR := Lib.hid hr
  rw [hr]
  clear hr
  go_enter_defers Try.func76, Try.ntmps76
  go_wp2_with fail
  refine (entry_read t (w.heap.size + 1 + 1 + 1) _ (by simp [go_sem]) (by simp [go_sem]) (by simp)).mono ?_
  intro e w1 h
  rw [HR.out] at h
  obtain ⟨lv, rfl, ⟨hg, hs, hf⟩, ho⟩ := h
  have hz := hg.size
  simp only [World.size_alloc] at hz ho
  have b0 := grown_blk hg (b := w.heap.size) (by simp; omega) (by simp; omega)
  have b1 := grown_blk hg (b := w.heap.size + 1) (by simp) (by simp)
  have b2 := grown_blk hg (b := w.heap.size + 1 + 1) (by simp) (by simp)
  have c0 : w1.cell? ⟨w.heap.size, 0, none⟩ = some (.int .i64 0) := by rw [cell_blk b0]; simp [go_sem]
  have c1 : w1.cell? ⟨w.heap.size, 1, none⟩ = some (.int .i64 0) := by rw [cell_blk b0]; simp [go_sem]
  have c2 : w1.cell? ⟨w.heap.size, 2, none⟩ = some (.int .i64 0) := by rw [cell_blk b0]; simp [go_sem]
  have c3 : w1.cell? ⟨w.heap.size, 3, none⟩ = some (.string ⟨#[]⟩) := by rw [cell_blk b0]; simp [go_sem]
  have c4 : w1.cell? ⟨w.heap.size, 4, none⟩ = some (.slice none 0 0) := by rw [cell_blk b0]; simp [go_sem]
  have c5 : w1.cell? ⟨w.heap.size + 1, 0, none⟩ = some (.string ⟨#[]⟩) := by rw [cell_blk b1]; simp [go_sem]
  have c6 : w1.cell? ⟨w.heap.size + 1 + 1, 0, none⟩ = some (.int .i64 0) := by rw [cell_blk b2]; simp [go_sem]
  have d0 : ∀ o, w1.frozen? ⟨w.heap.size, o, none⟩ = false := fun o => by rw [frozen_blk b0]; simp [go_sem]
  have d1 : w1.frozen? ⟨w.heap.size + 1, 0, none⟩ = false := by rw [frozen_blk b1]; simp [go_sem]
  have d2 : w1.frozen? ⟨w.heap.size + 1 + 1, 0, none⟩ = false := by rw [frozen_blk b2]; simp [go_sem]
  have B : Below w.heap.size w w1 := below_of_grown (by (repeat (first | exact Below.refl _ _ | assumption | refine Below.drew ?_ | refine below_drewN ?_ | refine Below.alloc ?_ (by first | (simp; done) | (simp; omega) | omega) _ | refine Below.setCell ?_ (by first | (simp; done) | (simp; omega) | omega) _))) hg (by omega) (by simp; omega)
  clear b0 b1 b2
  obtain ⟨a, m, rfl⟩ := own_form ho
  have hI := ids_of_own ho
  have HT : x.t.size ≤ maxLen := Nat.le_trans (rdEntry_text HR.out) (by decide)
  have HO := Lib.hid ho
  have HI := Lib.hid hI
  have HTT := Lib.hid HT
  have HG := Lib.hid hg
  clear ho hI HT hg
  have zA : w.heap.size < w1.heap.size := by omega
  have zB : w.heap.size + 1 < w1.heap.size := by omega
  have zC : w.heap.size + 1 + 1 < w1.heap.size := by omega
  have zD : w.heap.size + 1 + 1 + 1 < w1.heap.size := by omega
  go_wp2_with fail
  refine wp_onlyNormal ?_
  (first | go_region_law (go_simp; go_at_call 26; refine (check_calls _ x _ _ (hI_set HI.out (by omega)) HTT.out).mono ?_; rintro e w2 ⟨rfl, hb⟩; obtain ⟨hc, hff⟩ := bcell hb) | fail)
  all_goals
    have O1 := HO.out
    have O2 := own_below (own_sets O1 (by omega)) hb
    have B2 := below_after (w := w) (Below.drew (below_set (below_set (below_set (below_set (below_set B (by omega) _) (by omega) _) (by omega) _) (by omega) _) (by omega) _)) hb
    have BH := Lib.hid B2
    have OH := Lib.hid O2
    have e0 : w2.cell? ⟨w.heap.size, 0, none⟩ = some (.int .i64 x.id.r) := by rw [hc _ _ (by simpa using zA)]; simp [go_sem, c0]
    have e1 : w2.cell? ⟨w.heap.size, 1, none⟩ = some (.int .i64 x.id.n) := by rw [hc _ _ (by simpa using zA)]; simp [go_sem, c1]
    have e2 : w2.cell? ⟨w.heap.size, 2, none⟩ = some (.int .i64 x.c) := by rw [hc _ _ (by simpa using zA)]; simp [go_sem, c2]
    have e3 : w2.cell? ⟨w.heap.size, 3, none⟩ = some (.string x.t) := by rw [hc _ _ (by simpa using zA)]; simp [go_sem, c3]
    have e4 : w2.cell? ⟨w.heap.size, 4, none⟩ = some (.slice a x.ls.length m) := by rw [hc _ _ (by simpa using zA)]; simp [go_sem, c4]
    have e5 : w2.cell? ⟨w.heap.size + 1, 0, none⟩ = some (.string ⟨#[]⟩) := by rw [hc _ _ (by simpa using zB)]; simp [go_sem, c5]
    have e6 : w2.cell? ⟨w.heap.size + 1 + 1, 0, none⟩ = some (.int .i64 0) := by rw [hc _ _ (by simpa using zC)]; simp [go_sem, c6]
    clear hb B B2 O1 O2 hf hs hc hff c0 c1 c2 c3 c4 c5 c6 d0 d1 d2
    simp only [onlyNormal]
    go_wp2
    refine leaves_cons (f := 90) (args := #[.pointer (some ⟨w.heap.size, 0, none⟩), .pointer (some ⟨w.heap.size + 1, 0, none⟩), .pointer (some ⟨w.heap.size + 1 + 1, 0, none⟩)]) (by simp) (by simp [go_sem]) ?_
    refine (told_idle w.heap.size (w.heap.size + 1) (w.heap.size + 1 + 1) _).mono ?_
    rintro e u' w'' ⟨rfl, rfl, rfl⟩
    simp [Leaves, settle, results, Try.results76, go_sem, e0, e1, e2, e3, e4, e5, e6]
    exact told_end BH.out OH.out
theorem told_calls (t : List UInt8) (w : World) : Calls Try.prog 76 #[.string (BA t)] w (ToldE w (rdEntry t)) := by
  cases h : rdEntry t with
  | error c => rw [← h]; exact told_err t c w h
  | ok v => rw [← h]; exact told_ok t v.1 v.2 w h
end Go.Proofs.Ytkibfciheifphaa
/- Walk through Decode: what it answers. -/
namespace Go.Proofs.Ytkibfciheifphaa
set_option linter.unusedSimpArgs false
set_option linter.unusedVariables false
open Go.RowKit
theorem told_walk (t : List UInt8) (w : World) :
    Calls Try.prog 76 #[.string (BA t)] w fun e w' => ∃ a m, e = .returned (.tuple #[.agg #[.int .i64 (toldOut t).1.id.r, .int .i64 (toldOut t).1.id.n, .int .i64 (toldOut t).1.c, .string (toldOut t).1.t, .slice a (toldOut t).1.ls.length m], .string (BA (toldOut t).2.1), .int .i64 (toldOut t).2.2]) ∧
      Below w.heap.size w w' ∧ w'.ownsRow w.heap.size 41 2 (.slice a (toldOut t).1.ls.length m) (toldOut t).1.ls.length (idCells (toldOut t).1.ls) := by
  refine (told_calls t w).mono fun e w' h => ?_
  unfold toldOut
  cases hr : rdEntry t with
  | error c =>
    rw [hr] at h
    exact ⟨none, 0, h.1, h.2, World.ownsRow_nil _ _ _ _⟩
  | ok v =>
    rw [hr] at h
    obtain ⟨lv, he, hb, ho⟩ := h
    obtain ⟨a, m, rfl⟩ := own_form ho
    exact ⟨a, m, he, hb, ho⟩
theorem dec_below {w w1 : World} {u0 u1 u2 u3 u4 : Value} {o : Obj} (hb : Below w.heap.size w w1) :
    Below w.heap.size w ((((((w1.setCell ⟨w.heap.size, 0, none⟩ u0).setCell ⟨w.heap.size, 1, none⟩ u1).setCell ⟨w.heap.size, 2, none⟩ u2).setCell ⟨w.heap.size, 3, none⟩ u3).setCell ⟨w.heap.size, 4, none⟩ u4).alloc o) := by
  have h := below_set (o := 4) (below_set (o := 3) (below_set (o := 2) (below_set (o := 1) (below_set (o := 0) hb (Nat.le_refl _) u0) (Nat.le_refl _) u1) (Nat.le_refl _) u2) (Nat.le_refl _) u3) (Nat.le_refl _) u4
  exact Below.alloc h h.size o
theorem dec_own {w w1 : World} {u0 u1 u2 u3 u4 v : Value} {o : Obj} {n : Nat} {xs : List Value} (h : w1.ownsRow (w.heap.size + 1) 41 2 v n xs) :
    ((((((w1.setCell ⟨w.heap.size, 0, none⟩ u0).setCell ⟨w.heap.size, 1, none⟩ u1).setCell ⟨w.heap.size, 2, none⟩ u2).setCell ⟨w.heap.size, 3, none⟩ u3).setCell ⟨w.heap.size, 4, none⟩ u4).alloc o).ownsRow w.heap.size 41 2 v n xs := by
  have l := Nat.lt_succ_self w.heap.size
  have h := own_set (o := 4) (own_set (o := 3) (own_set (o := 2) (own_set (o := 1) (own_set (o := 0) h l u0) l u1) l u2) l u3) l u4
  exact own_mono (h.alloc o) (Nat.le_succ _)
set_option maxHeartbeats 2000000 in
theorem decode_calls (t : List UInt8) (w : World) (ht : t.length ≤ maxLen) :
    Calls Try.prog 53 #[.string (BA t)] w fun e w' => ∃ lv, e = .returned (.tuple #[.agg #[.int .i64 (decOut t).1.id.r, .int .i64 (decOut t).1.id.n, .int .i64 (decOut t).1.c, .string (decOut t).1.t, lv], .int .i64 (decOut t).2.1, .int .i64 (decOut t).2.2]) ∧
      Below w.heap.size w w' ∧ w'.ownsRow w.heap.size 41 2 lv (decOut t).1.ls.length (idCells (decOut t).1.ls) := by
  have hl := toldOut_len t
  unfold maxLen at ht
  have a1 := BA_size
  have n1 : (0 : Int) ≤ (t.length : Int) - ((toldOut t).2.1.length : Int) := by omega
  have n2 : (t.length : Int) - ((toldOut t).2.1.length : Int) ≤ 9223372036854775807 := by omega
  by_cases h : (toldOut t).2.2 = 0
  · have H : Hid (decOut t = ((toldOut t).1, (t.length : Int) - ((toldOut t).2.1.length : Int), 0)) := by show _ = _; rw [decOut, if_pos h]
    rw [H.out]
    go_enter Try.func53, Try.ntmps53
    go_wp2_with fail
    refine (told_walk t _).mono ?_
    rintro e w1 ⟨a, m, rfl, hb, ho⟩
    rw [h]
    obtain ⟨hc, hff⟩ := bcell hb
    have z0 : w.heap.size < w1.heap.size := by have := hb.size; simp at this; omega
    have z1 : w.heap.size ≠ w1.heap.size := by omega
    have z2 : w1.heap.size ≠ w.heap.size := by omega
    have c0 : w1.cell? ⟨w.heap.size, 0, none⟩ = some (.int .i64 0) := by rw [hc _ _ (by simp)]; simp [go_sem]
    have c1 : w1.cell? ⟨w.heap.size, 1, none⟩ = some (.int .i64 0) := by rw [hc _ _ (by simp)]; simp [go_sem]
    have c2 : w1.cell? ⟨w.heap.size, 2, none⟩ = some (.int .i64 0) := by rw [hc _ _ (by simp)]; simp [go_sem]
    have c3 : w1.cell? ⟨w.heap.size, 3, none⟩ = some (.string ⟨#[]⟩) := by rw [hc _ _ (by simp)]; simp [go_sem]
    have c4 : w1.cell? ⟨w.heap.size, 4, none⟩ = some (.slice none 0 0) := by rw [hc _ _ (by simp)]; simp [go_sem]
    have d0 : ∀ o, w1.frozen? ⟨w.heap.size, o, none⟩ = false := fun o => by rw [hff _ _ (by simp)]; simp [go_sem]
    have B := below_after (w := w) (by (repeat (first | exact Below.refl _ _ | assumption | refine Below.drew ?_ | refine below_drewN ?_ | refine Below.alloc ?_ (by first | (simp; done) | (simp; omega) | omega) _ | refine Below.setCell ?_ (by first | (simp; done) | (simp; omega) | omega) _))) hb
    have BH := Lib.hid B
    have OH := Lib.hid (own_mono ho (base' := w.heap.size + 1) (by simp))
    clear hb ho B hc hff
    go_wp2
    refine bodyPost_ret (v := .tuple #[.agg #[.int .i64 (toldOut t).1.id.r, .int .i64 (toldOut t).1.id.n, .int .i64 (toldOut t).1.c, .string (toldOut t).1.t, .slice a (toldOut t).1.ls.length m], .int .i64 ((t.length : Int) - ((toldOut t).2.1.length : Int)), .int .i64 0]) (by simp [results, Try.results53, go_sem, c0, c1, c2, c3, c4, z0]) rfl ⟨_, rfl, ?_, ?_⟩
    · exact dec_below BH.out
    · exact dec_own OH.out
  · have H : Hid (decOut t = (zeroE, 0, (toldOut t).2.2)) := by show _ = _; rw [decOut, if_neg h]
    have h1 : ((toldOut t).2.2 == 0) = false := by simpa using h
    have h2 : ((toldOut t).2.2 != 0) = true := by simpa using h
    rw [H.out]
    go_enter Try.func53, Try.ntmps53
    go_wp2_with fail
    refine (told_walk t _).mono ?_
    rintro e w1 ⟨a, m, rfl, hb, ho⟩
    obtain ⟨hc, hff⟩ := bcell hb
    have z0 : w.heap.size < w1.heap.size := by have := hb.size; simp at this; omega
    have z1 : w.heap.size ≠ w1.heap.size := by omega
    have z2 : w1.heap.size ≠ w.heap.size := by omega
    have c0 : w1.cell? ⟨w.heap.size, 0, none⟩ = some (.int .i64 0) := by rw [hc _ _ (by simp)]; simp [go_sem]
    have c1 : w1.cell? ⟨w.heap.size, 1, none⟩ = some (.int .i64 0) := by rw [hc _ _ (by simp)]; simp [go_sem]
    have c2 : w1.cell? ⟨w.heap.size, 2, none⟩ = some (.int .i64 0) := by rw [hc _ _ (by simp)]; simp [go_sem]
    have c3 : w1.cell? ⟨w.heap.size, 3, none⟩ = some (.string ⟨#[]⟩) := by rw [hc _ _ (by simp)]; simp [go_sem]
    have c4 : w1.cell? ⟨w.heap.size, 4, none⟩ = some (.slice none 0 0) := by rw [hc _ _ (by simp)]; simp [go_sem]
    have d0 : ∀ o, w1.frozen? ⟨w.heap.size, o, none⟩ = false := fun o => by rw [hff _ _ (by simp)]; simp [go_sem]
    have B := below_after (w := w) (by (repeat (first | exact Below.refl _ _ | assumption | refine Below.drew ?_ | refine below_drewN ?_ | refine Below.alloc ?_ (by first | (simp; done) | (simp; omega) | omega) _ | refine Below.setCell ?_ (by first | (simp; done) | (simp; omega) | omega) _))) hb
    have BH := Lib.hid B
    have OH := Lib.hid (own_mono ho (base' := w.heap.size + 1) (by simp))
    clear hb ho B hc hff
    go_wp2
    refine bodyPost_ret (v := .tuple #[.agg #[.int .i64 0, .int .i64 0, .int .i64 0, .string ⟨#[]⟩, .slice none 0 0], .int .i64 0, .int .i64 (toldOut t).2.2]) (by simp [results, Try.results53, go_sem, c0, c1, c2, c3, c4, z0]) rfl ⟨_, rfl, ?_, ?_⟩
    · exact dec_below BH.out
    · exact World.ownsRow_nil _ _ _ _
end Go.Proofs.Ytkibfciheifphaa
/- Decode, by its hand walk: a contract. -/
namespace Go.Proofs.Ytkibfciheifphaa
open Go.RowKit
theorem ids_rep {S : Nat → Prop} {T : Nat → Nat → Prop} {w : World} {v : Value} {l : List Id} (h : IdsIn S w v l) (hT : ∀ b o, S b → b < w.heap.size → T b o) : RepP T w (.list (l.map cId)) v := by
  obtain ⟨a, c, rfl, h1, h2, h3⟩ := h
  have key : ∀ (k : Nat) row (j : Nat) p, (l.map cId)[k]? = some row → row[j]? = some p → k < l.length ∧ ((j = 0 ∧ p = .int .i64 (nth l k).r) ∨ (j = 1 ∧ p = .int .i64 (nth l k).n)) := by
    intro k row j p hk hj
    obtain ⟨y, hy, rfl⟩ := map_get hk
    have hlt : k < l.length := (List.getElem?_eq_some_iff.1 hy).1
    have : y = nth l k := by have := nth_get? l k hlt; rw [hy] at this; exact Option.some.inj this
    subst this
    refine ⟨hlt, ?_⟩
    match j, hj with
    | 0, hj => simp [cId] at hj; exact .inl ⟨rfl, hj.symm⟩
    | 1, hj => simp [cId] at hj; exact .inr ⟨rfl, hj.symm⟩
    | j + 2, hj => simp [cId] at hj
  have := RepP.list (S := T) (w := w) (l.map cId) a c 2 (fun k j => if j = 0 then .int .i64 (nth l k).r else .int .i64 (nth l k).n) (by simpa using h1) h2 (by omega) (fun row hr => by
    obtain ⟨y, -, rfl⟩ := List.mem_map.1 hr; rfl) (fun k row j p hk hj => by
    obtain ⟨hlt, hp⟩ := key k row j p hk hj
    obtain ⟨b, o, ha, hs, hb, c1, c2⟩ := h3 k hlt
    refine ⟨b, o, ha, hT _ _ hs hb, ?_⟩
    rcases hp with ⟨rfl, -⟩ | ⟨rfl, -⟩
    · simpa using c1
    · simpa using c2) (fun k row j p hk hj => by
    obtain ⟨hlt, hp⟩ := key k row j p hk hj
    rcases hp with ⟨rfl, rfl⟩ | ⟨rfl, rfl⟩
    · exact .int _ _
    · exact .int _ _)
  simpa using this
theorem decode_meets (t : List UInt8) (ht : t.length ≤ maxLen) : Meets Try.prog 53 [.str (BA t)] [] (.tup [.agg (cE (decOut t).1), .int .i64 (decOut t).2.1, .int .i64 (decOut t).2.2]) [] := by
  intro x vs hx hr hp
  obtain ⟨hlen, hp0⟩ := hp
  have hvs : vs = #[.string (BA t)] := by
    cases vs with
    | mk l =>
      match l, hlen with
      | [v], _ =>
        have := hp0 0 _ v rfl rfl
        rw [this.str_inv]
  subst hvs
  refine (decode_calls t x.w0 ht).mono fun e w' ⟨lv, he, hb, ho⟩ => ?_
  subst he
  have hstep : Step x.w0 w' fun _ => False := ⟨hb.size, hb.os, hb.tape, hb.output, fun b h _ => hb.block b h⟩
  obtain ⟨k1, -, -⟩ := hr.grow hstep
  refine ⟨_, x.C0, rfl, k1, ?_⟩
  have hS : ∀ b o, x.w0.heap.size ≤ b → b < w'.heap.size → Stab x x.C0 [] w' b o := fun b o h1 h2 => ⟨.inr (.inl h1), h2, fun id ob h => by simp at h⟩
  have hl := ids_rep (T := Stab x x.C0 [] w') (ids_of_own ho) hS
  have hone : ∃ a c, lv = .slice a (decOut t).1.ls.length c := own_form ho
  refine .tup _ [_, _, _] rfl fun j p u hj hu => ?_
  match j, hj, hu with
  | 0, hj, hu =>
    simp at hj hu
    subst hj; subst hu
    refine .agg (cE (decOut t).1) [_, _, _, _, lv] rfl (fun j y hy => ?_) fun j p y hp hy => ?_
    · obtain ⟨a, c, rfl⟩ := hone
      match j, hy with
      | 0, hy => simp at hy; subst hy; rfl
      | 1, hy => simp at hy; subst hy; rfl
      | 2, hy => simp at hy; subst hy; rfl
      | 3, hy => simp at hy; subst hy; rfl
      | 4, hy => simp at hy; subst hy; rfl
      | j + 5, hy => simp at hy
    · match j, hp, hy with
      | 0, hp, hy => simp [cE] at hp hy; subst hp; subst hy; exact .pure (.int _ _)
      | 1, hp, hy => simp [cE] at hp hy; subst hp; subst hy; exact .pure (.int _ _)
      | 2, hp, hy => simp [cE] at hp hy; subst hp; subst hy; exact .pure (.int _ _)
      | 3, hp, hy => simp [cE] at hp hy; subst hp; subst hy; exact .pure (.str _)
      | 4, hp, hy => simp [cE] at hp hy; subst hp; subst hy; exact .pure hl
      | j + 5, hp, hy => simp at hy
  | 1, hj, hu => simp at hj hu; subst hj; subst hu; exact .pure (.int _ _)
  | 2, hj, hu => simp at hj hu; subst hj; subst hu; exact .pure (.int _ _)
  | j + 3, hj, hu => simp at hu
end Go.Proofs.Ytkibfciheifphaa
/- packet.Decode: one round of its loop. -/
namespace Go.Proofs.Ytkibfciheifphaa
set_option linter.unusedSimpArgs false
set_option linter.unusedVariables false
open Go.RowKit
def hP (c : Int) (v : Nat) (r : List UInt8) (es : List Entry) : List AObj := [.box [.nilsl], .box [.int .i64 c], .box [.arr 4 v], .box [.str (BA r)], .arr v true false 44 5 (es.map cE)]
def lcA : LC := .seq (.reg none [⟨some 5, .alloc [.int .i64 0, .int .i64 0, .int .i64 0, .str ⟨#[]⟩, .nilsl], none, true⟩, ⟨none, .store 5 (.tmp 5) (.tmp 9), none, true⟩]) (.reg none [⟨some 6, .mv (.tmp 10), none, true⟩])
def lcB : LC := .block 1 (.seq (.block 2 (.seq (.reg none [⟨some 12, .mv (.tmp 6), none, true⟩, ⟨some 13, .not (.tmp 12), none, true⟩, ⟨some 11, .mv (.tmp 13), none, true⟩]) (.cond (.tmp 11) (.seq (.reg none [⟨none, .store 1 (.tmp 2) (.val .nilsl), none, true⟩, ⟨none, .store 1 (.tmp 3) (.val (.int .i64 1)), none, true⟩]) .ret)
  (.seq (.reg none [⟨some 15, .load 1 false (.tmp 4), none, true⟩, ⟨some 16, .len false (.tmp 15), none, true⟩, ⟨some 17, .bin .eql (.tmp 16) (.val (.int .i64 40)), none, true⟩, ⟨some 14, .mv (.tmp 17), none, true⟩]) (.cond (.tmp 14) (.seq (.reg none [⟨none, .store 1 (.tmp 2) (.val .nilsl), none, true⟩, ⟨none, .store 1 (.tmp 3) (.val (.int .i64 2)), none, true⟩]) .ret) .skip)))))
  (.reg none [⟨some 18, .load 1 false (.tmp 4), none, true⟩, ⟨some 19, .load 5 true (.tmp 5), none, true⟩, ⟨some 20, .mks 5 [.int .i64 0, .int .i64 0, .int .i64 0, .str ⟨#[]⟩, .nilsl] 1 [(0, .tmp 19)], none, true⟩, ⟨some 21, .append 44 5 64 (.tmp 18) (.tmp 20), none, true⟩, ⟨none, .store 1 (.tmp 4) (.tmp 21), none, true⟩]))
def rcOf (fn : Nat) (tm : Array Value) (cA cB : Code) (D : Nat) (s : LoopState) (p : Option Code) : Loop := { state := s, pending := p, fn, tmps := tm, params := #[9, 10], assign := cA, body := cB, defers := D }
structure Rnd (x : Cx) (B : Nat → Nat) (L D : Nat) (rc : Loop) (c : Int) (r : List UInt8) (es : List Entry) (w : World) : Prop where
  len : es.length ≤ 40
  ex : ∃ C v, HR x C (hP c v r es) w ∧ ∀ i, i < 4 → C.blk i = B i
  L : w.heap[L]? = some (.loop rc)
  D : w.heap[D]? = some (.deferred (some []))
theorem getD_set {tm : Array Value} {k t : Nat} {v : Value} (h : k < tm.size) : (tm.setIfInBounds k v).getD t Go.undef = if t = k then v else tm.getD t Go.undef := by
  by_cases e : t = k
  · subst e; simp [Array.getD, h]
  · rw [if_neg e]
    simp only [Array.getD, Array.size_setIfInBounds]
    split
    · simp only [Array.getInternal_eq_getElem]
      rw [Array.getElem_setIfInBounds_ne _ (Ne.symm e)]
    · rfl
section
variable {x : Cx} {n l : Nat}
def stA0 (b : Bool) (e : Entry) (v : Nat) (r : List UInt8) (es : List Entry) : St := ⟨mkE .top [(10, .bool b), (9, .agg (cE e)), (4, .ptr 2 0), (3, .ptr 1 0), (2, .ptr 0 0)], hP 0 v r es⟩
def stB0 (b : Bool) (e : Entry) (v : Nat) (r : List UInt8) (es : List Entry) : St := ⟨mkE .top [(6, .bool b), (5, .ptr 5 0), (4, .ptr 2 0), (3, .ptr 1 0), (2, .ptr 0 0)], hP 0 v r es ++ [.box (cE e)]⟩
theorem assign_walk (b : Bool) (e : Entry) (v : Nat) (r : List UInt8) (es : List Entry) : WR Try.prog x 23 l n lcA (fun q st => q = .normal ∧ st.heap = hP 0 v r es ++ [.box (cE e)] ∧ st.env 2 = .ptr 0 0 ∧ st.env 3 = .ptr 1 0 ∧ st.env 4 = .ptr 2 0 ∧ st.env 5 = .ptr 5 0 ∧ st.env 6 = .bool b) (stA0 b e v r es) := by
  unfold lcA stA0
  refine WR_seq (WR_reg ?_)
  simp only [go_sem, Nat.reduceLT, Nat.reduceAdd, Nat.reduceEqDiff, Nat.reduceLeDiff, Nat.reduceSub, Nat.reduceMul, Int.reduceEq, eq_self, reduceIte, hP, cE]
  refine WR_reg ?_
  simp only [go_sem, Nat.reduceLT, Nat.reduceAdd, Nat.reduceEqDiff, Nat.reduceLeDiff, Nat.reduceSub, Nat.reduceMul, Int.reduceEq, eq_self, reduceIte]
theorem body_no (e : Entry) (v : Nat) (r : List UInt8) (es : List Entry) : WR Try.prog x 23 l n lcB (fun q st => q = .ret ∧ st.heap = hP 1 v r es ++ [.box (cE e)]) (stB0 false e v r es) := by
  unfold lcB stB0
  refine WR_block (WR_seq (WR_block (WR_seq (WR_reg ?_))))
  simp only [go_sem, Nat.reduceLT, Nat.reduceAdd, Nat.reduceEqDiff, Nat.reduceLeDiff, Nat.reduceSub, Nat.reduceMul, Int.reduceEq, eq_self, reduceIte, hP, cE]
  refine WR_cond (b := true) (by simp [go_sem, Nat.reduceLT, Nat.reduceAdd, Nat.reduceEqDiff, Nat.reduceLeDiff, Nat.reduceSub, Nat.reduceMul, Int.reduceEq, eq_self, reduceIte]) (fun _ => ?_) (fun h => by cases h)
  refine WR_seq (WR_reg ?_)
  simp only [go_sem, Nat.reduceLT, Nat.reduceAdd, Nat.reduceEqDiff, Nat.reduceLeDiff, Nat.reduceSub, Nat.reduceMul, Int.reduceEq, eq_self, reduceIte]
  refine WR_ret ?_
  exact ⟨rfl, rfl⟩
theorem body_many (e : Entry) (v : Nat) (r : List UInt8) (es : List Entry) (h : es.length = 40) : WR Try.prog x 23 l n lcB (fun q st => q = .ret ∧ st.heap = hP 2 v r es ++ [.box (cE e)]) (stB0 true e v r es) := by
  have h' : (es.length : Int) = 40 := by omega
  unfold lcB stB0
  refine WR_block (WR_seq (WR_block (WR_seq (WR_reg ?_))))
  simp only [go_sem, Nat.reduceLT, Nat.reduceAdd, Nat.reduceEqDiff, Nat.reduceLeDiff, Nat.reduceSub, Nat.reduceMul, Int.reduceEq, eq_self, reduceIte, hP, cE]
  refine WR_cond (b := false) (by simp [go_sem, Nat.reduceLT, Nat.reduceAdd, Nat.reduceEqDiff, Nat.reduceLeDiff, Nat.reduceSub, Nat.reduceMul, Int.reduceEq, eq_self, reduceIte]) (fun h => by cases h) (fun _ => ?_)
  refine WR_seq (WR_reg ?_)
  simp only [go_sem, Nat.reduceLT, Nat.reduceAdd, Nat.reduceEqDiff, Nat.reduceLeDiff, Nat.reduceSub, Nat.reduceMul, Int.reduceEq, eq_self, reduceIte, h']
  refine WR_cond (b := true) (by simp [go_sem, Nat.reduceLT, Nat.reduceAdd, Nat.reduceEqDiff, Nat.reduceLeDiff, Nat.reduceSub, Nat.reduceMul, Int.reduceEq, eq_self, reduceIte]) (fun _ => ?_) (fun h => by cases h)
  refine WR_seq (WR_reg ?_)
  simp only [go_sem, Nat.reduceLT, Nat.reduceAdd, Nat.reduceEqDiff, Nat.reduceLeDiff, Nat.reduceSub, Nat.reduceMul, Int.reduceEq, eq_self, reduceIte]
  refine WR_ret ?_
  exact ⟨rfl, rfl⟩
theorem body_ok (e : Entry) (v : Nat) (r : List UInt8) (es : List Entry) (h : es.length ≠ 40) (hl : es.length ≤ 40) : WR Try.prog x 23 l n lcB (fun q st => q = .normal ∧ st.heap = hP 0 (v + 1) r (es ++ [e]) ++ [.box (cE e)]) (stB0 true e v r es) := by
  have h' : ¬ (es.length : Int) = 40 := by omega
  unfold lcB stB0
  refine WR_block (WR_seq (WR_block (WR_seq (WR_reg ?_))))
  simp only [go_sem, Nat.reduceLT, Nat.reduceAdd, Nat.reduceEqDiff, Nat.reduceLeDiff, Nat.reduceSub, Nat.reduceMul, Int.reduceEq, eq_self, reduceIte, hP, cE]
  refine WR_cond (b := false) (by simp [go_sem, Nat.reduceLT, Nat.reduceAdd, Nat.reduceEqDiff, Nat.reduceLeDiff, Nat.reduceSub, Nat.reduceMul, Int.reduceEq, eq_self, reduceIte]) (fun h => by cases h) (fun _ => ?_)
  refine WR_seq (WR_reg ?_)
  simp only [go_sem, Nat.reduceLT, Nat.reduceAdd, Nat.reduceEqDiff, Nat.reduceLeDiff, Nat.reduceSub, Nat.reduceMul, Int.reduceEq, eq_self, reduceIte, h']
  refine WR_cond (b := false) (by simp [go_sem, Nat.reduceLT, Nat.reduceAdd, Nat.reduceEqDiff, Nat.reduceLeDiff, Nat.reduceSub, Nat.reduceMul, Int.reduceEq, eq_self, reduceIte]) (fun h => by cases h) (fun _ => ?_)
  refine WR_skip ?_
  refine WR_reg ?_
  simp only [go_sem, Nat.reduceLT, Nat.reduceAdd, Nat.reduceEqDiff, Nat.reduceLeDiff, Nat.reduceSub, Nat.reduceMul, Int.reduceEq, eq_self, reduceIte]
  rw [app_arr rfl rfl (by simp) (by simp; omega)]
  simp only [go_sem, Nat.reduceLT, Nat.reduceAdd, Nat.reduceEqDiff, Nat.reduceLeDiff, Nat.reduceSub, Nat.reduceMul, Int.reduceEq, eq_self, reduceIte]
  simp [cE]
end
end Go.Proofs.Ytkibfciheifphaa
/- packet.Decode: a round, as yield answers it. -/
namespace Go.Proofs.Ytkibfciheifphaa
open Go.RowKit
section
variable {x : Cx} {n : Nat} {B : Nat → Nat} {L D fn : Nat} {tm : Array Value} {cA cB : Code}
theorem Rnd.back (hx : x.H0 = []) {C : Conc} {w : World} {c : Int} {v : Nat} {r : List UInt8} {es : List Entry} {e : Entry} (hr : HR x C (hP c v r es ++ [.box (cE e)]) w) (hb : ∀ i, i < 4 → C.blk i = B i) : ∃ C v, HR x C (hP c v r es) w ∧ ∀ i, i < 4 → C.blk i = B i := by
  obtain ⟨k1, -⟩ := hr.restrict (ks := List.range 5) List.nodup_range (fun k hk => by have := List.mem_range.1 hk; simp [hP]; omega) (fun i hi => by rw [hx] at hi; simp at hi)
  have hs : subHeap (pos (List.range 5)) (frzAt true (hP c v r es ++ [.box (cE e)])) (hP c v r es ++ [.box (cE e)]) (List.range 5) = hP c v r es := by
    simp [subHeap, renObj, renCell, renLeaf, pos, List.range_succ, hP]
  rw [hs] at k1
  refine ⟨_, v, k1, fun i hi => ?_⟩
  show C.blk ((List.range 5).getD i 0) = B i
  rw [show (List.range 5).getD i 0 = i by rw [getD_of (List.getElem?_range (by omega))]]
  exact hb i hi
theorem round_in (hx : x.H0 = []) (hA : lowerCode Try.prog 23 cA = some lcA) (hB : lowerCode Try.prog 23 cB = some lcB) (htm : tm.size = 23)
    (h2 : tm.getD 2 Go.undef = .pointer (some ⟨B 0, 0, none⟩)) (h3 : tm.getD 3 Go.undef = .pointer (some ⟨B 1, 0, none⟩)) (h4 : tm.getD 4 Go.undef = .pointer (some ⟨B 2, 0, none⟩)) (hL : x.w0.heap.size ≤ L)
    {r : List UInt8} {es : List Entry} {w : World} {C : Conc} {v : Nat} (hle : es.length ≤ 40) (hr : HR x C (hP 0 v r es) w) (hb : ∀ i, i < 4 → C.blk i = B i) (hLw : w.heap[L]? = some (.loop (rcOf fn tm cA cB D .ready none))) (hDw : w.heap[D]? = some (.deferred (some []))) {e : Entry} {b : Bool} {ve : Value}
    (hve : RepV (Stab x C (hP 0 v r es) w) w C (.agg (cE e)) ve) :
    RoundIn Fence.wide n Try.prog L fn ((tm.setIfInBounds 9 ve).setIfInBounds 10 (.bool b)) cA cB w (fun en w' => (en = .returned (.bool true) ∧ b = true ∧ es.length ≠ 40 ∧ Rnd x B L D (rcOf fn tm cA cB D .ready none) 0 r (es ++ [e]) w') ∨
      (en = .returned (.bool false) ∧ ∃ c : Int, ((b = false ∧ c = 1) ∨ (b = true ∧ es.length = 40 ∧ c = 2)) ∧ Rnd x B L D (rcOf fn tm cA cB D .done (some .ret)) c r es w')) := by
  have hLD : D ≠ L := fun h => by rw [h, hLw] at hDw; cases hDw
  have hLlt : L < w.heap.size := (Array.getElem?_eq_some_iff.1 hLw).1
  have hDlt : D < w.heap.size := (Array.getElem?_eq_some_iff.1 hDw).1
  have hn : C.n = 5 := hr.n
  obtain ⟨hr1, hm1⟩ := hr.root
  have hrel : Rel (rootCx x C (hP 0 v r es) w) 23 (stA0 b e v r es) { tmps := (tm.setIfInBounds 9 ve).setIfInBounds 10 (.bool b), defers := [] } w := by
    refine ⟨⟨C, hr1, fun t => ?_⟩, rfl, by simp [htm]⟩
    simp only [stA0, mkE]
    rw [getD_set (by simp [htm]), getD_set (by simp [htm])]
    by_cases t10 : 10 = t
    · rw [if_pos t10, if_pos t10.symm]; exact .pure (.bool b)
    · rw [if_neg t10, if_neg (Ne.symm t10)]
      by_cases t9 : 9 = t
      · rw [if_pos t9, if_pos t9.symm]; exact hm1 _ _ hve
      · rw [if_neg t9, if_neg (Ne.symm t9)]
        by_cases t4 : 4 = t
        · rw [if_pos t4, ← t4, h4, ← hb 2 (by omega)]; exact .ptr 2 0 (by omega)
        · rw [if_neg t4]
          by_cases t3 : 3 = t
          · rw [if_pos t3, ← t3, h3, ← hb 1 (by omega)]; exact .ptr 1 0 (by omega)
          · rw [if_neg t3]
            by_cases t2 : 2 = t
            · rw [if_pos t2, ← t2, h2, ← hb 0 (by omega)]; exact .ptr 0 0 (by omega)
            · rw [if_neg t2]; exact .any
  refine roundIn_of_wpIn trivial (wpIn_mono (assign_walk (l := L) (n := n) b e v r es cA hA _ _ hrel) fun q a1 w1 hq => ?_)
  cases q <;> simp only [postOf] at hq
  case normal =>
    obtain ⟨st1, ⟨-, q1, q2, q3, q4, q5, q6⟩, ⟨C1, hr2, he1⟩, hdf1, hsz1⟩ := hq
    have ids1 : ∀ i, i < 5 → C1.blk i = C.blk i := fun i hi => hr2.ids i hi
    rw [q1] at hr2 he1
    obtain ⟨hr3, hm3, hf3⟩ := hr.unroot hr2
    have hL1 : w1.heap[L]? = some (.loop (rcOf fn tm cA cB D .ready none)) := (hf3 L hLlt fun i ob hi => hr.notHeld (fun cs T f h => by rw [hLw] at h; cases h) hi).trans hLw
    have hD1 : w1.heap[D]? = some (.deferred (some [])) := (hf3 D hDlt fun i ob hi => hr.notHeld (fun cs T f h => by rw [hDw] at h; cases h) hi).trans hDw
    refine ⟨_, run_beginRound hL1 rfl, ?_⟩
    obtain ⟨hr4, hm4⟩ := hr3.loop (r' := { rcOf fn tm cA cB D .ready none with state := .busy }) hL1 hL
    have hL1lt : L < w1.heap.size := (Array.getElem?_eq_some_iff.1 hL1).1
    have hL2 : (w1.putObj L (.loop { rcOf fn tm cA cB D .ready none with state := .busy })).heap[L]? = some (.loop { rcOf fn tm cA cB D .ready none with state := .busy }) := World.putObj_heap_same hL1lt
    have hD2 : (w1.putObj L (.loop { rcOf fn tm cA cB D .ready none with state := .busy })).heap[D]? = some (.deferred (some [])) := (World.putObj_heap_other hLD).trans hD1
    generalize w1.putObj L (.loop { rcOf fn tm cA cB D .ready none with state := .busy }) = w2 at *
    obtain ⟨hr5, hm5⟩ := hr4.root
    have hL2lt : L < w2.heap.size := (Array.getElem?_eq_some_iff.1 hL2).1
    have hD2lt : D < w2.heap.size := (Array.getElem?_eq_some_iff.1 hD2).1
    have hrel2 : Rel (rootCx x C1 (hP 0 v r es ++ [.box (cE e)]) w2) 23 (stB0 b e v r es) a1 w2 := by
      refine ⟨⟨C1, hr5, fun t => ?_⟩, hdf1, hsz1⟩
      have tr : ∀ p u, RepV (Stab (rootCx x C (hP 0 v r es) w) C1 (hP 0 v r es ++ [.box (cE e)]) w1) w1 C1 p u → RepV (Stab (rootCx x C1 (hP 0 v r es ++ [.box (cE e)]) w2) C1 (hP 0 v r es ++ [.box (cE e)]) w2) w2 C1 p u := fun p u h => hm5 _ _ (hm4 _ _ (hm3 _ _ h))
      simp only [stB0, mkE]
      by_cases t6 : 6 = t
      · rw [if_pos t6, ← t6]; have := he1 6; rw [q6] at this; exact tr _ _ this
      · rw [if_neg t6]
        by_cases t5 : 5 = t
        · rw [if_pos t5, ← t5]; have := he1 5; rw [q5] at this; exact tr _ _ this
        · rw [if_neg t5]
          by_cases t4 : 4 = t
          · rw [if_pos t4, ← t4]; have := he1 4; rw [q4] at this; exact tr _ _ this
          · rw [if_neg t4]
            by_cases t3 : 3 = t
            · rw [if_pos t3, ← t3]; have := he1 3; rw [q3] at this; exact tr _ _ this
            · rw [if_neg t3]
              by_cases t2 : 2 = t
              · rw [if_pos t2, ← t2]; have := he1 2; rw [q2] at this; exact tr _ _ this
              · rw [if_neg t2]; exact .any
    have fin : ∀ {c : Int} {v' : Nat} {es' : List Entry} {a3 : Act} {w3 : World} {st3 : St} (jump : Option Code), st3.heap = hP c v' r es' ++ [.box (cE e)] → es'.length ≤ 40 → Rel (rootCx x C1 (hP 0 v r es ++ [.box (cE e)]) w2) 23 st3 a3 w3 →
        ∃ w4, (Instr.endRound L jump).run Try.prog w3 = .ok (.bool jump.isNone) w4 ∧ Rnd x B L D (rcOf fn tm cA cB D (if jump.isNone then .ready else .done) jump) c r es' w4 := by
      intro c v' es' a3 w3 st3 jump hst hlen ⟨⟨C5, hr6, _⟩, _, _⟩
      have ids5 : ∀ i, i < 6 → C5.blk i = C1.blk i := fun i hi => hr6.ids i hi
      rw [hst] at hr6
      obtain ⟨hr7, -, hf7⟩ := hr4.unroot hr6
      have hL3 : w3.heap[L]? = some (.loop { rcOf fn tm cA cB D .ready none with state := .busy }) := (hf7 L hL2lt fun i ob hi => hr4.notHeld (fun cs T f h => by rw [hL2] at h; cases h) hi).trans hL2
      have hD3 : w3.heap[D]? = some (.deferred (some [])) := (hf7 D hD2lt fun i ob hi => hr4.notHeld (fun cs T f h => by rw [hD2] at h; cases h) hi).trans hD2
      have hL3lt : L < w3.heap.size := (Array.getElem?_eq_some_iff.1 hL3).1
      obtain ⟨hr8, -⟩ := hr7.loop (r' := rcOf fn tm cA cB D (if jump.isNone then .ready else .done) jump) hL3 hL
      refine ⟨_, run_endRound jump hL3, hlen, Rnd.back hx hr8 (fun i hi => by rw [ids5 i (by omega), ids1 i (by omega), hb i hi]), World.putObj_heap_same hL3lt, (World.putObj_heap_other hLD).trans hD3⟩
    cases b with
    | false =>
      refine wpIn_mono (body_no (l := L) (n := n) e v r es cB hB _ _ hrel2) fun q a3 w3 hq => ?_
      cases q <;> simp only [postOf] at hq
      case ret =>
        obtain ⟨st3, ⟨-, hst⟩, hrel3⟩ := hq
        obtain ⟨w4, g1, g2⟩ := fin (some .ret) hst hle hrel3
        exact ⟨_, w4, g1, .inr ⟨rfl, 1, .inl ⟨rfl, rfl⟩, g2⟩⟩
      all_goals first | exact hq.elim | (obtain ⟨_, ⟨h, _⟩, _⟩ := hq; cases h)
    | true =>
      by_cases h40 : es.length = 40
      · refine wpIn_mono (body_many (l := L) (n := n) e v r es h40 cB hB _ _ hrel2) fun q a3 w3 hq => ?_
        cases q <;> simp only [postOf] at hq
        case ret =>
          obtain ⟨st3, ⟨-, hst⟩, hrel3⟩ := hq
          obtain ⟨w4, g1, g2⟩ := fin (some .ret) hst hle hrel3
          exact ⟨_, w4, g1, .inr ⟨rfl, 2, .inr ⟨rfl, h40, rfl⟩, g2⟩⟩
        all_goals first | exact hq.elim | (obtain ⟨_, ⟨h, _⟩, _⟩ := hq; cases h)
      · refine wpIn_mono (body_ok (l := L) (n := n) e v r es h40 hle cB hB _ _ hrel2) fun q a3 w3 hq => ?_
        cases q <;> simp only [postOf] at hq
        case normal =>
          obtain ⟨st3, ⟨-, hst⟩, hrel3⟩ := hq
          obtain ⟨w4, g1, g2⟩ := fin none hst (by simp; omega) hrel3
          exact ⟨_, w4, g1, .inl ⟨rfl, rfl, h40, g2⟩⟩
        all_goals first | exact hq.elim | (obtain ⟨_, ⟨h, _⟩, _⟩ := hq; cases h)
  all_goals first | exact hq.elim | (obtain ⟨_, ⟨h, _⟩, _⟩ := hq; cases h)
end
end Go.Proofs.Ytkibfciheifphaa
/- What is wrong with an entry, in the law text's words: a contract. -/
namespace Go.Proofs.Ytkibfciheifphaa
set_option linter.unusedSimpArgs false
set_option linter.unusedVariables false
open Go.RowKit
end Go.Proofs.Ytkibfciheifphaa
/- An entry out of bytes, in the law text's words: a contract. -/
namespace Go.Proofs.Ytkibfciheifphaa
set_option linter.unusedSimpArgs false
set_option linter.unusedVariables false
open Go.RowKit
theorem BA_extract (t : List UInt8) (a b : Nat) : (BA t).extract a b = BA ((t.drop a).take (b - a)) := by
  apply ByteArray.ext
  simp [BA, ByteArray.data_extract]
end Go.Proofs.Ytkibfciheifphaa
/- packet.Decode: what its iterator does. -/
namespace Go.Proofs.Ytkibfciheifphaa
open Go.RowKit
def pkOut : Nat → List UInt8 → List Entry → List Entry × Int
  | 0, _, es => (es, 0)
  | f + 1, r, es => if r = [] then (es, 0) else if (decOut r).2.2 ≠ 0 then ([], 1) else if es.length = 40 then ([], 2) else pkOut f (r.drop (decOut r).2.1.toNat) (es ++ [(decOut r).1])
theorem rdEntry_lt {t : List UInt8} {x : Entry} {r : List UInt8} (h : rdEntry t = .ok (x, r)) : r.length < t.length := by
  unfold rdEntry at h
  split at h
  · cases h
  · cases h
  · cases h
  · rename_i y c n u hx
    obtain ⟨l, v, hv, hr⟩ := rdTail_len h
    have := rdId_len hx
    have := (rdIds_len hv).1
    simp at *
    omega
theorem rdId_err {t : List UInt8} {c : Int} (h : rdId t = .error c) : c ≠ 0 := by
  match t, h with
  | [], h => simp [rdId] at h; omega
  | [a], h => simp only [rdId] at h; split at h <;> (cases h; decide)
  | a :: b :: t, h => simp only [rdId] at h; split at h <;> cases h; decide
theorem rdIds_err : ∀ {n : Nat} {t : List UInt8} {c : Int}, rdIds n t = .error c → c ≠ 0
  | 0, t, c, h => by cases h
  | n + 1, t, c, h => by
    rw [rdIds] at h
    cases h1 : rdId t with
    | error d => rw [h1] at h; cases h; exact rdId_err h1
    | ok v =>
      rw [h1] at h
      simp only at h
      cases h2 : rdIds n v.2 with
      | error d => rw [h2] at h; cases h; exact rdIds_err h2
      | ok u => rw [h2] at h; cases h
theorem rdEntry_err {t : List UInt8} {c : Int} (h : rdEntry t = .error c) : c ≠ 0 := by
  unfold rdEntry at h
  split at h
  · rename_i d hd; cases h; exact rdId_err hd
  · cases h; decide
  · cases h; decide
  · rename_i x y n u hx
    cases hv : rdIds n.toNat u with
    | error d => rw [hv] at h; cases h; exact rdIds_err hv
    | ok v =>
      rw [hv] at h
      unfold rdTail at h
      split at h
      · rename_i e; cases e
      · cases h; decide
      · split at h
        · cases h; decide
        · cases h
theorem dec_adv {r : List UInt8} (h : (decOut r).2.2 = 0) : ∃ m : Nat, (decOut r).2.1 = m ∧ 0 < m ∧ m ≤ r.length := by
  by_cases h0 : (toldOut r).2.2 = 0
  · have h1 : (decOut r).2.1 = (r.length : Int) - ((toldOut r).2.1.length : Int) := by rw [decOut, if_pos h0]
    have h2 : (toldOut r).2.1.length < r.length := by
      cases hr : rdEntry r with
      | error c =>
        exfalso
        have : (toldOut r).2.2 = c := by simp [toldOut, hr]
        rw [this] at h0
        exact rdEntry_err hr h0
      | ok v => 
        have : (toldOut r).2.1 = v.2 := by simp [toldOut, hr]
        rw [this]
        exact rdEntry_lt (x := v.1) (r := v.2) hr
    exact ⟨r.length - (toldOut r).2.1.length, by rw [h1]; omega, by omega, by omega⟩
  · rw [decOut, if_neg h0] at h
    exact (h0 h).elim
theorem pkOut_fuel : ∀ (f : Nat) (r : List UInt8) (es : List Entry), r.length ≤ f → pkOut f r es = pkOut r.length r es
  | 0, r, es, h => by rw [Nat.le_zero.1 h]
  | f + 1, [], es, h => by simp [pkOut]
  | f + 1, a :: r, es, h => by
    rw [List.length_cons, pkOut, pkOut]
    by_cases h1 : (decOut (a :: r)).2.2 = 0
    · obtain ⟨m, e, m0, m1⟩ := dec_adv h1
      rw [e, Int.toNat_natCast]
      have hd : ((a :: r).drop m).length ≤ r.length := by rw [List.length_drop, List.length_cons]; omega
      rw [pkOut_fuel f _ _ (by simp only [List.length_cons] at h; omega), pkOut_fuel r.length _ _ hd]
    · simp [h1]
theorem pkOut_bad {r : List UInt8} {es : List Entry} (h : r ≠ []) (h1 : (decOut r).2.2 ≠ 0) : pkOut r.length r es = ([], 1) := by
  cases r with
  | nil => exact (h rfl).elim
  | cons a r => rw [List.length_cons, pkOut, if_neg (by simp), if_pos h1]
theorem pkOut_many {r : List UInt8} {es : List Entry} (h : r ≠ []) (h1 : (decOut r).2.2 = 0) (h2 : es.length = 40) : pkOut r.length r es = ([], 2) := by
  cases r with
  | nil => exact (h rfl).elim
  | cons a r => rw [List.length_cons, pkOut, if_neg (by simp), if_neg (by simp [h1]), if_pos h2]
theorem pkOut_step {r : List UInt8} {es : List Entry} {m : Nat} (h : r ≠ []) (h1 : (decOut r).2.2 = 0) (h2 : es.length ≠ 40) (hm : (decOut r).2.1 = m) : pkOut r.length r es = pkOut (r.drop m).length (r.drop m) (es ++ [(decOut r).1]) := by
  cases r with
  | nil => exact (h rfl).elim
  | cons a r =>
    obtain ⟨m', e, m0, m1⟩ := dec_adv h1
    have : m' = m := by rw [e] at hm; exact Int.ofNat.inj hm
    subst this
    have hd : ((a :: r).drop m').length ≤ r.length := by rw [List.length_drop, List.length_cons]; omega
    rw [← pkOut_fuel r.length _ _ hd, List.length_cons, pkOut, if_neg (by simp), if_neg (by simp [h1]), if_neg h2, e, Int.toNat_natCast]
end Go.Proofs.Ytkibfciheifphaa
/- packet.Decode: its iterator, walked. -/
namespace Go.Proofs.Ytkibfciheifphaa
set_option linter.unusedSimpArgs false
set_option linter.unusedVariables false
open Go.RowKit
theorem BA_nil_iff (r : List UInt8) : (BA r = ⟨#[]⟩) = (r = []) := by
  apply propext
  constructor
  · intro h
    have := congrArg (fun b : ByteArray => b.size) h
    rw [BA_size] at this
    exact List.length_eq_zero_iff.1 this
  · rintro rfl; rfl
section
variable {P : Program} {x : Cx} {nt n : Nat} {st : St}
theorem lower_mv {op : Op} {t : Nat} (hl : lowerOp P op = some (.mv (.tmp t))) : op = .move (.tmp t) ∨ op = .assign (.tmp t) := by
  have key : ∀ X : Operand, (lopd X).map LOp.mv = some (.mv (.tmp t)) → X = .tmp t := by
    intro X h
    cases X with
    | tmp t' => simp [lopd] at h; rw [h]
    | const v => simp [lopd] at h
    | func f => simp [lopd] at h
    | global g => simp [lopd] at h
  cases op <;> simp only [lowerOp, reduceCtorEq] at hl
  case move X => exact .inl (by rw [key X hl])
  case assign X => exact .inr (by rw [key X hl])
  all_goals (revert hl; (repeat' split) <;> first | (intro h; cases h; done) | (rename_i e; cases e; done) | simp_all)
theorem mv_step {ops : Array Oper} {o : Oper} {rest : List Oper} {so : Bool} {d t : Nat} {a : Act} {w : World} {Q : Exit → Act → World → Prop} (hl : lowerOper P nt ops o = some ⟨some d, .mv (.tmp t), none, so⟩) (h : wpListIn Fence.wide n P ops Q rest (a.put (some d) (a.tmps.getD t Go.undef)) w) : wpListIn Fence.wide n P ops Q (o :: rest) a w := by
  unfold lowerOper at hl
  split at hl <;> try (cases hl; done)
  rename_i lop hop
  split at hl <;> try (cases hl; done)
  split at hl
  · rename_i hg
    simp only [Option.some.injEq, LOper.mk.injEq] at hl
    obtain ⟨e1, e2, -, -⟩ := hl
    rw [e2] at hop
    unfold wpListIn
    rw [if_pos (by simp [Region.wanted, hg])]
    refine ⟨fun f _ => trivial, ?_⟩
    rw [show Fence.wide.round = none from rfl, Oper.semAt_none]
    have hrun : (execOp a.eval o).run P w = .ok (.value (a.tmps.getD t Go.undef)) w := by
      rcases lower_mv hop with ho | ho
      · simp only [execOp, ho, Sem.run_pure]; rfl
      · simp only [execOp, ho, Sem.run_pure]; rfl
    rw [hrun]
    show wpListIn Fence.wide n P ops Q rest (a.put o.dst _) w
    rw [e1]
    exact h
  · split at hl <;> try (cases hl; done)
    split at hl <;> try (cases hl; done)
    simp at hl
theorem put_getD {a : Act} {d : Option Nat} {v : Value} {t : Nat} (h : d ≠ some t) : (a.put d v).tmps.getD t Go.undef = a.tmps.getD t Go.undef := by
  cases d with
  | none => rfl
  | some k =>
    have hk : k ≠ t := fun e => h (by rw [e])
    show (a.tmps.setIfInBounds k v).getD t Go.undef = _
    by_cases hlt : k < a.tmps.size
    · rw [getD_set hlt, if_neg (Ne.symm hk)]
    · rw [Array.setIfInBounds_eq_of_size_le (by omega)]
theorem keep1 {lops : List LOper} {t : Nat} {u : Value} (h : lops.all (fun o => o.dst != some t) = true) : ∀ o ∈ lops, ∀ v (a : Act), a.tmps.getD t Go.undef = u → (a.put o.dst v).tmps.getD t Go.undef = u := fun o ho v a hu => by
  have := List.all_eq_true.1 h o ho
  rw [put_getD (by simpa using this)]
  exact hu
theorem keep2 {lops : List LOper} {t s : Nat} {u : Value} (h : lops.all (fun o => o.dst != some t && o.dst != some s) = true) : ∀ o ∈ lops, ∀ v (a : Act), (a.tmps.getD t Go.undef = u ∧ a.tmps.getD s Go.undef = u) → (a.put o.dst v).tmps.getD t Go.undef = u ∧ (a.put o.dst v).tmps.getD s Go.undef = u := fun o ho v a hu => by
  have h1 := List.all_eq_true.1 h o ho
  simp only [Bool.and_eq_true, bne_iff_ne] at h1
  rw [put_getD h1.1, put_getD h1.2]
  exact hu
theorem lowerOper_none {ops : Array Oper} {o : Oper} {d : Option Nat} {lop : LOp} {so : Bool} (hl : lowerOper P nt ops o = some ⟨d, lop, none, so⟩) : o.dst = d ∧ lowerOp P o.op = some lop ∧ o.guard = none := by
  unfold lowerOper at hl
  split at hl <;> try (cases hl; done)
  rename_i lop' hop
  split at hl <;> try (cases hl; done)
  split at hl
  · rename_i hg
    simp only [Option.some.injEq, LOper.mk.injEq] at hl
    obtain ⟨e1, e2, -, -⟩ := hl
    exact ⟨e1, by rw [hop, e2], hg⟩
  · split at hl <;> try (cases hl; done)
    split at hl <;> try (cases hl; done)
    all_goals simp at hl
theorem lowerList_one {ops : Array Oper} {os : List Oper} {lo : LOper} (h : lowerList P nt ops os = some [lo]) : ∃ o, os = [o] ∧ lowerOper P nt ops o = some lo := by
  cases os with
  | nil => simp [lowerList] at h
  | cons o os =>
    simp only [lowerList] at h
    split at h <;> try (cases h; done)
    rename_i lo' r h1 h2
    simp only [Option.some.injEq, List.cons.injEq] at h
    obtain ⟨rfl, rfl⟩ := h
    cases os with
    | nil => exact ⟨o, rfl, h1⟩
    | cons o2 os =>
      exfalso
      simp only [lowerList] at h2
      split at h2 <;> cases h2
theorem op_step {ops : Array Oper} {o : Oper} {rest : List Oper} {a : Act} {w : World} {Q : Exit → Act → World → Prop} (hg : o.guard = none) (h : o.wpIn Fence.wide n P a w (wpListIn Fence.wide n P ops Q rest) Q) : wpListIn Fence.wide n P ops Q (o :: rest) a w := by
  unfold wpListIn
  rw [if_pos (by simp [Region.wanted, hg])]
  exact h
theorem list_to {ops : Array Oper} {os : List Oper} {lops : List LOper} {K : St → Prop} {a : Act} {w : World} {Φ : Array Value → Prop} {Q : Exit → Act → World → Prop} (hlow : lowerList P nt ops os = some lops) (h : WOps P lops K st) (hrel : Rel x nt st a w)
    (hd : ∀ o ∈ lops, ∀ v (a : Act), Φ a.tmps → Φ (a.put o.dst v).tmps) (hu : Φ a.tmps) (hk : ∀ st' a' w', K st' → Rel x nt st' a' w' → Φ a'.tmps → Q .normal a' w') : wpListIn Fence.wide n P ops Q os a w := by
  have h4 := listIn_app (n := n) (P := P) (F := Fence.wide) (ops := ops) (Q := Q) (K := fun a' w' => (∃ st', K st' ∧ Rel x nt st' a' w') ∧ Φ a'.tmps) os [] a w (list_in (n := n) hlow h hrel hd hu) (fun a w ⟨⟨st', g1, g2⟩, g3⟩ => hk st' a w g1 g2 g3)
  rwa [List.append_nil] at h4
theorem rel_less {st' : St} {a : Act} {w : World} (hh : st.heap = st'.heap) (he : ∀ t, st'.env t = .top ∨ st'.env t = st.env t) (hrel : Rel x nt st a w) : Rel x nt st' a w := by
  obtain ⟨⟨C, hr1, h1⟩, hdf, hsz⟩ := hrel
  refine ⟨⟨C, hh ▸ hr1, fun t => ?_⟩, hdf, hsz⟩
  rcases he t with e | e
  · rw [e]; exact .any
  · rw [e, ← hh]; exact h1 t
theorem rel_mv {a : Act} {w : World} {d : Nat} {v : Value} (hd : d < nt) (hrel : Rel x nt st a w) : Rel x nt (st.put (some d) .top st.heap) (a.put (some d) v) w := by
  obtain ⟨⟨C, hr1, he⟩, hdf, hsz⟩ := hrel
  exact rel_put hsz hdf hr1 he (fun _ _ h => h) .any (fun t h => by cases h; exact hd)
end
section
variable {x : Cx} {n : Nat} {B : Nat → Nat} {L D fn : Nat} {tm : Array Value} {cA cB : Code}
theorem Rnd.root (hx : x.H0 = []) {C : Conc} {w w2 : World} {c c' : Int} {v v' : Nat} {r r' : List UInt8} {es es' : List Entry} {ex : List AObj} {st : St} {a : Act} {nt : Nat} {rc : Loop}
    (hr : HR x C (hP c v r es) w) (hb : ∀ i, i < 4 → C.blk i = B i) (hLw : w.heap[L]? = some (.loop rc)) (hDw : w.heap[D]? = some (.deferred (some []))) (hst : st.heap = hP c' v' r' es' ++ ex) (hrel : Rel (rootCx x C (hP c v r es) w) nt st a w2) :
    ∃ C2, HR x C2 (hP c' v' r' es') w2 ∧ (∀ i, i < 4 → C2.blk i = B i) ∧ w2.heap[L]? = some (.loop rc) ∧ w2.heap[D]? = some (.deferred (some [])) ∧
      (∀ t e, st.env t = .agg (cE e) → RepV (Stab x C2 (hP c' v' r' es') w2) w2 C2 (.agg (cE e)) (a.tmps.getD t Go.undef)) ∧ (∀ t, st.env t = .ptr 3 0 → a.tmps.getD t Go.undef = .pointer (some ⟨B 3, 0, none⟩)) ∧
      (∀ t k m, st.env t = .int k m → a.tmps.getD t Go.undef = .int k m) ∧ ∀ t b, st.env t = .bool b → a.tmps.getD t Go.undef = .bool b := by
  obtain ⟨⟨C1, hr2, he1⟩, -, -⟩ := hrel
  have ids1 : ∀ i, i < 5 → C1.blk i = C.blk i := fun i hi => hr2.ids i hi
  rw [hst] at hr2 he1
  obtain ⟨hr3, hm3, hf3⟩ := hr.unroot hr2
  have hLlt : L < w.heap.size := (Array.getElem?_eq_some_iff.1 hLw).1
  have hDlt : D < w.heap.size := (Array.getElem?_eq_some_iff.1 hDw).1
  obtain ⟨k1, k2⟩ := hr3.restrict (ks := List.range 5) List.nodup_range (fun k hk => by have := List.mem_range.1 hk; simp [hP]; omega) (fun i hi => by rw [hx] at hi; simp at hi)
  have hs : subHeap (pos (List.range 5)) (frzAt true (hP c' v' r' es' ++ ex)) (hP c' v' r' es' ++ ex) (List.range 5) = hP c' v' r' es' := by
    simp [subHeap, renObj, renCell, renLeaf, pos, List.range_succ, hP]
  rw [hs] at k1 k2
  refine ⟨_, k1, fun i hi => ?_, (hf3 L hLlt fun i ob hi => hr.notHeld (fun cs T f h => by rw [hLw] at h; cases h) hi).trans hLw, (hf3 D hDlt fun i ob hi => hr.notHeld (fun cs T f h => by rw [hDw] at h; cases h) hi).trans hDw, fun t e ht => ?_, fun t ht => ?_, fun t k m ht => ?_, fun t b ht => ?_⟩
  · show C1.blk ((List.range 5).getD i 0) = B i
    rw [show (List.range 5).getD i 0 = i by rw [getD_of (List.getElem?_range (by omega))], ids1 i (by omega)]
    exact hb i hi
  · have h1 := hm3 _ _ (he1 t)
    rw [ht] at h1
    have h2 := renT_rep (nl := false) k2 h1
    simpa [renT, ren, renCell, renLeaf, cE] using h2
  · have h1 := he1 t
    rw [ht] at h1
    rw [h1.ptr_inv.1, ids1 3 (by omega), hb 3 (by omega)]
  · have h1 := he1 t
    rw [ht] at h1
    exact h1.int_inv
  · have h1 := he1 t
    rw [ht] at h1
    exact h1.bool_inv
def ItQ (x : Cx) (B : Nat → Nat) (L D : Nat) (rc rd : Loop) (r0 : List UInt8) (es0 : List Entry) (w' : World) : Prop :=
  (∃ es', pkOut r0.length r0 es0 = (es', 0) ∧ Rnd x B L D rc 0 [] es' w') ∨ ∃ (c : Int) (r' : List UInt8) (es' : List Entry), c ≠ 0 ∧ pkOut r0.length r0 es0 = ([], c) ∧ Rnd x B L D rd c r' es' w'
set_option maxRecDepth 10000 in
set_option maxHeartbeats 4000000 in
theorem iter_in (hx : x.H0 = []) (hA : lowerCode Try.prog 23 cA = some lcA) (hB : lowerCode Try.prog 23 cB = some lcB) (htm : tm.size = 23)
    (h2 : tm.getD 2 Go.undef = .pointer (some ⟨B 0, 0, none⟩)) (h3 : tm.getD 3 Go.undef = .pointer (some ⟨B 1, 0, none⟩)) (h4 : tm.getD 4 Go.undef = .pointer (some ⟨B 2, 0, none⟩)) (hL : x.w0.heap.size ≤ L)
    {r0 : List UInt8} {es0 : List Entry} {w0 : World} (hmx : r0.length ≤ maxLen) (it : Rnd x B L D (rcOf fn tm cA cB D .ready none) 0 r0 es0 w0) :
    CallsIn Fence.wide n Try.prog 52 #[.func (.yield L) #[] #[], .pointer (some ⟨B 3, 0, none⟩)] w0 (fun en w' => (∃ u, en = .returned u) ∧ ItQ x B L D (rcOf fn tm cA cB D .ready none) (rcOf fn tm cA cB D .done (some .ret)) r0 es0 w') := by
  obtain ⟨cd, hbody, hlc⟩ := Option.bind_eq_some_iff.1 low52
  refine callsIn_of_wp Try.func52 hbody trivial ?_ rfl
  have hres : ∀ (tm : Array Value) (w : World), ∃ u, (results Try.f52 tm).run Try.prog w = .ok u w := fun tm w => ⟨_, by
    have hq : results Try.f52 tm = (do let vs ← Try.f52.results.mapM (resVal tm); pure (if h : vs.size = 1 then vs[0] else .tuple vs)) := rfl
    rw [hq, show Try.f52.results = #[] from rfl, Sem.run_bind, Array.mapM_empty, Sem.run_pure, Result.andThen_ok, Sem.run_pure]⟩
  have hW : ∀ a0 : Act, a0.tmps.getD 0 Go.undef = .func (.yield L) #[] #[] → a0.tmps.getD 1 Go.undef = .pointer (some ⟨B 3, 0, none⟩) → a0.tmps.size = 27 → a0.defers = [] →
      WI Try.prog 27 n L52 (fun e a w' => (e = .normal ∨ e = .ret) ∧ a.defers = [] ∧ ItQ x B L D (rcOf fn tm cA cB D .ready none) (rcOf fn tm cA cB D .done (some .ret)) r0 es0 w') a0 w0 := by
    intro a0 t0 t1 hsz hdf
    unfold L52
    refine WI_block (WI_loop (fun k a w' => ∃ (r : List UInt8) (es : List Entry), r.length = k ∧ r.length ≤ maxLen ∧ Rnd x B L D (rcOf fn tm cA cB D .ready none) 0 r es w' ∧ pkOut r0.length r0 es0 = pkOut r.length r es ∧
      a.tmps.getD 0 Go.undef = .func (.yield L) #[] #[] ∧ a.tmps.getD 1 Go.undef = .pointer (some ⟨B 3, 0, none⟩) ∧ a.tmps.size = 27 ∧ a.defers = []) r0.length ⟨r0, es0, rfl, hmx, it, rfl, t0, t1, hsz, hdf⟩ ?_)
    clear t0 t1 hsz hdf it hmx
    rintro k a w ⟨r, es, hk, hmx, ⟨hle, ⟨C, v, hr, hb⟩, hLw, hDw⟩, hpk, t0, t1, hsz, hdf⟩
    have hn : C.n = 5 := hr.n
    obtain ⟨hr1, -⟩ := hr.root
    have hrel : Rel (rootCx x C (hP 0 v r es) w) 27 ⟨mkE .top [(1, .ptr 3 0)], hP 0 v r es⟩ a w := by
      refine ⟨⟨C, hr1, fun t => ?_⟩, hdf, hsz⟩
      simp only [mkE]
      by_cases e : 1 = t
      · rw [if_pos e, ← e, t1, ← hb 3 (by omega)]; exact .ptr 3 0 (by omega)
      · rw [if_neg e]; exact .any
    refine WI_seq (WI_seq (WI_reg (Φ := fun tm => tm.getD 0 Go.undef = .func (.yield L) #[] #[]) (K := fun st => st = ⟨mkE .top [(7, .bool (!decide (r = []))), (6, .str (BA r)), (1, .ptr 3 0)], hP 0 v r es⟩) ?_ hrel ?_ t0 ?_))
    · simp only [go_sem, Nat.reduceLT, Nat.reduceAdd, Nat.reduceEqDiff, Nat.reduceLeDiff, Nat.reduceSub, Nat.reduceMul, Int.reduceEq, eq_self, reduceIte, hP, BA_nil_iff]
    · exact keep1 rfl
    intro st1 a1 w1 hst1 hrel1 t01
    subst hst1
    refine WI_cond hrel1 (b := !decide (r = [])) (by simp [go_sem, Nat.reduceLT, Nat.reduceAdd, Nat.reduceEqDiff, Nat.reduceLeDiff, Nat.reduceSub, Nat.reduceMul, Int.reduceEq, eq_self, reduceIte]) (fun hne => ?_) (fun he => ?_)
    · have hne : r ≠ [] := by simpa using hne
      refine WI_skip (WI_block (WI_seq (WI_reg (Φ := fun tm => tm.getD 0 Go.undef = .func (.yield L) #[] #[]) (K := fun st => st.heap = hP 0 v r es ++ [.box (cE (decOut r).1)] ∧ st.env 1 = .ptr 3 0 ∧ st.env 3 = .ptr 5 0 ∧ st.env 4 = .int .i64 (decOut r).2.1 ∧ st.env 5 = .int .i64 (decOut r).2.2) ?_ hrel1 ?_ t01 ?_)))
      · simp only [go_sem, Nat.reduceLT, Nat.reduceAdd, Nat.reduceEqDiff, Nat.reduceLeDiff, Nat.reduceSub, Nat.reduceMul, Int.reduceEq, eq_self, reduceIte, hP]
        refine ops_call (.pureE (decode_meets r hmx) (by simp [go_sem, Nat.reduceLT, Nat.reduceAdd, Nat.reduceEqDiff, Nat.reduceLeDiff, Nat.reduceSub, Nat.reduceMul, Int.reduceEq, eq_self, reduceIte])) ?_
        simp only [go_sem, Nat.reduceLT, Nat.reduceAdd, Nat.reduceEqDiff, Nat.reduceLeDiff, Nat.reduceSub, Nat.reduceMul, Int.reduceEq, eq_self, reduceIte, cE]
        try exact ⟨rfl, rfl, rfl, rfl, rfl⟩
      · exact keep1 rfl
      intro st2 a2 w2 ⟨q1, q2, q3, q4, q5⟩ hrel2 t02
      generalize he0 : (decOut r).1 = e at *
      generalize hn0 : (decOut r).2.1 = m0 at *
      generalize hc0 : (decOut r).2.2 = c0 at *
      have hrel2 : Rel (rootCx x C (hP 0 v r es) w) 27 ⟨mkE .top [(5, .int .i64 c0), (4, .int .i64 m0), (3, .ptr 5 0), (1, .ptr 3 0)], hP 0 v r es ++ [.box (cE e)]⟩ a2 w2 := by
        refine rel_less q1 (fun t => ?_) hrel2
        simp only [mkE]
        by_cases h5 : 5 = t
        · rw [if_pos h5, ← h5]; exact .inr q5.symm
        · rw [if_neg h5]
          by_cases h4 : 4 = t
          · rw [if_pos h4, ← h4]; exact .inr q4.symm
          · rw [if_neg h4]
            by_cases h3 : 3 = t
            · rw [if_pos h3, ← h3]; exact .inr q3.symm
            · rw [if_neg h3]
              by_cases h1 : 1 = t
              · rw [if_pos h1, ← h1]; exact .inr q2.symm
              · rw [if_neg h1]; exact .inl rfl
      clear q1 q2 q3 q4 q5
      refine WI_seq (WI_seq (WI_list fun ops os hl => ?_))
      obtain ⟨os1, os', rfl, hl1, hl'⟩ := lowerList_app [_] _ os hl
      obtain ⟨os2, os'', rfl, hl2, hl''⟩ := lowerList_app [_, _, _] _ os' hl'
      obtain ⟨os3, os4, rfl, hl3, hl4⟩ := lowerList_app [_] _ os'' hl''
      obtain ⟨o1, rfl, ho1⟩ := lowerList_one hl1
      obtain ⟨o3, rfl, ho3⟩ := lowerList_one hl3
      refine mv_step ho1 ?_
      refine listIn_app os2 _ _ _ (list_in (Φ := fun tm => tm.getD 0 Go.undef = .func (.yield L) #[] #[] ∧ tm.getD 14 Go.undef = .func (.yield L) #[] #[]) (K := fun st => st.heap = hP 0 v r es ++ [.box (cE e)] ∧ st.env 1 = .ptr 3 0 ∧ st.env 4 = .int .i64 m0 ∧ st.env 5 = .int .i64 c0 ∧ st.env 15 = .agg (cE e) ∧ st.env 17 = .bool (decide (c0 = 0))) hl2 ?_ (rel_mv (by decide) hrel2) ?_ ?_) ?_
      · simp only [go_sem, Nat.reduceLT, Nat.reduceAdd, Nat.reduceEqDiff, Nat.reduceLeDiff, Nat.reduceSub, Nat.reduceMul, Int.reduceEq, eq_self, reduceIte, hP, cE]
      · exact keep2 rfl
      · refine ⟨by rw [put_getD (by decide)]; exact t02, ?_⟩
        show (a2.tmps.setIfInBounds 14 _).getD 14 Go.undef = _
        rw [getD_set (by rw [hrel2.size]; decide), if_pos rfl, t02]
      rintro a3 w3 ⟨⟨st3, ⟨r1, r2, r3, r4, r5, r6⟩, hrel3⟩, t03, t143⟩
      obtain ⟨C3, k1, k2, k3, k4, k5, k6, k7, k8⟩ := Rnd.root hx hr hb hLw hDw r1 hrel3
      have hve := k5 15 e r5
      have v1 := k6 1 r2
      have v4 := k7 4 _ _ r3
      have v5 := k7 5 _ _ r4
      have v17 := k8 17 _ r6
      have hsz3 := hrel3.size
      have hdf3 := hrel3.defers
      obtain ⟨d3, hop3, hg3⟩ := lowerOper_none ho3
      have hround := round_in (n := n - 1) (fn := fn) (L := L) (D := D) hx hA hB htm h2 h3 h4 hL hle k1 k2 k3 k4 (b := decide (c0 = 0)) hve
      refine op_step hg3 (yield_in hop3 t143 k3 rfl (by rw [v17]; simpa [rcOf] using hround) ?_)
      have mkrel : ∀ {yes : Bool} {c' : Int} {vv : Nat} {ee : List Entry} {C4 : Conc} {w4 : World}, HR x C4 (hP c' vv r ee) w4 → (∀ i, i < 4 → C4.blk i = B i) → Rel (rootCx x C4 (hP c' vv r ee) w4) 27 ⟨mkE .top [(18, .bool yes), (5, .int .i64 c0), (4, .int .i64 m0), (1, .ptr 3 0)], hP c' vv r ee⟩ (a3.put (some 18) (.bool yes)) w4 := by
        intro yes c' vv ee C4 w4 hr4 hb4
        have hn4 : C4.n = 5 := hr4.n
        refine ⟨⟨C4, hr4.root.1, fun t => ?_⟩, hdf3, by rw [show (a3.put (some 18) (.bool yes)).tmps = a3.tmps.setIfInBounds 18 (.bool yes) from rfl]; simpa using hsz3⟩
        rw [show (a3.put (some 18) (.bool yes)).tmps = a3.tmps.setIfInBounds 18 (.bool yes) from rfl, getD_set (by rw [hsz3]; decide)]
        simp only [mkE]
        by_cases h18 : 18 = t
        · rw [if_pos h18, if_pos h18.symm]; exact .pure (.bool yes)
        · rw [if_neg h18, if_neg (Ne.symm h18)]
          by_cases h5 : 5 = t
          · rw [if_pos h5, ← h5, v5]; exact .pure (.int _ _)
          · rw [if_neg h5]
            by_cases h4 : 4 = t
            · rw [if_pos h4, ← h4, v4]; exact .pure (.int _ _)
            · rw [if_neg h4]
              by_cases h1 : 1 = t
              · rw [if_pos h1, ← h1, v1, ← hb4 3 (by omega)]; exact .ptr 3 0 (by omega)
              · rw [if_neg h1]; exact .any
      rintro en w4 (⟨rfl, hb1, h40, ⟨hle4, ⟨C4, v4', hr4, hb4⟩, hL4, hD4⟩⟩ | ⟨rfl, c, hc, ⟨hle4, ⟨C4, v4', hr4, hb4⟩, hL4, hD4⟩⟩)
      · have hcz : c0 = 0 := by simpa using hb1
        refine ⟨_, rfl, ?_⟩
        rw [d3]
        have hrel4 := mkrel (yes := true) hr4 hb4
        refine list_to (Φ := fun tm => tm.getD 0 Go.undef = .func (.yield L) #[] #[]) (K := fun st => st.heap = hP 0 v4' r (es ++ [e]) ∧ st.env 1 = .ptr 3 0 ∧ st.env 4 = .int .i64 m0 ∧ st.env 23 = .bool false) hl4 ?_ hrel4 ?_ (by rw [put_getD (by decide)]; exact t03) ?_
        · simp only [go_sem, Nat.reduceLT, Nat.reduceAdd, Nat.reduceEqDiff, Nat.reduceLeDiff, Nat.reduceSub, Nat.reduceMul, Int.reduceEq, eq_self, reduceIte, hP, hcz]
        · exact keep1 rfl
        intro st5 a5 w5 ⟨s1, s2, s3, s4⟩ hrel5 t05
        refine ⟨rfl, ?_⟩
        obtain ⟨m, hm, mpos, mle⟩ := dec_adv (r := r) (by rw [hc0]; exact hcz)
        have hm0 : m0 = (m : Int) := by rw [← hn0, hm]
        refine WI_cond hrel5 (b := false) s4 (fun h => by cases h) (fun _ => WI_skip ?_)
        have hrel5 : Rel (rootCx x C4 (hP 0 v4' r (es ++ [e])) w4) 27 ⟨mkE .top [(4, .int .i64 (m : Int)), (1, .ptr 3 0)], hP 0 v4' r (es ++ [e])⟩ a5 w5 := by
          refine rel_less s1 (fun t => ?_) hrel5
          simp only [mkE]
          by_cases h4 : 4 = t
          · rw [if_pos h4, ← h4, s3, hm0]; exact .inr rfl
          · rw [if_neg h4]
            by_cases h1 : 1 = t
            · rw [if_pos h1, ← h1]; exact .inr s2.symm
            · rw [if_neg h1]; exact .inl rfl
        have hsl : (BA r).extract m r.length = BA (r.drop m) := by rw [BA_extract, List.take_of_length_le (by rw [List.length_drop]; omega)]
        have hmi : (m : Int) ≤ (r.length : Int) := by omega
        refine WI_reg (Φ := fun tm => tm.getD 0 Go.undef = .func (.yield L) #[] #[]) (K := fun st => st.heap = hP 0 v4' (r.drop m) (es ++ [e]) ∧ st.env 1 = .ptr 3 0) ?_ hrel5 ?_ t05 ?_
        · simp only [go_sem, Nat.reduceLT, Nat.reduceAdd, Nat.reduceEqDiff, Nat.reduceLeDiff, Nat.reduceSub, Nat.reduceMul, Int.reduceEq, eq_self, reduceIte, hP, BA_size, Int.natCast_nonneg, hmi, Int.le_refl, Int.toNat_natCast, hsl]
        · exact keep1 rfl
        intro st6 a6 w6 ⟨u1, u2⟩ hrel6 t06
        obtain ⟨C6, g1, g2, g3, g4, -, g6, -, -⟩ := Rnd.root hx hr4 hb4 hL4 hD4 (ex := []) (c' := 0) (v' := v4') (r' := r.drop m) (es' := es ++ [e]) (by rw [u1, List.append_nil]) hrel6
        refine ⟨(r.drop m).length, by rw [List.length_drop]; omega, r.drop m, es ++ [e], rfl, by rw [List.length_drop]; omega, ⟨hle4, ⟨C6, v4', g1, g2⟩, g3, g4⟩, ?_, t06, g6 1 u2, hrel6.size, hrel6.defers⟩
        rw [hpk, pkOut_step hne (by rw [hc0]; exact hcz) h40 hm, he0]
      · refine ⟨_, rfl, ?_⟩
        rw [d3]
        have hrel4 := mkrel (yes := false) hr4 hb4
        refine list_to (Φ := fun tm => tm.getD 0 Go.undef = .func (.yield L) #[] #[]) (K := fun st => st.heap = hP c v4' r es ∧ st.env 23 = .bool true) hl4 ?_ hrel4 ?_ (by rw [put_getD (by decide)]; exact t03) ?_
        · simp only [go_sem, Nat.reduceLT, Nat.reduceAdd, Nat.reduceEqDiff, Nat.reduceLeDiff, Nat.reduceSub, Nat.reduceMul, Int.reduceEq, eq_self, reduceIte, hP]
        · exact keep1 rfl
        intro st5 a5 w5 ⟨s1, s4⟩ hrel5 t05
        refine ⟨rfl, ?_⟩
        refine WI_cond hrel5 (b := true) s4 (fun _ => WI_ret ?_) (fun h => by cases h)
        obtain ⟨C6, g1, g2, g3, g4, -⟩ := Rnd.root hx hr4 hb4 hL4 hD4 (ex := []) (c' := c) (v' := v4') (r' := r) (es' := es) (by rw [s1, List.append_nil]) hrel5
        refine ⟨.inr rfl, hrel5.defers, .inr ⟨c, r, es, ?_, ?_, hle4, ⟨C6, v4', g1, g2⟩, g3, g4⟩⟩
        · rcases hc with ⟨-, rfl⟩ | ⟨-, -, rfl⟩ <;> decide
        · rw [hpk]
          rcases hc with ⟨h1, rfl⟩ | ⟨h1, h2, rfl⟩
          · exact pkOut_bad hne (by rw [hc0]; simpa using h1)
          · exact pkOut_many hne (by rw [hc0]; simpa using h1) h2
    · have he : r = [] := by simpa using he
      subst he
      refine WI_exit ?_
      simp only [thenI, blockI, eq_self, if_true]
      obtain ⟨C2, k1, k2, k3, k4, -⟩ := Rnd.root hx hr hb hLw hDw (ex := []) (c' := 0) (v' := v) (r' := []) (es' := es) (by simp) hrel1
      exact ⟨.inl trivial, hrel1.defers, .inl ⟨es, by rw [hpk]; rfl, hle, ⟨C2, v, k1, k2⟩, k3, k4⟩⟩
  refine wpIn_mono (hW _ ?_ ?_ ?_ rfl cd hlc) ?_
  · simp
  · simp
  · simp [Try.ntmps52]
  · intro e a w' hq
    cases e <;> simp only [postI] at hq
    case normal => obtain ⟨u, hu⟩ := hres a.tmps w'; exact ⟨hq.2.1, u, hu, ⟨_, rfl⟩, hq.2.2⟩
    case ret => obtain ⟨u, hu⟩ := hres a.tmps w'; exact ⟨hq.2.1, u, hu, ⟨_, rfl⟩, hq.2.2⟩
    all_goals first | exact hq.elim | (obtain ⟨h, _⟩ := hq; rcases h with h | h <;> cases h)
end
end Go.Proofs.Ytkibfciheifphaa
/- packet.Decode, as a contract. -/
namespace Go.Proofs.Ytkibfciheifphaa
open Go.RowKit
section
variable {P : Program} {x : Cx} {nt n : Nat} {st : St} {C : Conc} {H : List AObj} {w : World}
def Obj.noCells (o : Obj) : Prop := ∀ cs T f, o ≠ .cells cs T f
theorem cell_none {L : Nat} {o : Obj} (h : w.heap[L]? = some o) (ho : Obj.noCells o) (j : Nat) : w.cell? ⟨L, j, none⟩ = none := by
  unfold World.cell?
  simp only [h]
  cases o <;> first | rfl | exact (ho _ _ _ rfl).elim
theorem HR.put (hr : HR x C H w) {L : Nat} {r r' : Obj} (h : w.heap[L]? = some r) (hn : Obj.noCells r) (hn' : Obj.noCells r') (h0 : x.w0.heap.size ≤ L) :
    HR x C H (w.putObj L r') ∧ ∀ p v, RepV (Stab x C H w) w C p v → RepV (Stab x C H (w.putObj L r')) (w.putObj L r') C p v := by
  have hlt : L < w.heap.size := (Array.getElem?_eq_some_iff.1 h).1
  have hsz : (w.putObj L r').heap.size = w.heap.size := World.putObj_size
  have hnew : (w.putObj L r').heap[L]? = some r' := World.putObj_heap_same hlt
  have hold : ∀ b, b ≠ L → (w.putObj L r').heap[b]? = w.heap[b]? := fun b hb => World.putObj_heap_other hb
  have hcell : ∀ b o, (w.putObj L r').cell? ⟨b, o, none⟩ = w.cell? ⟨b, o, none⟩ := fun b o => by
    by_cases e : b = L
    · subst e
      rw [cell_none hnew hn', cell_none h hn]
    · exact cell_eq (hold b e)
  have hS : ∀ b o, Stab x C H w b o → Stab x C H (w.putObj L r') b o := fun b o h => ⟨h.1, by rw [hsz]; exact h.2.1, h.2.2⟩
  have hm : ∀ p v, RepV (Stab x C H w) w C p v → RepV (Stab x C H (w.putObj L r')) (w.putObj L r') C p v := fun p v h => h.mono hS (fun b o _ => hcell b o) (Nat.le_refl _) (fun i _ => rfl) (fun i _ => .inl ⟨rfl, rfl⟩)
  have hne : ∀ (i : Nat) ob, H[i]? = some ob → ∀ b, ob.holds C i b → b ≠ L := fun i ob hi b hb e => by
    subst e
    exact hr.notHeld (fun cs T f e => by rw [h] at e; exact hn _ _ _ (Option.some.inj e)) hi hb
  refine ⟨⟨hr.n, fun i ob h => (hr.obj i ob h).mono hm (fun p v h => h.mono hS (fun b o _ => hcell b o)) (fun b hb => hold b (hne i ob h b hb)) rfl rfl rfl, hr.apart, hr.mine, fun b o h => ?_, by rw [hsz]; exact hr.size, hr.os, hr.tape, hr.output, fun b hb h => ?_, hr.len, hr.ids, hr.vers⟩, hm⟩
  · obtain ⟨h1, h2, h3⟩ := hr.s0 b o h
    exact ⟨h1, h2, (hcell b o).trans h3⟩
  · exact (hold b (by omega)).trans (hr.frame b hb h)
theorem plain_list {ops : Array Oper} {Q : Exit → Act → World → Prop} {K : St → Prop} : ∀ (os : List Oper) (lops : List LOper) (st : St) (a : Act) (w : World), lowerList P nt ops os = some lops → (lops.all fun o => o.op.plain && o.guard.isNone) = true → WOps P lops K st → Rel x nt st { a with defers := [] } w →
    (∀ st' a' w', K st' → Rel x nt st' { a' with defers := [] } w' → a'.defers = a.defers → Q .normal a' w') → wpListIn Fence.wide n P ops Q os a w
  | [], lops, st, a, w, hl, _, h, hrel, hk => by
    simp only [lowerList, Option.some.injEq] at hl; subst hl
    exact hk st a w h hrel rfl
  | o :: os, lops, st, a, w, hl, hp, h, hrel, hk => by
    simp only [lowerList] at hl
    split at hl <;> try (cases hl; done)
    rename_i lo r h1 h2
    cases hl
    obtain ⟨d, lop, g, so⟩ := lo
    simp only [List.all_cons, Bool.and_eq_true] at hp
    obtain ⟨⟨hp1, hp2⟩, hp3⟩ := hp
    cases g with
    | some g => cases hp2
    | none =>
      obtain ⟨e1, e2, e3⟩ := lowerOper_none h1
      rw [ops_plain' hp1] at h
      cases hv : evalOp st lop with
      | none => rw [hv] at h; exact h.elim
      | some vH =>
        obtain ⟨v, H'⟩ := vH
        rw [hv] at h
        have h : WOps P r K (st.put d v H') := h
        have hdl : ∀ t, o.dst = some t → t < nt := by
          intro t e
          unfold lowerOper at h1
          split at h1 <;> try (cases h1; done)
          split at h1 <;> try (cases h1; done)
          rename_i hd
          rw [e] at hd
          simpa [dstOK] using hd
        obtain ⟨⟨C, hr1, he⟩, hdf, hsz⟩ := hrel
        have hsz : a.tmps.size = nt := hsz
        have he : ∀ t, RepV (Stab x C st.heap w) w C (st.env t) (a.tmps.getD t Go.undef) := he
        obtain ⟨vv, w', C', hres, g2, g3, g4⟩ := sim (P := P) (a := a) hr1 he e2 hv
        refine op_step e3 ⟨fun f _ => trivial, ?_⟩
        rw [show Fence.wide.round = none from rfl, Oper.semAt_none]
        have hgo : wpListIn Fence.wide n P ops Q os (a.put o.dst vv) w' := by
          refine plain_list os r (st.put d v H') _ w' h2 hp3 h ?_ fun st' a' w' k1 k2 k3 => hk st' a' w' k1 k2 (k3.trans ?_)
          · have := rel_put (a := { a with defers := [] }) hsz rfl g2 he g3 g4 (d := o.dst) hdl
            rw [e1] at this ⊢
            cases d <;> exact this
          · cases o.dst <;> rfl
        rcases hres with hq | ⟨hq, rfl⟩ <;> rw [hq] <;> exact hgo
theorem ends_run {fn : Func} {lrs : List LRes} {r : PV} {Hs' : List AObj} {a : Act} (hres : lowerRes P fn.results.toList = some lrs) (hq : retQ x nt lrs r Hs' .ret st) (hrel : Rel x nt st a w) : ∃ v, (results fn a.tmps).run P w = .ok v w ∧ ∃ C', HR x C' Hs' w ∧ RepV (Stab x C' Hs' w) w C' r v := by
  obtain ⟨st', keep, hwk, ps, h1, h2, h3, h4, h5, h6⟩ := hq
  replace hrel := hwk a w hrel
  obtain ⟨⟨C, hr1, he⟩, hdf, hsz⟩ := hrel
  obtain ⟨us, k1, k2⟩ := evalRes_run hr1 he hres h1
  refine ⟨if h : us.toArray.size = 1 then us.toArray[0] else .tuple us.toArray, ?_, C.sub (List.range x.H0.length ++ keep), ?_⟩
  · have hm : (fn.results.mapM (resVal a.tmps)).run P w = .ok us.toArray w := by
      rw [Array.mapM_eq_mapM_toList]
      simp [k1]
    have hq : results fn a.tmps = (do let vs ← fn.results.mapM (resVal a.tmps); pure (if h : vs.size = 1 then vs[0] else .tuple vs)) := rfl
    rw [hq, Sem.run_bind, hm, Result.andThen_ok, Sem.run_pure]
  · have hlen : (List.range x.H0.length ++ keep).Nodup := by
      refine List.nodup_append.2 ⟨List.nodup_range, h2, fun a ha b hb e => ?_⟩
      have := List.mem_range.1 ha
      have := (h3 b hb).1
      omega
    obtain ⟨q1, q2⟩ := hr1.restrict (ks := List.range x.H0.length ++ keep) hlen (fun k hk => by
        rcases List.mem_append.1 hk with h | h
        · have := List.mem_range.1 h; omega
        · exact (h3 k h).2) (fun i hi => by rw [List.getElem?_append_left (by simpa using hi), List.getElem?_range hi])
    subst h5
    subst h6
    exact ⟨q1, renT_rep q2 (tupOf_rep k2)⟩
end
end Go.Proofs.Ytkibfciheifphaa
/- packet.Decode, as a contract. -/
namespace Go.Proofs.Ytkibfciheifphaa
set_option linter.unusedSimpArgs false
set_option linter.unusedVariables false
open Go.RowKit
theorem pkEntries_calls (s : ByteArray) (w : World) : Calls Try.prog 28 #[.string s] w fun e w' => e = .returned (.func (.func 52) #[] #[.pointer (some ⟨w.heap.size, 0, none⟩)]) ∧ w' = w.alloc (.cells #[.string s] 9) := by
  go_enter Try.func28, Try.ntmps28
  go_wp2
  go_ret
  exact ⟨rfl, rfl⟩
theorem pkEntries_meets (s : ByteArray) : Meets Try.prog 28 [.str s] [] (.clo 52 [.ptr 0 0]) [.box [.str s]] := by
  intro x vs hx hr hp
  obtain ⟨hlen, hp0⟩ := hp
  have hvs : vs = #[.string s] := by
    cases vs with
    | mk l =>
      match l, hlen with
      | [v], _ =>
        have := hp0 0 _ v rfl rfl
        rw [this.str_inv]
  subst hvs
  refine (pkEntries_calls s x.w0).mono ?_
  rintro e w' ⟨rfl, rfl⟩
  obtain ⟨vv, w2, C', h1, h2, h3, h4⟩ := OpRes.box (r := .ok (.value (.pointer (some ⟨x.w0.heap.size, 0, none⟩))) (x.w0.alloc (.cells #[.string s] 9))) hr (cs := #[.string s]) (cells := [.str s]) 9 rfl (fun j p v hp hv => by
    match j, hp, hv with
    | 0, hp, hv => simp at hp hv; subst hp; subst hv; exact ⟨rfl, .pure (.str s)⟩
    | j + 1, hp, hv => simp at hp) rfl
  rcases h1 with h1 | ⟨h1, -⟩
  · simp only [Result.ok.injEq, Next.value.injEq] at h1
    obtain ⟨e1, e2⟩ := h1
    subst e1; subst e2
    refine ⟨_, C', rfl, h2, ?_⟩
    refine .clo 52 [.ptr 0 0] [.pointer (some ⟨x.w0.heap.size, 0, none⟩)] rfl fun j p v hp hv => ?_
    match j, hp, hv with
    | 0, hp, hv => simp at hp hv; subst hp; subst hv; exact h4
    | j + 1, hp, hv => simp at hp
  · simp at h1
def lc0 : LC := .reg none [⟨some 2, .alloc [.nilsl], none, true⟩, ⟨some 3, .alloc [.int .i64 0], none, true⟩]
def lc1 : LC := .reg none [⟨some 4, .alloc [.nilsl], none, true⟩]
def lc2 : LC := .reg none [⟨some 7, .mv (.tmp 0), none, true⟩, ⟨some 8, .call 28 [.tmp 7] 0, none, true⟩]
def lc3 : List LOper := [⟨some 22, .load 1 false (.tmp 4), none, true⟩, ⟨none, .store 1 (.tmp 2) (.tmp 22), none, true⟩, ⟨none, .store 1 (.tmp 3) (.val (.int .i64 0)), none, true⟩]
theorem pk_shape : ∃ (c0 c1 c2 cA cB c3 : Code), Try.f8.body = some (.seq c0 (.seq c1 (.seq (.seq c2 (.block 0 (.rangeFunc (.tmp 8) #[9, 10] cA cB))) (.seq c3 .ret)))) ∧ lowerCode Try.prog 23 c0 = some lc0 ∧ lowerCode Try.prog 23 c1 = some lc1 ∧ lowerCode Try.prog 23 c2 = some lc2 ∧
    lowerCode Try.prog 23 cA = some lcA ∧ lowerCode Try.prog 23 cB = some lcB ∧ lowerCode Try.prog 23 c3 = some (.reg none lc3) :=
  ⟨_, _, _, _, _, _, rfl, by kernel_rfl, by kernel_rfl, by kernel_rfl, by kernel_rfl, by kernel_rfl, by kernel_rfl⟩
theorem pk_res : lowerRes Try.prog Try.f8.results.toList = some [.cell 2 1 false, .cell 3 1 false] := by kernel_rfl
section
variable {x : Cx} {n : Nat} {B : Nat → Nat} {L D fn : Nat} {tm : Array Value}
theorem reg_go {P : Program} {nt : Nat} {c : Code} {lops : List LOper} {st : St} {K : St → Prop} {Q : Exit → Act → World → Prop} {a : Act} {w : World} (hl : lowerCode P nt c = some (.reg none lops)) (h : WOps P lops K st) (hrel : Rel x nt st a w)
    (hk : ∀ st' a' w', K st' → Rel x nt st' a' w' → Q .normal a' w') : c.wpIn Fence.wide n P Q a w := by
  refine wpIn_mono (WI_reg (n := n) (Φ := fun _ => True) (Q := fun e a w => e = .normal ∧ Q .normal a w) h hrel (fun _ _ _ _ _ => trivial) trivial (fun st' a' w' g1 g2 _ => ⟨rfl, hk st' a' w' g1 g2⟩) c hl) fun e a w hq => ?_
  cases e <;> simp only [postI] at hq
  case normal => exact hq.2
  all_goals first | exact hq.elim | (obtain ⟨h, _⟩ := hq; cases h)
theorem rel23 {C : Conc} {H : List AObj} {w : World} {c : List Deferred} (hr : HR x C H w) (hn : 2 ≤ C.n) (h2 : tm.getD 2 Go.undef = .pointer (some ⟨C.blk 0, 0, none⟩)) (h3 : tm.getD 3 Go.undef = .pointer (some ⟨C.blk 1, 0, none⟩)) (hsz : tm.size = 23) : Rel x 23 ⟨mkE .top [(3, .ptr 1 0), (2, .ptr 0 0)], H⟩ { tmps := tm, defers := [] } w := by
  refine ⟨⟨C, hr, fun t => ?_⟩, rfl, hsz⟩
  simp only [mkE]
  by_cases t3 : 3 = t
  · rw [if_pos t3, ← t3, h3]; exact .ptr 1 0 (by omega)
  · rw [if_neg t3]
    by_cases t2 : 2 = t
    · rw [if_pos t2, ← t2, h2]; exact .ptr 0 0 (by omega)
    · rw [if_neg t2]; exact .any
theorem pk_leave {C : Conc} {H : List AObj} {w : World} {r : PV} (hr : HR x C H w) (hn : 2 ≤ C.n) (h2 : tm.getD 2 Go.undef = .pointer (some ⟨C.blk 0, 0, none⟩)) (h3 : tm.getD 3 Go.undef = .pointer (some ⟨C.blk 1, 0, none⟩)) (hsz : tm.size = 23)
    (hD : w.heap[D]? = some (.deferred (some []))) (hD0 : x.w0.heap.size ≤ D) (hq : retQ x 23 [.cell 2 1 false, .cell 3 1 false] r [] .ret ⟨mkE .top [(3, .ptr 1 0), (2, .ptr 0 0)], H⟩) :
    LeavesInM Fence.wide n Try.prog Try.f8 tm (fun e w' => ∃ v C', e = .returned v ∧ HR x C' [] w' ∧ RepV (Stab x C' [] w') w' C' r v) [{ target := .collected D, args := #[] }] .returning w := by
  obtain ⟨hr2, -⟩ := hr.put (r' := .deferred none) hD (fun _ _ _ h => by cases h) (fun _ _ _ h => by cases h) hD0
  obtain ⟨v, g1, C', g2, g3⟩ := ends_run (P := Try.prog) (fn := Try.f8) pk_res hq (rel23 (c := []) hr2 hn h2 h3 hsz)
  exact ⟨by simp, .inl ⟨D, _, rfl, run_takeDeferred hD, ⟨v, g1, v, C', rfl, g2, g3⟩⟩⟩
set_option maxHeartbeats 2000000 in
theorem packetDecode_meets (t : List UInt8) (ht : t.length ≤ maxLen) : Meets Try.prog 8 [.str (BA t)] [] (.tup [.list ((pkOut t.length t []).1.map cE), .int .i64 (pkOut t.length t []).2]) [] := by
  intro x vs hx hr hp
  obtain ⟨hlen, hp0⟩ := hp
  have hvs : vs = #[.string (BA t)] := by
    cases vs with
    | mk l =>
      match l, hlen with
      | [v], _ =>
        have := hp0 0 _ v rfl rfl
        rw [this.str_inv]
  subst hvs
  obtain ⟨c0, c1, c2, cA, cB, c3, hbody, l0, l1, l2, lA, lB, l3⟩ := pk_shape
  refine callsIn_wide.1 (callsIn_of_wp_marks (n := 0) Try.func8 hbody trivial ?_ rfl)
  have hrel0 : Rel x 23 ⟨mkE .top [(0, .str (BA t))], []⟩ { tmps := #[.string (BA t)] ++ Array.replicate (Try.f8.ntmps - 1) Go.undef, defers := [] } x.w0 := by
    refine ⟨⟨x.C0, hr, fun u => ?_⟩, rfl, by simp [Try.ntmps8]⟩
    simp only [mkE]
    by_cases h : 0 = u
    · rw [if_pos h, ← h, show (#[Value.string (BA t)] ++ Array.replicate (Try.f8.ntmps - 1) Go.undef).getD 0 Go.undef = .string (BA t) by simp]; exact .pure (.str _)
    · rw [if_neg h]; exact .any
  show Code.wpIn Fence.wide 0 Try.prog _ _ { tmps := #[.string (BA t)] ++ Array.replicate (Try.f8.ntmps - 1) Go.undef, defers := [] } x.w0
  generalize ({ tmps := #[.string (BA t)] ++ Array.replicate (Try.f8.ntmps - 1) Go.undef, defers := [] } : Act) = a0 at *
  refine wpIn_seq (reg_go (K := fun st => st = ⟨mkE .top [(3, .ptr 1 0), (2, .ptr 0 0), (0, .str (BA t))], [.box [.nilsl], .box [.int .i64 0]]⟩) l0 (by simp only [go_sem, Nat.reduceLT, Nat.reduceAdd, Nat.reduceEqDiff, Nat.reduceLeDiff, Nat.reduceSub, Nat.reduceMul, Int.reduceEq, eq_self, reduceIte]) hrel0 ?_)
  intro st1 a1 w1 hst1 hrel1
  subst hst1
  refine wpIn_seq (reg_go (K := fun st => st = ⟨mkE .top [(4, .ptr 2 0), (3, .ptr 1 0), (2, .ptr 0 0), (0, .str (BA t))], [.box [.nilsl], .box [.int .i64 0], .box [.nilsl]]⟩) l1 (by simp only [go_sem, Nat.reduceLT, Nat.reduceAdd, Nat.reduceEqDiff, Nat.reduceLeDiff, Nat.reduceSub, Nat.reduceMul, Int.reduceEq, eq_self, reduceIte]) hrel1 ?_)
  intro st2 a2 w2 hst2 hrel2
  subst hst2
  refine wpIn_seq (wpIn_seq (reg_go (K := fun st => st = ⟨mkE .top [(8, .clo 52 [.ptr 3 0]), (7, .str (BA t)), (4, .ptr 2 0), (3, .ptr 1 0), (2, .ptr 0 0), (0, .str (BA t))], [.box [.nilsl], .box [.int .i64 0], .box [.nilsl], .box [.str (BA t)]]⟩) l2 ?_ hrel2 ?_))
  · simp only [go_sem, Nat.reduceLT, Nat.reduceAdd, Nat.reduceEqDiff, Nat.reduceLeDiff, Nat.reduceSub, Nat.reduceMul, Int.reduceEq, eq_self, reduceIte]
    refine ops_call (.heapE [] (r' := .clo 52 [.ptr 3 0]) (H' := [.box [.nilsl], .box [.int .i64 0], .box [.nilsl], .box [.str (BA t)]]) (pkEntries_meets (BA t)) (by simp) (by simp) (by simp [go_sem, Nat.reduceLT, Nat.reduceAdd, Nat.reduceEqDiff, Nat.reduceLeDiff, Nat.reduceSub, Nat.reduceMul, Int.reduceEq, eq_self, reduceIte]) rfl rfl rfl) ?_
    simp only [go_sem, Nat.reduceLT, Nat.reduceAdd, Nat.reduceEqDiff, Nat.reduceLeDiff, Nat.reduceSub, Nat.reduceMul, Int.reduceEq, eq_self, reduceIte]
  intro st3 a3 w3 hst3 hrel3
  subst hst3
  have hrel3 : Rel x 23 ⟨mkE .top [(8, .clo 52 [.ptr 3 0]), (7, .str (BA t)), (4, .ptr 2 0), (3, .ptr 1 0), (2, .ptr 0 0), (0, .str (BA t))], hP 0 0 t []⟩ a3 w3 := by
    have := weak_ownc (cells := [.nilsl]) 2 0 0 44 5 true false rfl rfl (by omega) a3 w3 hrel3
    exact this
  obtain ⟨⟨C, hr3, he3⟩, hdf3, hsz3⟩ := hrel3
  have hn3 : C.n = 5 := hr3.n
  have h2 : a3.tmps.getD 2 Go.undef = .pointer (some ⟨C.blk 0, 0, none⟩) := (he3 2).ptr_inv.1
  have h3 : a3.tmps.getD 3 Go.undef = .pointer (some ⟨C.blk 1, 0, none⟩) := (he3 3).ptr_inv.1
  have h4 : a3.tmps.getD 4 Go.undef = .pointer (some ⟨C.blk 2, 0, none⟩) := (he3 4).ptr_inv.1
  have h8 : a3.tmps.getD 8 Go.undef = .func (.func 52) #[] #[.pointer (some ⟨C.blk 3, 0, none⟩)] := by
    obtain ⟨vs, e1, e2, e3⟩ := (he3 8).clo_inv
    match vs, e2, e3 with
    | [u], _, e3 =>
      have := (e3 0 _ u rfl rfl).ptr_inv.1
      rw [e1, this]
  show Code.wpIn Fence.wide 0 Try.prog (.block 0 (.rangeFunc (.tmp 8) #[9, 10] cA cB)) _ a3 w3
  refine wpIn_block (wpIn_rangeFunc fun fn hfn => ?_)
  obtain ⟨W1, hW1⟩ : ∃ W1, (w3.alloc (.deferred (some []))).alloc (.loop (rcOf fn a3.tmps cA cB w3.heap.size .ready none)) = W1 := ⟨_, rfl⟩
  have hL1 : W1.heap[w3.heap.size + 1]? = some (.loop (rcOf fn a3.tmps cA cB w3.heap.size .ready none)) := by
    rw [← hW1]; have := World.alloc_heap_new (w3.alloc (.deferred (some []))) (.loop (rcOf fn a3.tmps cA cB w3.heap.size .ready none)); rwa [World.size_alloc] at this
  have hD1 : W1.heap[w3.heap.size]? = some (.deferred (some [])) := by
    rw [← hW1]; exact (Below.heap_alloc _ _ _ (by simp)).trans (World.alloc_heap_new w3 _)
  have hstep : Step w3 W1 fun _ => False := by
    rw [← hW1]
    refine ⟨by simp; omega, rfl, rfl, rfl, fun b hb _ => ?_⟩
    exact (Below.heap_alloc _ _ b (by simp; omega)).trans (Below.heap_alloc _ _ b hb)
  obtain ⟨hr4, -, -⟩ := hr3.grow hstep
  have hx0 := hr3.size
  have hit := iter_in (n := 0 - 1) (fn := fn) (L := w3.heap.size + 1) (D := w3.heap.size) (B := C.blk) hx lA lB hsz3 h2 h3 h4 (by omega) ht ⟨by simp, ⟨C, 0, hr4, fun _ _ => rfl⟩, hL1, hD1⟩
  refine ⟨w3.heap.size + 1, [{ target := .collected w3.heap.size, args := #[] }], W1, { target := .fn (.func 52) #[.pointer (some ⟨C.blk 3, 0, none⟩)], args := #[.func (.yield (w3.heap.size + 1)) #[] #[]] }, W1, 52, #[.func (.yield (w3.heap.size + 1)) #[] #[], .pointer (some ⟨C.blk 3, 0, none⟩)], W1, ?_, ?_, fun _ _ => trivial, ?_, (fun e => by cases e), hit.mono ?_⟩
  · rw [← hW1]; exact run_enterLoop_outer _ _ _ _ _
  · have hev : a3.eval (.tmp 8) = .func (.func 52) #[] #[.pointer (some ⟨C.blk 3, 0, none⟩)] := h8
    simp only [resolve, hev]
    simp [go_sem]
  · simp [invoke, go_sem]
  rintro en w4 ⟨⟨u, rfl⟩, (⟨es', hpk, ⟨hle, ⟨C4, v4, hr5, hb5⟩, hL4, hD4⟩⟩ | ⟨c, r', es', hc, hpk, ⟨hle, ⟨C4, v4, hr5, hb5⟩, hL4, hD4⟩⟩)⟩
  · refine ⟨none, _, run_endLoop hL4 (by simp [rcOf]), ?_⟩
    have hn4 : C4.n = 5 := hr5.n
    obtain ⟨hr6, -⟩ := hr5.loop (r' := { rcOf fn a3.tmps cA cB w3.heap.size .ready none with state := .exhausted }) hL4 (by omega)
    have hD5 : (w4.putObj (w3.heap.size + 1) (.loop { rcOf fn a3.tmps cA cB w3.heap.size .ready none with state := .exhausted })).heap[w3.heap.size]? = some (.deferred (some [])) := (World.putObj_heap_other (by omega)).trans hD4
    show Code.wpIn Fence.wide 0 Try.prog (.seq c3 .ret) _ { tmps := a3.tmps, defers := [{ target := .collected w3.heap.size, args := #[] }] ++ a3.defers } (w4.putObj (w3.heap.size + 1) (.loop { rcOf fn a3.tmps cA cB w3.heap.size .ready none with state := .exhausted }))
    generalize w4.putObj (w3.heap.size + 1) (.loop { rcOf fn a3.tmps cA cB w3.heap.size .ready none with state := .exhausted }) = w5 at *
    rw [hdf3, List.append_nil]
    have hlt : w3.heap.size < w5.heap.size := (Array.getElem?_eq_some_iff.1 hD5).1
    obtain ⟨hr7, -⟩ := hr6.root
    have hrel7 : Rel (rootCx x C4 (hP 0 v4 [] es') w5) 23 ⟨mkE .top [(4, .ptr 2 0), (3, .ptr 1 0), (2, .ptr 0 0)], hP 0 v4 [] es'⟩ { tmps := a3.tmps, defers := [] } w5 := by
      refine ⟨⟨C4, hr7, fun t => ?_⟩, rfl, hsz3⟩
      simp only [mkE]
      by_cases t4 : 4 = t
      · rw [if_pos t4, ← t4, h4, ← hb5 2 (by omega)]; exact .ptr 2 0 (by omega)
      · rw [if_neg t4]
        by_cases t3 : 3 = t
        · rw [if_pos t3, ← t3, h3, ← hb5 1 (by omega)]; exact .ptr 1 0 (by omega)
        · rw [if_neg t3]
          by_cases t2 : 2 = t
          · rw [if_pos t2, ← t2, h2, ← hb5 0 (by omega)]; exact .ptr 0 0 (by omega)
          · rw [if_neg t2]; exact .any
    refine wpIn_seq (wpIn_mono (WI_list (n := 0) (lops := lc3) (Q := fun e a w => e = .normal ∧ a.defers = [{ target := .collected w3.heap.size, args := #[] }] ∧ ∃ st', st' = (⟨mkE .top [(22, .arr 4 v4), (4, .ptr 2 0), (3, .ptr 1 0), (2, .ptr 0 0)], [.box [.arr 4 v4], .box [.int .i64 0], .box [.arr 4 v4], .box [.str (BA [])], .arr v4 true false 44 5 (es'.map cE)]⟩ : St) ∧ Rel (rootCx x C4 (hP 0 v4 [] es') w5) 23 st' { a with defers := [] } w)
      (fun ops os hl => plain_list (K := fun st' => st' = (⟨mkE .top [(22, .arr 4 v4), (4, .ptr 2 0), (3, .ptr 1 0), (2, .ptr 0 0)], [.box [.arr 4 v4], .box [.int .i64 0], .box [.arr 4 v4], .box [.str (BA [])], .arr v4 true false 44 5 (es'.map cE)]⟩ : St)) os lc3 _ ({ tmps := a3.tmps, defers := [{ target := .collected w3.heap.size, args := #[] }] } : Act) w5 hl rfl ?_ hrel7 (fun st' a' w' k1 k2 k3 => ⟨rfl, rfl, k3, st', k1, k2⟩)) c3 l3) ?_)
    · unfold lc3
      simp only [go_sem, Nat.reduceLT, Nat.reduceAdd, Nat.reduceEqDiff, Nat.reduceLeDiff, Nat.reduceSub, Nat.reduceMul, Int.reduceEq, eq_self, reduceIte, hP]
    · intro e a8 w8 hq
      cases e <;> simp only [postI] at hq
      case normal =>
        obtain ⟨-, hd8, st8, rfl, ⟨C8, hr8, he8⟩, -, hsz8⟩ := hq
        have hn8 : C8.n = 5 := hr8.n
        obtain ⟨hr9, -, hf9⟩ := hr6.unroot hr8
        have hD8 : w8.heap[w3.heap.size]? = some (.deferred (some [])) := (hf9 _ hlt fun i ob hi => hr6.notHeld (fun cs T f h => by rw [hD5] at h; cases h) hi).trans hD5
        refine wpIn_ret ?_
        show LeavesInM Fence.wide 0 Try.prog Try.f8 a8.tmps _ a8.defers .returning w8
        rw [hd8, hpk]
        refine pk_leave hr9 (by omega) (he8 2).ptr_inv.1 (he8 3).ptr_inv.1 hsz8 hD8 (by omega) (ret_weak (weak_shut 4 rfl) (ret_pure hx ?_))
        simp [go_sem, Nat.reduceLT, Nat.reduceAdd, Nat.reduceEqDiff, Nat.reduceLeDiff, Nat.reduceSub, Nat.reduceMul, Int.reduceEq, eq_self, reduceIte, frzAt, pos, frz]
      all_goals first | exact hq.elim | (obtain ⟨h, _⟩ := hq; cases h)
  · refine ⟨some .ret, _, run_endLoop hL4 (by simp [rcOf]), ?_⟩
    have hn4 : C4.n = 5 := hr5.n
    obtain ⟨hr6, -⟩ := hr5.loop (r' := { rcOf fn a3.tmps cA cB w3.heap.size .done (some .ret) with state := .exhausted }) hL4 (by omega)
    refine wpIn_ret ?_
    show LeavesInM Fence.wide 0 Try.prog Try.f8 a3.tmps _ ([{ target := .collected w3.heap.size, args := #[] }] ++ a3.defers) .returning _
    rw [hdf3, List.append_nil, hpk]
    refine pk_leave hr6 (by omega) (by rw [h2, hb5 0 (by omega)]) (by rw [h3, hb5 1 (by omega)]) hsz3 ((World.putObj_heap_other (by omega)).trans hD4) (by omega) (ret_pure hx ?_)
    simp [go_sem, Nat.reduceLT, Nat.reduceAdd, Nat.reduceEqDiff, Nat.reduceLeDiff, Nat.reduceSub, Nat.reduceMul, Int.reduceEq, eq_self, reduceIte, hP]
end
end Go.Proofs.Ytkibfciheifphaa
/- Encode, by its hand walk: a contract. -/
namespace Go.Proofs.Ytkibfciheifphaa
open Go.RowKit
theorem rep_ids {T : Nat → Nat → Prop} {w : World} {v : Value} {l : List Id} (hT : ∀ b o, T b o → b < w.heap.size) (h : RepP T w (.list (l.map cId)) v) : IdsIn (fun _ => True) w v l := by
  generalize hr : l.map cId = rows at h
  cases h with
  | list rows a c sz x hc hm hsz hz hl hx =>
    subst hr
    have hlen : (l.map cId).length = l.length := by simp
    refine ⟨a, c, by rw [hlen], by simpa using hc, hm, fun k hk => ?_⟩
    have hrow : (l.map cId)[k]? = some (cId (nth l k)) := by simp [nth_get? l k hk]
    have h2 : sz = 2 := by have := hz (cId (nth l k)) (List.mem_of_getElem? hrow); simp [cId] at this; omega
    subst h2
    obtain ⟨b, o, e1, e2, e3⟩ := hl k _ 0 (.int .i64 (nth l k).r) hrow rfl
    obtain ⟨b', o', f1, f2, f3⟩ := hl k _ 1 (.int .i64 (nth l k).n) hrow rfl
    rw [e1] at f1; cases f1
    have g0 := hx k _ 0 (.int .i64 (nth l k).r) hrow rfl
    have g1 := hx k _ 1 (.int .i64 (nth l k).n) hrow rfl
    refine ⟨b, o, e1, trivial, hT _ _ e2, ?_, ?_⟩
    · rw [show o + k * 2 = o + k * 2 + 0 by omega, e3, (RepV.pure (C := ⟨0, fun _ => 0, fun _ => Go.undef, fun _ => 0⟩) g0).int_inv]
    · rw [f3, (RepV.pure (C := ⟨0, fun _ => 0, fun _ => Go.undef, fun _ => 0⟩) g1).int_inv]
end Go.Proofs.Ytkibfciheifphaa
/- Slices asked by a function: contracts of slices.IndexFunc, ContainsFunc, Index, Contains at entries, ids. -/
namespace Go.Proofs.Ytkibfciheifphaa
set_option linter.unusedSimpArgs false
set_option linter.unusedVariables false
open Go.RowKit
def idxF {α : Type} (p : α → Bool) : List α → Nat → Int
  | [], _ => -1
  | x :: l, k => if p x = true then (k : Int) else idxF p l (k + 1)
theorem idxF_drop {α : Type} [Inhabited α] (p : α → Bool) (l : List α) (k : Nat) (h : k < l.length) : idxF p (l.drop k) k = if p (nth l k) = true then (k : Int) else idxF p (l.drop (k + 1)) (k + 1) := by
  rw [List.drop_eq_getElem_cons h, idxF, nth_eq _ _ h]
instance : Inhabited Entry := ⟨⟨default, 0, ⟨#[]⟩, []⟩⟩
theorem idxF_ge {α : Type} (p : α → Bool) : ∀ (l : List α) (k : Nat), idxF p l k = -1 ∧ l.any p = false ∨ (k : Int) ≤ idxF p l k ∧ l.any p = true
  | [], k => .inl ⟨rfl, rfl⟩
  | x :: l, k => by
    simp only [idxF, List.any_cons]
    cases hx : p x
    · rcases idxF_ge p l (k + 1) with ⟨h1, h2⟩ | ⟨h1, h2⟩
      · exact .inl ⟨by simpa using h1, by simp [h2]⟩
      · exact .inr ⟨by simp; omega, by simp [h2]⟩
    · exact .inr ⟨by simp, by simp⟩
theorem idxF_any {α : Type} (p : α → Bool) (l : List α) : decide (0 ≤ idxF p l 0) = l.any p := by
  rcases idxF_ge p l 0 with ⟨h1, h2⟩ | ⟨h1, h2⟩
  · rw [h1, h2]; rfl
  · rw [h2]; simp; omega
theorem indexE_meets (l : List Entry) (g : Nat) (caps : List PV) (Hs : List AObj) (p : Entry → Bool) (hg : hasBody Try.prog g = true) (hl : l.length ≤ 9223372036854775806) (hc : ClosedH Hs caps)
    (hp : ∀ e ∈ l, Meets Try.prog g (.agg (cE e) :: caps) Hs (.bool (p e)) Hs) :
    Meets Try.prog 65 [.list (l.map cE), .clo g caps] Hs (.int .i64 (idxF p l 0)) Hs := by
  refine Meets.of_walk Try.func65 Try.ntmps65 low65 res65 (by simp) fun x hx => ?_
  simp only [go_sem, Nat.reduceLT, Nat.reduceAdd, Nat.reduceEqDiff, Nat.reduceLeDiff, Nat.reduceSub, Nat.reduceMul, Int.reduceEq, eq_self, reduceIte, L65, R65]
  refine loop_keep [0, 1, 7, 8] (fun n st => ∃ k : Nat, k + n = l.length ∧ idxF p (l.drop k) k = idxF p l 0 ∧
    st = ⟨mkE .top [(0, .list (l.map cE)), (1, .clo g caps), (7, .int .i64 l.length), (8, .int .i64 k)], Hs⟩) l.length ?_ ?_
  · refine ⟨0, by omega, by simp, ?_⟩
    simp [keep_mk, go_sem, Nat.reduceLT, Nat.reduceAdd, Nat.reduceEqDiff, Nat.reduceLeDiff, Nat.reduceSub, Nat.reduceMul, Int.reduceEq, eq_self, reduceIte]
  · rintro n st ⟨k, hk, hi, rfl⟩
    by_cases hlt : k < l.length
    · have hgt : l[k]? = some (nth l k) := nth_get? _ _ hlt
      have wk := i64_up (k := k) (by omega)
      rw [idxF_drop p l k hlt] at hi
      simp only [go_sem, Nat.reduceLT, Nat.reduceAdd, Nat.reduceEqDiff, Nat.reduceLeDiff, Nat.reduceSub, Nat.reduceMul, Int.reduceEq, eq_self, reduceIte, hlt, hgt, cE, cId]
      refine ops_callv rfl hg (.whole (hp (nth l k) (by rw [nth_eq _ _ hlt]; exact List.getElem_mem hlt)) rfl ?_ hc.sub hc.back) ?_
      · simp only [go_sem, Nat.reduceLT, Nat.reduceAdd, Nat.reduceEqDiff, Nat.reduceLeDiff, Nat.reduceSub, Nat.reduceMul, Int.reduceEq, eq_self, reduceIte, cE, cId]
        rw [hc.caps]
      cases hpk : p (nth l k)
      · rw [if_neg (by simp [hpk])] at hi
        simp only [go_sem, Nat.reduceLT, Nat.reduceAdd, Nat.reduceEqDiff, Nat.reduceLeDiff, Nat.reduceSub, Nat.reduceMul, Int.reduceEq, eq_self, reduceIte, wk]
        exact ⟨n - 1, by omega, k + 1, by omega, hi, by simp [keep_mk, go_sem, Nat.reduceLT, Nat.reduceAdd, Nat.reduceEqDiff, Nat.reduceLeDiff, Nat.reduceSub, Nat.reduceMul, Int.reduceEq, eq_self, reduceIte]⟩
      · rw [if_pos hpk] at hi
        simp only [go_sem, Nat.reduceLT, Nat.reduceAdd, Nat.reduceEqDiff, Nat.reduceLeDiff, Nat.reduceSub, Nat.reduceMul, Int.reduceEq, eq_self, reduceIte]
        refine ret_scal hx rfl hc.kept ?_
        simp [go_sem, Nat.reduceLT, Nat.reduceAdd, Nat.reduceEqDiff, Nat.reduceLeDiff, Nat.reduceSub, Nat.reduceMul, Int.reduceEq, eq_self, reduceIte, L65, R65, hi]
    · have : l.drop k = [] := List.drop_eq_nil_of_le (by omega)
      rw [this] at hi
      simp only [go_sem, Nat.reduceLT, Nat.reduceAdd, Nat.reduceEqDiff, Nat.reduceLeDiff, Nat.reduceSub, Nat.reduceMul, Int.reduceEq, eq_self, reduceIte, hlt]
      refine ret_scal hx rfl hc.kept ?_
      simp [go_sem, Nat.reduceLT, Nat.reduceAdd, Nat.reduceEqDiff, Nat.reduceLeDiff, Nat.reduceSub, Nat.reduceMul, Int.reduceEq, eq_self, reduceIte, L65, R65, ← hi, idxF]
theorem indexI_meets (l : List Id) (g : Nat) (caps : List PV) (Hs : List AObj) (p : Id → Bool) (hg : hasBody Try.prog g = true) (hl : l.length ≤ 9223372036854775806) (hc : ClosedH Hs caps)
    (hp : ∀ e ∈ l, Meets Try.prog g (.agg (cId e) :: caps) Hs (.bool (p e)) Hs) :
    Meets Try.prog 84 [.list (l.map cId), .clo g caps] Hs (.int .i64 (idxF p l 0)) Hs := by
  refine Meets.of_walk Try.func84 Try.ntmps84 low84 res84 (by simp) fun x hx => ?_
  simp only [go_sem, Nat.reduceLT, Nat.reduceAdd, Nat.reduceEqDiff, Nat.reduceLeDiff, Nat.reduceSub, Nat.reduceMul, Int.reduceEq, eq_self, reduceIte, L84, R84]
  refine loop_keep [0, 1, 7, 8] (fun n st => ∃ k : Nat, k + n = l.length ∧ idxF p (l.drop k) k = idxF p l 0 ∧
    st = ⟨mkE .top [(0, .list (l.map cId)), (1, .clo g caps), (7, .int .i64 l.length), (8, .int .i64 k)], Hs⟩) l.length ?_ ?_
  · refine ⟨0, by omega, by simp, ?_⟩
    simp [keep_mk, go_sem, Nat.reduceLT, Nat.reduceAdd, Nat.reduceEqDiff, Nat.reduceLeDiff, Nat.reduceSub, Nat.reduceMul, Int.reduceEq, eq_self, reduceIte]
  · rintro n st ⟨k, hk, hi, rfl⟩
    by_cases hlt : k < l.length
    · have hgt : l[k]? = some (nth l k) := nth_get? _ _ hlt
      have wk := i64_up (k := k) (by omega)
      rw [idxF_drop p l k hlt] at hi
      simp only [go_sem, Nat.reduceLT, Nat.reduceAdd, Nat.reduceEqDiff, Nat.reduceLeDiff, Nat.reduceSub, Nat.reduceMul, Int.reduceEq, eq_self, reduceIte, hlt, hgt, cId, cId]
      refine ops_callv rfl hg (.whole (hp (nth l k) (by rw [nth_eq _ _ hlt]; exact List.getElem_mem hlt)) rfl ?_ hc.sub hc.back) ?_
      · simp only [go_sem, Nat.reduceLT, Nat.reduceAdd, Nat.reduceEqDiff, Nat.reduceLeDiff, Nat.reduceSub, Nat.reduceMul, Int.reduceEq, eq_self, reduceIte, cId, cId]
        rw [hc.caps]
      cases hpk : p (nth l k)
      · rw [if_neg (by simp [hpk])] at hi
        simp only [go_sem, Nat.reduceLT, Nat.reduceAdd, Nat.reduceEqDiff, Nat.reduceLeDiff, Nat.reduceSub, Nat.reduceMul, Int.reduceEq, eq_self, reduceIte, wk]
        exact ⟨n - 1, by omega, k + 1, by omega, hi, by simp [keep_mk, go_sem, Nat.reduceLT, Nat.reduceAdd, Nat.reduceEqDiff, Nat.reduceLeDiff, Nat.reduceSub, Nat.reduceMul, Int.reduceEq, eq_self, reduceIte]⟩
      · rw [if_pos hpk] at hi
        simp only [go_sem, Nat.reduceLT, Nat.reduceAdd, Nat.reduceEqDiff, Nat.reduceLeDiff, Nat.reduceSub, Nat.reduceMul, Int.reduceEq, eq_self, reduceIte]
        refine ret_scal hx rfl hc.kept ?_
        simp [go_sem, Nat.reduceLT, Nat.reduceAdd, Nat.reduceEqDiff, Nat.reduceLeDiff, Nat.reduceSub, Nat.reduceMul, Int.reduceEq, eq_self, reduceIte, L84, R84, hi]
    · have : l.drop k = [] := List.drop_eq_nil_of_le (by omega)
      rw [this] at hi
      simp only [go_sem, Nat.reduceLT, Nat.reduceAdd, Nat.reduceEqDiff, Nat.reduceLeDiff, Nat.reduceSub, Nat.reduceMul, Int.reduceEq, eq_self, reduceIte, hlt]
      refine ret_scal hx rfl hc.kept ?_
      simp [go_sem, Nat.reduceLT, Nat.reduceAdd, Nat.reduceEqDiff, Nat.reduceLeDiff, Nat.reduceSub, Nat.reduceMul, Int.reduceEq, eq_self, reduceIte, L84, R84, ← hi, idxF]
theorem contFE_meets (l : List Entry) (g : Nat) (caps : List PV) (Hs : List AObj) (p : Entry → Bool) (hg : hasBody Try.prog g = true) (hl : l.length ≤ 9223372036854775806) (hc : ClosedH Hs caps)
    (hp : ∀ e ∈ l, Meets Try.prog g (.agg (cE e) :: caps) Hs (.bool (p e)) Hs) :
    Meets Try.prog 81 [.list (l.map cE), .clo g caps] Hs (.bool (l.any p)) Hs := by
  refine Meets.of_walk Try.func81 Try.ntmps81 low81 res81 (by simp) fun x hx => ?_
  simp only [go_sem, Nat.reduceLT, Nat.reduceAdd, Nat.reduceEqDiff, Nat.reduceLeDiff, Nat.reduceSub, Nat.reduceMul, Int.reduceEq, eq_self, reduceIte, L81, R81]
  refine ops_call (.whole (indexE_meets l g caps Hs p hg hl hc hp) rfl ?_ hc.sub hc.back) ?_
  · simp only [go_sem, Nat.reduceLT, Nat.reduceAdd, Nat.reduceEqDiff, Nat.reduceLeDiff, Nat.reduceSub, Nat.reduceMul, Int.reduceEq, eq_self, reduceIte]
    rw [hc.leaf]
  simp only [go_sem, Nat.reduceLT, Nat.reduceAdd, Nat.reduceEqDiff, Nat.reduceLeDiff, Nat.reduceSub, Nat.reduceMul, Int.reduceEq, eq_self, reduceIte]
  refine ret_scal hx rfl hc.kept ?_
  simp [go_sem, Nat.reduceLT, Nat.reduceAdd, Nat.reduceEqDiff, Nat.reduceLeDiff, Nat.reduceSub, Nat.reduceMul, Int.reduceEq, eq_self, reduceIte, L81, R81, idxF_any]
theorem contFI_meets (l : List Id) (g : Nat) (caps : List PV) (Hs : List AObj) (p : Id → Bool) (hg : hasBody Try.prog g = true) (hl : l.length ≤ 9223372036854775806) (hc : ClosedH Hs caps)
    (hp : ∀ e ∈ l, Meets Try.prog g (.agg (cId e) :: caps) Hs (.bool (p e)) Hs) :
    Meets Try.prog 67 [.list (l.map cId), .clo g caps] Hs (.bool (l.any p)) Hs := by
  refine Meets.of_walk Try.func67 Try.ntmps67 low67 res67 (by simp) fun x hx => ?_
  simp only [go_sem, Nat.reduceLT, Nat.reduceAdd, Nat.reduceEqDiff, Nat.reduceLeDiff, Nat.reduceSub, Nat.reduceMul, Int.reduceEq, eq_self, reduceIte, L67, R67]
  refine ops_call (.whole (indexI_meets l g caps Hs p hg hl hc hp) rfl ?_ hc.sub hc.back) ?_
  · simp only [go_sem, Nat.reduceLT, Nat.reduceAdd, Nat.reduceEqDiff, Nat.reduceLeDiff, Nat.reduceSub, Nat.reduceMul, Int.reduceEq, eq_self, reduceIte]
    rw [hc.leaf]
  simp only [go_sem, Nat.reduceLT, Nat.reduceAdd, Nat.reduceEqDiff, Nat.reduceLeDiff, Nat.reduceSub, Nat.reduceMul, Int.reduceEq, eq_self, reduceIte]
  refine ret_scal hx rfl hc.kept ?_
  simp [go_sem, Nat.reduceLT, Nat.reduceAdd, Nat.reduceEqDiff, Nat.reduceLeDiff, Nat.reduceSub, Nat.reduceMul, Int.reduceEq, eq_self, reduceIte, L67, R67, idxF_any]
end Go.Proofs.Ytkibfciheifphaa
/- Logs: finding, counting, being ready, being right: contracts. -/
namespace Go.Proofs.Ytkibfciheifphaa
set_option linter.unusedSimpArgs false
set_option linter.unusedVariables false
open Go.RowKit
def findE (l : List Entry) (x : Id) : Int := idxF (fun e => decide (e.id = x)) l 0
theorem cE_row (l : List Entry) : ∀ row ∈ l.map cE, row.length = 5 := by simp [cE]
theorem closed1 (cells : List PV) (h : cells.map (renCell false (pos [0]) (frzAt false [.box cells])) = cells) (h2 : cells.map (renCell false (pos [0]) (frzAt true [.box cells])) = cells) (h3 : cells.map (renCell false (backF 1 [0]) noFz) = cells) :
    ClosedH [.box cells] [.ptr 0 0] := by
  refine ⟨?_, ?_, ?_, ?_, ?_⟩
  · simp [renLeaf, pos, List.range_succ]
  · simp [ren, renCell, renLeaf, pos, List.range_succ]
  · simp only [List.length_cons, List.length_nil, List.range_succ, List.range_zero, List.nil_append, subHeap, List.map_cons, List.map_nil, List.getElem?_cons_zero, Option.getD_some, renObj, h]
  · simp only [List.length_cons, List.length_nil, List.range_succ, List.range_zero, List.nil_append, merge, List.map_cons, List.map_nil, mergeObj, callId, Nat.zero_add, Nat.sub_self, Nat.add_zero]
    simp [pos, renObj, h3]
  · simp only [List.length_cons, List.length_nil, List.range_succ, List.range_zero, List.nil_append, subHeap, List.map_cons, List.map_nil, List.getElem?_cons_zero, Option.getD_some, renObj, h2]
theorem find1_meets (x : Id) (e : Entry) : Meets Try.prog 66 [.agg (cE e), .ptr 0 0] [.box (cId x)] (.bool (decide (e.id = x))) [.box (cId x)] := by
  refine Meets.of_walk Try.func66 Try.ntmps66 low66 res66 (by simp) fun xx hx => ?_
  simp only [go_sem, Nat.reduceLT, Nat.reduceAdd, Nat.reduceEqDiff, Nat.reduceLeDiff, Nat.reduceSub, Nat.reduceMul, Int.reduceEq, eq_self, reduceIte, L66, R66, cE, cId, beqId]
  refine ret_keep [] (by simp) (by simp) (by simp [hx]) ?_ ?_
  · simp [go_sem, Nat.reduceLT, Nat.reduceAdd, Nat.reduceEqDiff, Nat.reduceLeDiff, Nat.reduceSub, Nat.reduceMul, Int.reduceEq, eq_self, reduceIte, L66, R66, hx]
  · simp [subHeap, renObj, hx, go_sem, Nat.reduceLT, Nat.reduceAdd, Nat.reduceEqDiff, Nat.reduceLeDiff, Nat.reduceSub, Nat.reduceMul, Int.reduceEq, eq_self, reduceIte]
theorem closedId (x : Id) : ClosedH [.box (cId x)] [.ptr 0 0] := closed1 _ (by simp [cId, renCell, renLeaf]) (by simp [cId, renCell, renLeaf]) (by simp [cId, renCell, renLeaf])
theorem find_meets (l : List Entry) (x : Id) (hl : l.length ≤ 9223372036854775806) : Meets Try.prog 45 [.list (l.map cE), .agg (cId x)] [] (.int .i64 (findE l x)) [] := by
  refine Meets.of_walk Try.func45 Try.ntmps45 low45 res45 (by simp) fun xx hx => ?_
  simp only [go_sem, Nat.reduceLT, Nat.reduceAdd, Nat.reduceEqDiff, Nat.reduceLeDiff, Nat.reduceSub, Nat.reduceMul, Int.reduceEq, eq_self, reduceIte, L45, R45, cId]
  refine ops_call (.heapE [0] (r' := .int .i64 (findE l x)) (H' := [.box (cId x)]) (indexE_meets l 66 [.ptr 0 0] [.box (cId x)] (fun e => decide (e.id = x)) (by kernel_rfl) hl (closedId x) (fun e _ => find1_meets x e)) (by simp) (by simp) (by simp [go_sem, Nat.reduceLT, Nat.reduceAdd, Nat.reduceEqDiff, Nat.reduceLeDiff, Nat.reduceSub, Nat.reduceMul, Int.reduceEq, eq_self, reduceIte, pos]) (by simp [subHeap, renObj, go_sem, Nat.reduceLT, Nat.reduceAdd, Nat.reduceEqDiff, Nat.reduceLeDiff, Nat.reduceSub, Nat.reduceMul, Int.reduceEq, eq_self, reduceIte, cId]) rfl (by simp [merge, mergeObj, callId, renObj, pos, go_sem, Nat.reduceLT, Nat.reduceAdd, Nat.reduceEqDiff, Nat.reduceLeDiff, Nat.reduceSub, Nat.reduceMul, Int.reduceEq, eq_self, reduceIte, List.range_succ, cId])) ?_
  simp only [go_sem, Nat.reduceLT, Nat.reduceAdd, Nat.reduceEqDiff, Nat.reduceLeDiff, Nat.reduceSub, Nat.reduceMul, Int.reduceEq, eq_self, reduceIte]
  refine ret_pure hx ?_
  simp [go_sem, Nat.reduceLT, Nat.reduceAdd, Nat.reduceEqDiff, Nat.reduceLeDiff, Nat.reduceSub, Nat.reduceMul, Int.reduceEq, eq_self, reduceIte, L45, R45]
def cntR (l : List Entry) (r : Int) : Nat := l.countP fun e => decide (e.id.r = r)
theorem cntR_take (l : List Entry) (k : Nat) (r : Int) (h : k < l.length) : cntR (l.take (k + 1)) r = cntR (l.take k) r + if (nth l k).id.r = r then 1 else 0 := by
  rw [List.take_succ_eq_append_getElem h, nth_eq _ _ h]
  simp only [cntR, List.countP_append, List.countP_cons, List.countP_nil, decide_eq_true_eq]
  omega
theorem cntR_le (l : List Entry) (r : Int) : cntR l r ≤ l.length := List.countP_le_length
def okReg (l : List Entry) : Prop := ∀ e ∈ l, e.id.r = 0 ∨ e.id.r = 1
theorem many_meets (l : List Entry) (h : okReg l) (hl : l.length ≤ 1000000000000000) : Meets Try.prog 42 [.list (l.map cE)] [] (.agg [.int .i64 (cntR l 0), .int .i64 (cntR l 1)]) [] := by
  refine Meets.of_walk Try.func42 Try.ntmps42 low42 res42 (by simp) fun x hx => ?_
  simp only [go_sem, Nat.reduceLT, Nat.reduceAdd, Nat.reduceEqDiff, Nat.reduceLeDiff, Nat.reduceSub, Nat.reduceMul, Int.reduceEq, eq_self, reduceIte, L42, R42]
  refine loop_inv [2, 3, 6, 7, 8] 2 (fun n st => ∃ k : Nat, k + n = l.length ∧
    st = ⟨mkE .top [(2, .ptr 0 0), (3, .ptr 1 0), (6, .list (l.map cE)), (7, .int .i64 l.length), (8, .int .i64 k)], [.box [.int .i64 0, .int .i64 0], .box [.int .i64 (cntR (l.take k) 0), .int .i64 (cntR (l.take k) 1)]]⟩) l.length (by simp [hx]) (by simp) ?_ ?_
  · refine ⟨0, by omega, ?_⟩
    simp [trim_mk, go_sem, Nat.reduceLT, Nat.reduceAdd, Nat.reduceEqDiff, Nat.reduceLeDiff, Nat.reduceSub, Nat.reduceMul, Int.reduceEq, eq_self, reduceIte, subHeap, renObj, pos, List.range_succ, cntR]
  · rintro n st ⟨k, hk, rfl⟩
    by_cases hlt : k < l.length
    · have hg : l[k]? = some (nth l k) := nth_get? _ _ hlt
      have wk := i64_up (k := k) (by omega)
      have hle : ∀ r, cntR (l.take k) r ≤ 1000000000000000 := fun r => by have := cntR_le (l.take k) r; rw [List.length_take] at this; omega
      have w0 := i64_up (k := cntR (l.take k) 0) (by have := hle 0; omega)
      have w1 := i64_up (k := cntR (l.take k) 1) (by have := hle 1; omega)
      have c0 := cntR_take l k 0 hlt
      have c1 := cntR_take l k 1 hlt
      rcases h (nth l k) (by rw [nth_eq _ _ hlt]; exact List.getElem_mem hlt) with hr | hr
      · rw [hr] at c0 c1
        simp only [go_sem, Nat.reduceLT, Nat.reduceAdd, Nat.reduceEqDiff, Nat.reduceLeDiff, Nat.reduceSub, Nat.reduceMul, Int.reduceEq, eq_self, reduceIte, hlt, hg, cE, hr, w0, w1, wk, Int.reduceLE, Int.reduceLT, Int.reduceToNat, Int.cast_ofNat_Int, Int.ofNat_zero, Int.toNat_zero, Int.le_refl]
        refine ⟨by simp, n - 1, by omega, k + 1, by omega, ?_⟩
        simp [trim_mk, go_sem, Nat.reduceLT, Nat.reduceAdd, Nat.reduceEqDiff, Nat.reduceLeDiff, Nat.reduceSub, Nat.reduceMul, Int.reduceEq, eq_self, reduceIte, subHeap, renObj, pos, List.range_succ, c0, c1]
      · rw [hr] at c0 c1
        simp only [go_sem, Nat.reduceLT, Nat.reduceAdd, Nat.reduceEqDiff, Nat.reduceLeDiff, Nat.reduceSub, Nat.reduceMul, Int.reduceEq, eq_self, reduceIte, hlt, hg, cE, hr, w0, w1, wk, Int.reduceLE, Int.reduceLT, Int.reduceToNat, Int.cast_ofNat_Int, Int.ofNat_zero, Int.toNat_zero, Int.le_refl]
        refine ⟨by simp, n - 1, by omega, k + 1, by omega, ?_⟩
        simp [trim_mk, go_sem, Nat.reduceLT, Nat.reduceAdd, Nat.reduceEqDiff, Nat.reduceLeDiff, Nat.reduceSub, Nat.reduceMul, Int.reduceEq, eq_self, reduceIte, subHeap, renObj, pos, List.range_succ, c0, c1]
    · have : l.take k = l := List.take_of_length_le (by omega)
      simp only [go_sem, Nat.reduceLT, Nat.reduceAdd, Nat.reduceEqDiff, Nat.reduceLeDiff, Nat.reduceSub, Nat.reduceMul, Int.reduceEq, eq_self, reduceIte, hlt]
      refine ret_pure hx ?_
      simp [go_sem, Nat.reduceLT, Nat.reduceAdd, Nat.reduceEqDiff, Nat.reduceLeDiff, Nat.reduceSub, Nat.reduceMul, Int.reduceEq, eq_self, reduceIte, L42, R42, this]
end Go.Proofs.Ytkibfciheifphaa
/- Logs: being ready, being right: contracts. -/
namespace Go.Proofs.Ytkibfciheifphaa
set_option linter.unusedSimpArgs false
set_option linter.unusedVariables false
open Go.RowKit
def readyB (l : List Entry) (e : Entry) : Bool := decide ((cntR l e.id.r : Int) + 1 = e.id.n) && !(e.ls.any fun x => decide (findE l x < 0))
theorem ready1_meets (l : List Entry) (x : Id) (hl : l.length ≤ 9223372036854775806) : Meets Try.prog 68 [.agg (cId x), .ptr 0 0] [.box [.list (l.map cE)]] (.bool (decide (findE l x < 0))) [.box [.list (l.map cE)]] := by
  refine Meets.of_walk Try.func68 Try.ntmps68 low68 res68 (by simp) fun xx hx => ?_
  simp only [go_sem, Nat.reduceLT, Nat.reduceAdd, Nat.reduceEqDiff, Nat.reduceLeDiff, Nat.reduceSub, Nat.reduceMul, Int.reduceEq, eq_self, reduceIte, L68, R68, cId]
  refine ops_call (.pureE (find_meets l x hl) (by simp [go_sem, Nat.reduceLT, Nat.reduceAdd, Nat.reduceEqDiff, Nat.reduceLeDiff, Nat.reduceSub, Nat.reduceMul, Int.reduceEq, eq_self, reduceIte, cId])) ?_
  simp only [go_sem, Nat.reduceLT, Nat.reduceAdd, Nat.reduceEqDiff, Nat.reduceLeDiff, Nat.reduceSub, Nat.reduceMul, Int.reduceEq, eq_self, reduceIte]
  refine ret_keep [] (by simp) (by simp) (by simp [hx]) ?_ ?_
  · simp [go_sem, Nat.reduceLT, Nat.reduceAdd, Nat.reduceEqDiff, Nat.reduceLeDiff, Nat.reduceSub, Nat.reduceMul, Int.reduceEq, eq_self, reduceIte, L68, R68, hx]
  · simp [subHeap, renObj, hx, go_sem, Nat.reduceLT, Nat.reduceAdd, Nat.reduceEqDiff, Nat.reduceLeDiff, Nat.reduceSub, Nat.reduceMul, Int.reduceEq, eq_self, reduceIte]
theorem closedL (l : List Entry) : ClosedH [.box [.list (l.map cE)]] [.ptr 0 0] := closed1 _ (by simp [renCell, renLeaf]) (by simp [renCell, renLeaf]) (by simp [renCell, renLeaf])
theorem ready_meets (l : List Entry) (e : Entry) (h : okReg l) (hl : l.length ≤ 1000000000000000) (he : e.id.r = 0 ∨ e.id.r = 1) (hls : e.ls.length ≤ 9223372036854775806) :
    Meets Try.prog 46 [.list (l.map cE), .agg (cE e)] [] (.bool (readyB l e)) [] := by
  refine Meets.of_walk Try.func46 Try.ntmps46 low46 res46 (by simp) fun x hx => ?_
  have hw : IntKind.i64.wrap ((cntR l e.id.r : Int) + 1) = (cntR l e.id.r : Int) + 1 := by have := cntR_le l e.id.r; rw [IntWalk.i64_in _ (by omega)]
  simp only [go_sem, Nat.reduceLT, Nat.reduceAdd, Nat.reduceEqDiff, Nat.reduceLeDiff, Nat.reduceSub, Nat.reduceMul, Int.reduceEq, eq_self, reduceIte, L46, R46, cE]
  refine ops_call (.pure (many_meets l h hl)) ?_
  have hany := contFI_meets e.ls 68 [.ptr 0 0] [.box [.list (l.map cE)]] (fun x => decide (findE l x < 0)) (by kernel_rfl) hls (closedL l) (fun y _ => ready1_meets l y (by omega))
  rcases he with hr | hr
  all_goals
    rw [hr] at hw
    by_cases hc : (cntR l e.id.r : Int) + 1 = e.id.n
    · have hc' := hc
      rw [hr] at hc'
      have dc := decide_eq_true hc'
      simp only [go_sem, Nat.reduceLT, Nat.reduceAdd, Nat.reduceEqDiff, Nat.reduceLeDiff, Nat.reduceSub, Nat.reduceMul, Int.reduceEq, eq_self, reduceIte, hr, hw, dc, Int.reduceLE, Int.reduceLT, Int.reduceToNat, Int.cast_ofNat_Int, Int.ofNat_zero, Int.toNat_zero, Int.le_refl]
      refine ops_call (.heapE [0] (r' := .bool (e.ls.any fun x => decide (findE l x < 0))) (H' := [.box [.list (l.map cE)], .box (cE e)]) hany (by simp) (by simp) (by simp [go_sem, Nat.reduceLT, Nat.reduceAdd, Nat.reduceEqDiff, Nat.reduceLeDiff, Nat.reduceSub, Nat.reduceMul, Int.reduceEq, eq_self, reduceIte, pos]) (by simp [subHeap, renObj, go_sem, Nat.reduceLT, Nat.reduceAdd, Nat.reduceEqDiff, Nat.reduceLeDiff, Nat.reduceSub, Nat.reduceMul, Int.reduceEq, eq_self, reduceIte]) rfl (by simp [merge, mergeObj, callId, renObj, pos, go_sem, Nat.reduceLT, Nat.reduceAdd, Nat.reduceEqDiff, Nat.reduceLeDiff, Nat.reduceSub, Nat.reduceMul, Int.reduceEq, eq_self, reduceIte, List.range_succ, cE, hr])) ?_
      simp only [go_sem, Nat.reduceLT, Nat.reduceAdd, Nat.reduceEqDiff, Nat.reduceLeDiff, Nat.reduceSub, Nat.reduceMul, Int.reduceEq, eq_self, reduceIte]
      refine ret_pure hx ?_
      simp [go_sem, Nat.reduceLT, Nat.reduceAdd, Nat.reduceEqDiff, Nat.reduceLeDiff, Nat.reduceSub, Nat.reduceMul, Int.reduceEq, eq_self, reduceIte, L46, R46, readyB, hc]
    · have hc' := hc
      rw [hr] at hc'
      simp only [go_sem, Nat.reduceLT, Nat.reduceAdd, Nat.reduceEqDiff, Nat.reduceLeDiff, Nat.reduceSub, Nat.reduceMul, Int.reduceEq, eq_self, reduceIte, hr, hw, hc', Int.reduceLE, Int.reduceLT, Int.reduceToNat, Int.cast_ofNat_Int, Int.ofNat_zero, Int.toNat_zero, Int.le_refl]
      refine ret_pure hx ?_
      simp [go_sem, Nat.reduceLT, Nat.reduceAdd, Nat.reduceEqDiff, Nat.reduceLeDiff, Nat.reduceSub, Nat.reduceMul, Int.reduceEq, eq_self, reduceIte, L46, R46, readyB, hc]
def logErr (l : List Entry) (k : Nat) : Int :=
  if checkEntry (nth l k) ≠ 0 then checkEntry (nth l k) else if 0 ≤ findE (l.take k) (nth l k).id then 6
  else if (cntR (l.take k) (nth l k).id.r : Int) + 1 ≠ (nth l k).id.n then 4 else if readyB (l.take k) (nth l k) = false then 5 else 0
def checkLog (l : List Entry) : Int := if 40 < l.length then 2 else firstNZ (logErr l) l.length
theorem reg_of_check {e : Entry} (h : checkEntry e = 0) : e.id.r = 0 ∨ e.id.r = 1 := by
  have := (check_ok_bounds h).1
  simp only [okId, Bool.and_eq_true, wthn_iff] at this
  omega
theorem okReg_take {l : List Entry} {k : Nat} (h : firstNZ (logErr l) k = 0) (hk : k ≤ l.length) : okReg (l.take k) := by
  intro e he
  obtain ⟨j, hj, rfl⟩ := List.getElem_of_mem he
  rw [List.length_take] at hj
  have h0 := firstNZ_zero.1 h j (by omega)
  have hc : checkEntry (nth l j) = 0 := by
    unfold logErr at h0
    split at h0
    · exact h0
    · rename_i h; simpa using h
  rw [List.getElem_take, ← nth_eq l j (by omega)]
  exact reg_of_check hc
theorem dagCheck_meets (l : List Entry) (hm : l.length ≤ 9223372036854775806) : Meets Try.prog 23 [.list (l.map cE)] [] (.int .i64 (checkLog l)) [] := by
  refine Meets.of_walk Try.func23 Try.ntmps23 low23 res23 (by simp) fun x hx => ?_
  by_cases h40 : 40 < l.length
  · have d40 : decide ((40 : Int) < (l.length : Nat)) = true := by simp; omega
    simp only [go_sem, Nat.reduceLT, Nat.reduceAdd, Nat.reduceEqDiff, Nat.reduceLeDiff, Nat.reduceSub, Nat.reduceMul, Int.reduceEq, eq_self, reduceIte, L23, R23, d40]
    refine ret_pure hx ?_
    simp [go_sem, Nat.reduceLT, Nat.reduceAdd, Nat.reduceEqDiff, Nat.reduceLeDiff, Nat.reduceSub, Nat.reduceMul, Int.reduceEq, eq_self, reduceIte, L23, R23, checkLog, h40]
  have d40 : decide ((40 : Int) < (l.length : Nat)) = false := by simp; omega
  have hcl : checkLog l = firstNZ (logErr l) l.length := by simp [checkLog, h40]
  simp only [go_sem, Nat.reduceLT, Nat.reduceAdd, Nat.reduceEqDiff, Nat.reduceLeDiff, Nat.reduceSub, Nat.reduceMul, Int.reduceEq, eq_self, reduceIte, L23, R23, d40, hcl]
  refine loop_inv [0, 9, 10, 11] 0 (fun n st => ∃ k : Nat, k + n = l.length ∧ firstNZ (logErr l) k = 0 ∧
    st = ⟨mkE .top [(0, .list (l.map cE)), (9, .list (l.map cE)), (10, .int .i64 l.length), (11, .int .i64 k)], []⟩) l.length (by simp [hx]) (by simp) ?_ ?_
  · refine ⟨0, by omega, rfl, ?_⟩
    simp [trim_mk, go_sem, Nat.reduceLT, Nat.reduceAdd, Nat.reduceEqDiff, Nat.reduceLeDiff, Nat.reduceSub, Nat.reduceMul, Int.reduceEq, eq_self, reduceIte, subHeap, renObj, pos]
  · rintro n st ⟨k, hk, hz, rfl⟩
    by_cases hlt : k < l.length
    · have hg : l[k]? = some (nth l k) := nth_get? _ _ hlt
      have wk := i64_up (k := k) (by omega)
      have hle : k ≤ l.length := by omega
      have hrow : (∀ row ∈ List.map cE l, row.length = 5) = True := eq_true (cE_row l)
      have htk : List.take k (List.map cE l) = List.map cE (List.take k l) := List.map_take.symm
      have hlk : (l.take k).length ≤ 40 := by rw [List.length_take]; omega
      have hreg := okReg_take hz hle
      have fin : ∀ r : Int, logErr l k = r → r ≠ 0 → firstNZ (logErr l) l.length = r := fun r h1 h2 => by rw [firstNZ_hit hz (by rw [h1]; exact h2) hlt, h1]
      simp only [go_sem, Nat.reduceLT, Nat.reduceAdd, Nat.reduceEqDiff, Nat.reduceLeDiff, Nat.reduceSub, Nat.reduceMul, Int.reduceEq, eq_self, reduceIte, hlt, hg, cE]
      refine ops_call (.pureE (check_meets (nth l k)) (by simp [go_sem, Nat.reduceLT, Nat.reduceAdd, Nat.reduceEqDiff, Nat.reduceLeDiff, Nat.reduceSub, Nat.reduceMul, Int.reduceEq, eq_self, reduceIte, cE])) ?_
      by_cases h1 : checkEntry (nth l k) = 0
      · have hr := reg_of_check h1
        simp only [go_sem, Nat.reduceLT, Nat.reduceAdd, Nat.reduceEqDiff, Nat.reduceLeDiff, Nat.reduceSub, Nat.reduceMul, Int.reduceEq, eq_self, reduceIte, h1, hle, hrow, htk, Int.le_refl, Int.sub_zero, Int.toNat_zero, Int.natCast_nonneg, cE]
        refine ops_call (.pureE (find_meets (l.take k) (nth l k).id (by omega)) (by simp [go_sem, Nat.reduceLT, Nat.reduceAdd, Nat.reduceEqDiff, Nat.reduceLeDiff, Nat.reduceSub, Nat.reduceMul, Int.reduceEq, eq_self, reduceIte, cId])) ?_
        by_cases h2 : 0 ≤ findE (l.take k) (nth l k).id
        · simp only [go_sem, Nat.reduceLT, Nat.reduceAdd, Nat.reduceEqDiff, Nat.reduceLeDiff, Nat.reduceSub, Nat.reduceMul, Int.reduceEq, eq_self, reduceIte, h2]
          refine ret_pure hx ?_
          have : logErr l k = 6 := by simp [logErr, h1, h2]
          simp [go_sem, Nat.reduceLT, Nat.reduceAdd, Nat.reduceEqDiff, Nat.reduceLeDiff, Nat.reduceSub, Nat.reduceMul, Int.reduceEq, eq_self, reduceIte, L23, R23, fin _ this (by decide)]
        simp only [go_sem, Nat.reduceLT, Nat.reduceAdd, Nat.reduceEqDiff, Nat.reduceLeDiff, Nat.reduceSub, Nat.reduceMul, Int.reduceEq, eq_self, reduceIte, h2, hle, hrow, htk, Int.le_refl, Int.sub_zero, Int.toNat_zero, Int.natCast_nonneg, cE]
        refine ops_call (.pureE (many_meets (l.take k) hreg (by omega)) (by simp [go_sem, Nat.reduceLT, Nat.reduceAdd, Nat.reduceEqDiff, Nat.reduceLeDiff, Nat.reduceSub, Nat.reduceMul, Int.reduceEq, eq_self, reduceIte])) ?_
        have hw : ∀ r, IntKind.i64.wrap ((cntR (l.take k) r : Int) + 1) = (cntR (l.take k) r : Int) + 1 := fun r => by have := cntR_le (l.take k) r; rw [IntWalk.i64_in _ (by omega)]
        by_cases h3 : (cntR (l.take k) (nth l k).id.r : Int) + 1 = (nth l k).id.n
        · have h3e : logErr l k = if readyB (l.take k) (nth l k) = false then 5 else 0 := by simp [logErr, h1, h2, h3]
          rcases hr with hr | hr
          all_goals
            have h3' := h3
            rw [hr] at h3'
            have dc := decide_eq_true h3'
            simp only [go_sem, Nat.reduceLT, Nat.reduceAdd, Nat.reduceEqDiff, Nat.reduceLeDiff, Nat.reduceSub, Nat.reduceMul, Int.reduceEq, eq_self, reduceIte, hr, hw, dc, hle, hrow, htk, Int.sub_zero, Int.natCast_nonneg, cE, Int.reduceLE, Int.reduceLT, Int.reduceToNat, Int.cast_ofNat_Int, Int.ofNat_zero, Int.toNat_zero, Int.le_refl]
            refine ops_call (.pureE (ready_meets (l.take k) (nth l k) hreg (by omega) (by omega) (by have := (check_ok_bounds h1).2.2.2.1; omega)) (by simp [go_sem, Nat.reduceLT, Nat.reduceAdd, Nat.reduceEqDiff, Nat.reduceLeDiff, Nat.reduceSub, Nat.reduceMul, Int.reduceEq, eq_self, reduceIte, cE, hr])) ?_
            cases h4 : readyB (l.take k) (nth l k)
            · simp only [go_sem, Nat.reduceLT, Nat.reduceAdd, Nat.reduceEqDiff, Nat.reduceLeDiff, Nat.reduceSub, Nat.reduceMul, Int.reduceEq, eq_self, reduceIte]
              refine ret_pure hx ?_
              have : logErr l k = 5 := by rw [h3e, if_pos h4]
              simp [go_sem, Nat.reduceLT, Nat.reduceAdd, Nat.reduceEqDiff, Nat.reduceLeDiff, Nat.reduceSub, Nat.reduceMul, Int.reduceEq, eq_self, reduceIte, L23, R23, fin _ this (by decide)]
            · simp only [go_sem, Nat.reduceLT, Nat.reduceAdd, Nat.reduceEqDiff, Nat.reduceLeDiff, Nat.reduceSub, Nat.reduceMul, Int.reduceEq, eq_self, reduceIte, wk]
              refine ⟨by simp, n - 1, by omega, k + 1, by omega, firstNZ_succ hz (by rw [h3e, if_neg (by simp [h4])]), ?_⟩
              simp [trim_mk, go_sem, Nat.reduceLT, Nat.reduceAdd, Nat.reduceEqDiff, Nat.reduceLeDiff, Nat.reduceSub, Nat.reduceMul, Int.reduceEq, eq_self, reduceIte, subHeap, renObj, pos]
        · rcases hr with hr | hr
          all_goals
            have h3' := h3
            rw [hr] at h3'
            have dc := decide_eq_false h3'
            simp only [go_sem, Nat.reduceLT, Nat.reduceAdd, Nat.reduceEqDiff, Nat.reduceLeDiff, Nat.reduceSub, Nat.reduceMul, Int.reduceEq, eq_self, reduceIte, hr, hw, dc, Int.reduceLE, Int.reduceLT, Int.reduceToNat, Int.cast_ofNat_Int, Int.ofNat_zero, Int.toNat_zero, Int.le_refl]
            refine ret_pure hx ?_
            have : logErr l k = 4 := by simp [logErr, h1, h2, h3]
            simp [go_sem, Nat.reduceLT, Nat.reduceAdd, Nat.reduceEqDiff, Nat.reduceLeDiff, Nat.reduceSub, Nat.reduceMul, Int.reduceEq, eq_self, reduceIte, L23, R23, fin _ this (by decide)]
      · simp only [go_sem, Nat.reduceLT, Nat.reduceAdd, Nat.reduceEqDiff, Nat.reduceLeDiff, Nat.reduceSub, Nat.reduceMul, Int.reduceEq, eq_self, reduceIte, h1]
        refine ret_pure hx ?_
        have : logErr l k = checkEntry (nth l k) := by simp [logErr, h1]
        simp [go_sem, Nat.reduceLT, Nat.reduceAdd, Nat.reduceEqDiff, Nat.reduceLeDiff, Nat.reduceSub, Nat.reduceMul, Int.reduceEq, eq_self, reduceIte, L23, R23, fin _ this h1]
    · have hke : k = l.length := by omega
      subst hke
      simp only [go_sem, Nat.reduceLT, Nat.reduceAdd, Nat.reduceEqDiff, Nat.reduceLeDiff, Nat.reduceSub, Nat.reduceMul, Int.reduceEq, eq_self, reduceIte, Nat.lt_irrefl, hz]
      refine ret_pure hx ?_
      simp [go_sem, Nat.reduceLT, Nat.reduceAdd, Nat.reduceEqDiff, Nat.reduceLeDiff, Nat.reduceSub, Nat.reduceMul, Int.reduceEq, eq_self, reduceIte, L23, R23, hz]
end Go.Proofs.Ytkibfciheifphaa
/- Array objects and the rows of cells where they lie: what holds in memory of an array, and what may be said when its cells were laid anew. -/
namespace Go.Proofs.Ytkibfciheifphaa
open Go.RowKit
section
variable {x : Cx} {C : Conc} {H : List AObj} {w w' : World}
theorem HR.row (hr : HR x C H w) {id v T sz : Nat} {sto : Bool} {rows : List (List PV)} {u : Value} (hid : H[id]? = some (.arr v sto false T sz rows)) (hu : RepV (Stab x C H w) w C (.arr id v) u) :
    u = C.sv id ∧ (∀ row ∈ rows, row.length = sz) ∧ (u = .slice none 0 0 ∧ rows = [] ∨ ∃ (g cap : Nat) (cur : Array Value), u = .slice (some ⟨g, 0, none⟩) rows.length cap ∧ w.heap[g]? = some (.cells cur T (0, 0)) ∧ rows.length ≤ cap ∧ cap ≤ maxLen ∧ cur.size = cap * sz ∧
      ∀ (k : Nat) row (j : Nat) p, rows[k]? = some row → row[j]? = some p → ∃ y, cur[k * sz + j]? = some y ∧ y.oneCell' = true ∧ RepP (Stab x C H w) w p y) := by
  obtain ⟨o1, o2, o3, xs, o4, o5⟩ := hr.obj id _ hid
  obtain ⟨e, hi⟩ := hu.arr_inv o1
  refine ⟨e, o3, ?_⟩
  rcases o4.2 with ⟨g1, g2⟩ | ⟨g, cap, cur, g1, -, g2, g3, g4, g5, g6⟩
  · exact .inl ⟨e.trans g1, List.length_eq_zero_iff.1 g2⟩
  · refine .inr ⟨g, cap, cur, e.trans g1, g2, g3, g4, g5, fun k row j p a b => ?_⟩
    have hk : k < rows.length := (List.getElem?_eq_some_iff.1 a).1
    have hj : j < sz := by rw [← o3 row (List.mem_of_getElem? a)]; exact (List.getElem?_eq_some_iff.1 b).1
    have hkl : k * sz + j < rows.length * sz := by
      have : (k + 1) * sz ≤ rows.length * sz := Nat.mul_le_mul_right _ hk
      rw [Nat.add_mul] at this; omega
    have hcl : rows.length * sz ≤ cap * sz := Nat.mul_le_mul_right _ g3
    have hlt : k * sz + j < cur.size := by omega
    have hx : xs[k * sz + j]? = some cur[k * sz + j] := by rw [← g6, List.getElem?_take, if_pos hkl, Array.getElem?_toList, Array.getElem?_eq_getElem hlt]
    have := o5 k row j p _ a b hx
    simp only [Bool.false_eq_true, if_false] at this
    exact ⟨_, Array.getElem?_eq_getElem hlt, this⟩
theorem HR.drop (hr : HR x C H w) {id v T sz g cap' : Nat} {rows rows' : List (List PV)} {cur' : Array Value} {fr : Nat × Nat}
    (hid : H[id]? = some (.arr v true false T sz rows)) (hs : Step w w' fun b => (C.sv id).ownBlock = some b) (hg : (C.sv id).ownBlock = some g)
    (hc : w'.heap[g]? = some (.cells cur' T fr)) (hn : rows'.length ≤ cap') (hm : cap' ≤ maxLen) (hz : cur'.size = cap' * sz) (hrow : ∀ row ∈ rows', row.length = sz)
    (hrep : ∀ (k : Nat) row (j : Nat) p u, rows'[k]? = some row → row[j]? = some p → cur'[k * sz + j]? = some u → RepP (Stab x C H w) w p u) :
    HR x C (H.set id .gone) w' ∧ (∀ p u, RepV (Stab x C H w) w C p u → RepV (Stab x C (H.set id .gone) w') w' C p u) ∧
      RepP (Stab x C (H.set id .gone) w') w' (.list rows') (.slice (some ⟨g, 0, none⟩) rows'.length cap') := by
  obtain ⟨o1, o2, o3, xs, o4, o5⟩ := hr.obj id _ hid
  have hlt : id < H.length := (List.getElem?_eq_some_iff.1 hid).1
  have hgb : g < w'.heap.size := (Array.getElem?_eq_some_iff.1 hc).1
  have hmp : ∀ p v, RepP (Stab x C H w) w p v → RepP (Stab x C (H.set id .gone) w') w' p v := by
    intro p v h
    refine h.mono (fun b o h => ⟨h.1, Nat.lt_of_lt_of_le h.2.1 hs.size, fun i ob1 hi => ?_⟩) fun b o h => cell_eq (hs.blk b h.2.1 fun hb => ?_)
    · by_cases e : i = id
      · subst e; rw [List.getElem?_set_self hlt] at hi; cases hi; trivial
      · rw [List.getElem?_set_ne (Ne.symm e)] at hi; exact h.2.2 i ob1 hi
    · have := h.2.2 id _ hid hb; simp at this
  obtain ⟨k1, k2⟩ := hr.change (C' := C) hid (ob' := .gone) hs rfl (fun _ => rfl) (fun _ _ => ⟨rfl, rfl⟩) (.inl ⟨rfl, rfl⟩)
    (fun b o hb hf => trivial) (fun b o hb hf => by have := hf hb; simp at this) (fun b hb => hb.elim) (fun _ _ => trivial)
  refine ⟨k1, k2, ?_⟩
  refine .list rows' _ cap' sz (fun k j => cur'[k * sz + j]!) hn hm o2 hrow (fun k row j p a b => ⟨g, 0, rfl, ?_, ?_⟩) fun k row j p a b => ?_
  · refine ⟨?_, hgb, fun i ob1 hi => ?_⟩
    · rcases hr.mine id _ g hid hg with h | h
      · exact .inr (.inl h)
      · exact .inr (.inr h)
    · by_cases e : i = id
      · subst e; rw [List.getElem?_set_self hlt] at hi; cases hi; trivial
      · rw [List.getElem?_set_ne (Ne.symm e)] at hi
        exact AObj.free_of_not (fun hb => e (hr.apart i id ob1 _ g hi hid hb hg)) _
  all_goals
    have hk : k < rows'.length := (List.getElem?_eq_some_iff.1 a).1
    have hj : j < sz := by rw [← hrow row (List.mem_of_getElem? a)]; exact (List.getElem?_eq_some_iff.1 b).1
    have hkl : k * sz + j < cur'.size := by
      have h1 : (k + 1) * sz ≤ rows'.length * sz := Nat.mul_le_mul_right _ hk
      have h2 : rows'.length * sz ≤ cap' * sz := Nat.mul_le_mul_right _ hn
      rw [Nat.add_mul] at h1; omega
  · simp [World.cell?, hc, hkl]
  · exact hmp _ _ (hrep k row j p _ a b (by simp [hkl]))
end
end Go.Proofs.Ytkibfciheifphaa
/- Rows of plain cells: the kit's words on rows, and arrays of the calculus. -/
namespace Go.Proofs.Ytkibfciheifphaa
open Go.RowKit
open Go.Sort (flatK putRowK HoldsK size_flatK get_flatK putCells mapBlock onCells)
structure Flat {α : Type} (pv : α → List PV) (enc : α → List Value) (k : Nat) : Prop where
  k0 : 0 < k
  len : ∀ a, (enc a).length = k
  lenp : ∀ a, (pv a).length = k
  one : ∀ a, ∀ v ∈ enc a, v.oneCell' = true
  fit : ∀ S w a (j : Nat) p, (pv a)[j]? = some p → RepP S w p ((enc a)[j]!)
  back : ∀ S w a (j : Nat) p u, (pv a)[j]? = some p → RepP S w p u → u = (enc a)[j]!
section
variable {α : Type} [Inhabited α] {pv : α → List PV} {enc : α → List Value} {k : Nat}
theorem Flat.holds (F : Flat pv enc k) {S : Nat → Nat → Prop} {w : World} {g T : Nat} {cur : Array Value} (l : List α) (hc : w.heap[g]? = some (.cells cur T (0, 0)))
    (h : ∀ (i : Nat) row (j : Nat) p, (l.map pv)[i]? = some row → row[j]? = some p → ∃ y, cur[i * k + j]? = some y ∧ y.oneCell' = true ∧ RepP S w p y) : HoldsK enc k w g 0 l.toArray := by
  intro t ht
  rw [size_flatK] at ht
  rw [get_flatK _ _ _ _ ht]
  have k0 := F.k0
  have hi : t / k < l.length := Nat.div_lt_of_lt_mul (by rw [Nat.mul_comm]; simpa using ht)
  have hj : t % k < k := Nat.mod_lt _ k0
  have e : t / k * k + t % k = t := by rw [Nat.mul_comm]; exact Nat.div_add_mod t k
  obtain ⟨y, h1, -, h3⟩ := h (t / k) (pv l[t / k]) (t % k) ((pv l[t / k])[t % k]'(by rw [F.lenp]; exact hj)) (by simp [hi]) (by rw [List.getElem?_eq_getElem (by rw [F.lenp]; exact hj)])
  have h4 := F.back _ _ _ _ _ _ (List.getElem?_eq_getElem (by rw [F.lenp]; exact hj)) h3
  rw [e] at h1
  have e2 : l.toArray[t / k]! = l[t / k] := by simp [hi]
  rw [e2, ← h4]
  refine ⟨?_, ?_⟩
  · simp [World.cell?, hc, h1]
  · simp [World.frozen?, hc]
theorem row_world (enc : α → List Value) (k : Nat) (w : World) (g m : Nat) (d' : Array α) (os : Array Obj) {cur : Array Value} {T : TypeId} {fr : Nat × Nat} (hc : w.heap[g]? = some (.cells cur T fr)) :
    ∃ cur' : Array Value, (sortWorldK enc k w g 0 m d' os).heap[g]? = some (.cells cur' T fr) ∧ cur'.size = cur.size ∧
      (∀ t y, t < d'.size * k → cur'[t]? = some y → y = (flatK enc k d')[t]!) ∧ Step w (sortWorldK enc k w g 0 m d' os) (fun b => b = g) := by
  have hlt : g < w.heap.size := (Array.getElem?_eq_some_iff.1 hc).1
  have hh : (sortWorldK enc k w g 0 m d' os).heap = w.heap.modify g (onCells (putCells id 0 (flatK enc k d'))) ++ os := rfl
  refine ⟨putCells id 0 (flatK enc k d') cur, ?_, by simp [putCells], fun t y ht hy => ?_, ?_⟩
  · rw [hh, Array.getElem?_append_left (by simpa using hlt), Array.getElem?_modify, if_pos rfl, hc]
    rfl
  · rw [putCells, Array.getElem?_mapIdx] at hy
    cases hcu : cur[t]? with
    | none => rw [hcu] at hy; cases hy
    | some z =>
      rw [hcu, Option.map_some, if_pos ⟨Nat.zero_le _, by rw [size_flatK]; omega⟩] at hy
      exact (Option.some.inj hy).symm
  · refine ⟨by rw [hh]; simp, rfl, rfl, rfl, fun b hb hne => ?_⟩
    rw [hh, Array.getElem?_append_left (by simpa using hb), Array.getElem?_modify, if_neg (fun e => hne e.symm)]
theorem Flat.rep (F : Flat pv enc k) {S : Nat → Nat → Prop} {w : World} {d' : Array α} {cur' : Array Value} (h : ∀ t y, t < d'.size * k → cur'[t]? = some y → y = (flatK enc k d')[t]!) {l : List α} (n : Nat) (hl : ∀ i, i < n → l[i]? = some d'[i]!) (hn : l.length = n) (hnd : n ≤ d'.size) :
    ∀ (i : Nat) row (j : Nat) p u, (l.map pv)[i]? = some row → row[j]? = some p → cur'[i * k + j]? = some u → u.oneCell' = true ∧ RepP S w p u := by
  intro i row j p u a b c
  have k0 := F.k0
  rw [List.getElem?_map] at a
  obtain ⟨y, hy, rfl⟩ := Option.map_eq_some_iff.1 a
  have hi : i < n := by rw [← hn]; exact (List.getElem?_eq_some_iff.1 hy).1
  have hj : j < k := by rw [← F.lenp y]; exact (List.getElem?_eq_some_iff.1 b).1
  rw [hl i hi] at hy
  have ht : i * k + j < d'.size * k := by
    have : (i + 1) * k ≤ d'.size * k := Nat.mul_le_mul_right _ (by omega)
    rw [Nat.add_mul] at this; omega
  have hu := h _ _ ht c
  rw [get_flatK _ _ _ _ ht] at hu
  have e1 : (i * k + j) / k = i := by rw [Nat.mul_comm, Nat.mul_add_div k0, Nat.div_eq_of_lt hj]; rfl
  have e2 : (i * k + j) % k = j := by rw [Nat.mul_comm, Nat.mul_add_mod, Nat.mod_eq_of_lt hj]
  rw [e1, e2, Option.some.inj hy] at hu
  subst hu
  refine ⟨F.one y _ ?_, F.fit _ _ _ _ _ b⟩
  rw [getElem!_pos _ j (by rw [F.len]; exact hj)]
  exact List.getElem_mem _
end
end Go.Proofs.Ytkibfciheifphaa
/- slices.Compact at ids: in memory. -/
namespace Go.Proofs.Ytkibfciheifphaa
open Go.RowKit Go.Lib Go.Sort
open Go.Shelf
def eId (x : Id) : List Value := [.int .i64 x.r, .int .i64 x.n]
theorem setMany_flat {α : Type} [Inhabited α] (enc : α → List Value) (k : Nat) (hk : ∀ x, (enc x).length = k) (d : Array α) (i : Nat) (hi : i < d.size) (x : α) : setMany (flatK enc k d) (i * k) (enc x) = flatK enc k (d.setIfInBounds i x) := by
  refine ext_get! (by simp) fun t ht => ?_
  have ht' : t < d.size * k := by simpa using ht
  have k0 : 0 < k := by rcases Nat.eq_zero_or_pos k with h | h; · subst h; simp at ht'
                        · exact h
  rw [get_setMany _ _ _ t (by simpa using ht'), get_flatK _ _ _ t ht', get_flatK _ _ _ t (by simpa using ht'), hk]
  by_cases a : t / k = i
  · have m : t - i * k = t % k := by subst a; rw [Nat.mod_eq_sub_div_mul]
    rw [if_pos ((blk_iff k i t k0).2 a), m, a, getElem!_set_same d i x hi]
  · rw [if_neg (fun h => a ((blk_iff k i t k0).1 h)), getElem!_set_other d i _ x a]
theorem run_clear_cells {P : Program} (w : World) (t e ty : TypeId) (z : Value) (ht : P.underlying t = some (.slice e)) (hv : ∀ w, (zeroValue e).run P w = .ok z w) (h1 : ∀ v ∈ z.cells, v.oneCell' = true) (b o n c : Nat) (hn : 0 < n)
    (hc : ∀ j, j < n * z.cells.size → (w.cell? ⟨b, o + j, none⟩).isSome = true) (hf : ∀ j, j < n * z.cells.size → w.frozen? ⟨b, o + j, none⟩ = false) :
    ∃ zs : List Value, zs.length = n * z.cells.size ∧ (Builtin.clear_ #[t] ty #[.slice (some ⟨b, o, none⟩) n c]).run P w = .ok (.tuple #[]) (w.setCells b o zs) := by
  refine ⟨(Builtin.zeroCells z.cells n).toList, by simp [Builtin.zeroCells, Nat.mul_comm], ?_⟩
  have hst := run_storeCells_cells (P := P) b o (Builtin.zeroCells z.cells n).toList 0 w (by simpa [Builtin.zeroCells, Nat.mul_comm] using hc) (by simpa [Builtin.zeroCells, Nat.mul_comm] using hf) (by
    intro v hv'
    obtain ⟨i, hi, rfl⟩ := List.mem_iff_getElem.1 hv'
    simp only [Builtin.zeroCells, Array.getElem_toList, Array.getElem_map, Array.getElem_range]
    have hs : 0 < z.cells.size := by
      rcases Nat.eq_zero_or_pos z.cells.size with h | h
      · simp [Builtin.zeroCells, h] at hi
      · exact h
    have := Nat.mod_lt i hs
    exact h1 _ (by simp [getElem!_pos, this]))
  simp only [Nat.add_zero] at hst
  obtain ⟨m, rfl⟩ : ∃ m, n = m + 1 := ⟨n - 1, by omega⟩
  simp [Builtin.clear_, run_underlying ht, hv, hst]
theorem eId_len (x : Id) : (eId x).length = 2 := rfl
theorem eId_one (x : Id) : ∀ v ∈ eId x, v.oneCell' = true := by
  intro v hv; simp [eId] at hv; rcases hv with rfl | rfl <;> rfl
theorem holdsK_two {w : World} {blk off : Nat} {d : Array Id} (h : HoldsK eId 2 w blk off d) {i : Nat} (hi : i < d.size) :
    w.cell? ⟨blk, off + i * 2, none⟩ = some (.int .i64 d[i]!.r) ∧ w.cell? ⟨blk, off + i * 2 + 1, none⟩ = some (.int .i64 d[i]!.n) ∧ w.frozen? ⟨blk, off + i * 2, none⟩ = false ∧ w.frozen? ⟨blk, off + i * 2 + 1, none⟩ = false :=
  ⟨(h.cell hi (c := 0) (by omega)).1, (h.cell hi (c := 1) (by omega)).1, (h.cell hi (c := 0) (by omega)).2, (h.cell hi (c := 1) (by omega)).2⟩
theorem store_world_id {w wr : World} {n blk off : Nat} {dk : Array Id} {i : Nat} (hi : i < dk.size) (hwr : wr = putRowK eId 2 (Sort.ahead w n) blk off dk) (x : Id) :
    wr.setCells blk (off + i * 2) (eId x) = putRowK eId 2 (Sort.ahead w n) blk off (dk.setIfInBounds i x) := by
  subst hwr
  unfold putRowK
  rw [setCells_putRow _ _ _ _ _ _ (by rw [size_flatK, eId_len]; omega), setMany_flat eId 2 eId_len dk i hi x]
def CompOut (w : World) (blk off : Nat) (d : Array Id) (w' : World) : Prop :=
  ∃ (q : Nat) (F : Array Value), F.size = d.size * 2 ∧ (∀ t, t < (compactUpTo d d.size).length * 2 → F[t]! = (flatK eId 2 (compactUpTo d d.size).toArray)[t]!) ∧ w' = putRow id (Sort.ahead w q) blk off F
theorem compOut_same {w : World} {blk off : Nat} {d : Array Id} (hH : HoldsK eId 2 w blk off d) (q : Nat) (hall : ∀ j, j < d.size → keeps d j = true) : (compactUpTo d d.size).length = d.size ∧ CompOut w blk off d (w.drewN q) := by
  have e : compactUpTo d d.size = d.toList := by rw [compactUpTo_all d _ hall, range_map_get]
  refine ⟨by rw [e]; simp, q, flatK eId 2 d, size_flatK _ _ _, fun t _ => by rw [e], ?_⟩
  exact (putRow_self id (Sort.ahead w q) blk off _ (holdsK_ahead eId 2 w q blk off d hH)).symm
set_option maxHeartbeats 4000000 in
set_option maxRecDepth 1000000 in
theorem compactI_calls (blk off cap : Nat) (d : Array Id) (w : World) (hH : HoldsK eId 2 w blk off d) (hsz : d.size ≤ 9223372036854775807) (hcap : d.size ≤ cap) :
    Calls Try.prog 79 #[.slice (some ⟨blk, off, none⟩) d.size cap] w fun e w' => e = .returned (.slice (some ⟨blk, off, none⟩) (compactUpTo d d.size).length cap) ∧ CompOut w blk off d w' := by
  have mixed : Try.prog.follows Departure.mixedOrders = true := rfl
  have HS : Aside (∀ q, (∀ j, j < d.size → keeps d j = true) → (compactUpTo d d.size).length = d.size ∧ CompOut w blk off d (w.drewN q)) := fun q => compOut_same hH q
  by_cases h2 : d.size < 2
  · have HH : Aside (HoldsK eId 2 w blk off d) := hH
    clear hH
    go_enter Try.func79, Try.ntmps79
    go_wp2
    go_ret
    obtain ⟨e1, e2⟩ := HS.out 0 (fun j hj => keeps_lt_one d j (by omega))
    exact ⟨by rw [e1]; rfl, e2⟩
  · go_enter Try.func79, Try.ntmps79
    go_wp2
    go_loopg [3] d.size (fun g s3 wr => ∃ k q : Nat, 1 ≤ k ∧ k ≤ d.size ∧ d.size - k ≤ g ∧ s3 = .int .i64 k ∧ wr = w.drewN q ∧ ∀ j, j < k → keeps d j = true)
    case atStart => exact ⟨1, 0, Nat.le_refl _, by omega, by omega, rfl, rfl, keeps_lt_one d⟩
    case round =>
      obtain ⟨k, q, hk1, hk, hg, rfl, rfl, hall⟩ := hrel
      by_cases hlt : k < d.size
      · obtain ⟨c1, c1', f1, f1'⟩ := holdsK_two hH hlt
        obtain ⟨c0, c0', f0, f0'⟩ := holdsK_two hH (i := k - 1) (by omega)
        have A : Aside (∀ j, j < k → keeps d j = true) := hall
        have HH : Aside (HoldsK eId 2 w blk off d) := hH
        clear hall hH f1 f1' f0 f0'
        generalize hx : d[k]! = x at c1 c1'
        generalize hy : d[k - 1]! = y at c0 c0'
        have B : Aside (d[k]! = x ∧ d[k - 1]! = y) := ⟨hx, hy⟩
        clear hx hy
        by_cases hdup : x = y
        · subst hdup
          go_wp2_with fail
          go_region_o
          go_wp2
          clear c0 c1 c0' c1'
          go_loopg [3, 5] d.size (fun g s3 s5 wr => ∃ (kk k2 q2 : Nat) (dk : Array Id), s3 = .int .i64 kk ∧ s5 = .int .i64 k2 ∧ 1 ≤ k2 ∧ k + k2 ≤ d.size ∧ d.size - (k + k2) ≤ g ∧ wr = putRowK eId 2 (Sort.ahead w q2) blk off dk ∧ CompInv d (k + k2) kk dk)
          case atStart => exact ⟨k, 1, q + 1, d, rfl, rfl, Nat.le_refl _, by omega, by omega, (putRowK_self eId 2 (Sort.ahead w (q + 1)) blk off d (holdsK_ahead eId 2 w (q + 1) blk off d HH.out)).symm, CompInv.start A.out (keeps_neg (by omega) (by rw [B.out.1, B.out.2]))⟩
          case round =>
            obtain ⟨kk, k2, q2, dk, rfl, rfl, h1, hle, hg2, hwr, hI⟩ := hrel
            have hkk := hI.lt
            have hds := hI.size
            have hHk : HoldsK eId 2 wr blk off dk := by rw [hwr]; exact holdsK_putRowK eId 2 _ blk off d dk (holdsK_ahead eId 2 w q2 blk off d HH.out) hds
            have W2 : Aside (wr = putRowK eId 2 (Sort.ahead w q2) blk off dk) := hwr
            have I2 : Aside (CompInv d (k + k2) kk dk) := hI
            clear hwr
            by_cases hlt2 : k + k2 < d.size
            · obtain ⟨cm, cm', -, -⟩ := holdsK_two hHk (i := k + k2) (by omega)
              obtain ⟨cp, cp', -, -⟩ := holdsK_two hHk (i := k + k2 - 1) (by omega)
              obtain ⟨ck, ck', fk, fk'⟩ := holdsK_two hHk (i := kk) (by omega)
              rw [hI.high (k + k2) (by omega), show off + (k + k2) * 2 = off + k * 2 + k2 * 2 by omega] at cm cm'
              rw [hI.high (k + k2 - 1) (by omega), show off + (k + k2 - 1) * 2 = off + k * 2 + (k2 - 1) * 2 by omega] at cp cp'
              clear hHk hI
              generalize hu : d[k + k2]! = u at cm cm'
              generalize hv : d[k + k2 - 1]! = v at cp cp'
              generalize dk[kk]! = old at ck ck'
              have C : Aside (d[k + k2]! = u ∧ d[k + k2 - 1]! = v) := ⟨hu, hv⟩
              clear hu hv
              by_cases huv : u = v
              · subst huv
                go_wp2_with fail
                go_region_o
                go_wp2
                go_roundg (d.size - (k + (k2 + 1)))
                case measure => omega
                case rel => exact ⟨kk, k2 + 1, q2 + 1, dk, rfl, by go_num, by omega, by omega, Nat.le_refl _, by rw [W2.out]; rfl, I2.out.skip (keeps_neg (by omega) (by rw [C.out.1, C.out.2]))⟩
              · have N : Aside (u ≠ v) := huv
                obtain ⟨ur, un⟩ := u
                obtain ⟨vr, vn⟩ := v
                simp only at cm cm' cp cp'
                by_cases hr : ur = vr
                · subst hr
                  have hn : un ≠ vn := fun e => huv (by rw [e])
                  clear huv
                  go_wp2_with fail
                  go_region_o
                  go_wp2
                  go_roundg (d.size - (k + (k2 + 1)))
                  case measure => omega
                  case rel =>
                    refine ⟨kk + 1, k2 + 1, q2 + 1, dk.setIfInBounds kk ⟨ur, un⟩, by go_num, by go_num, by omega, by omega, Nat.le_refl _, ?_, ?_⟩
                    · exact store_world_id (wr := wr.drew) (n := q2 + 1) (by omega) (by rw [W2.out]; rfl) ⟨ur, un⟩
                    · have := I2.out.keep hlt2 (keeps_pos (by rw [C.out.1, C.out.2]; exact N.out)); rwa [C.out.1] at this
                · clear huv
                  go_wp2_with fail
                  go_region_o
                  go_wp2
                  go_roundg (d.size - (k + (k2 + 1)))
                  case measure => omega
                  case rel =>
                    refine ⟨kk + 1, k2 + 1, q2 + 1, dk.setIfInBounds kk ⟨ur, un⟩, by go_num, by go_num, by omega, by omega, Nat.le_refl _, ?_, ?_⟩
                    · exact store_world_id (wr := wr.drew) (n := q2 + 1) (by omega) (by rw [W2.out]; rfl) ⟨ur, un⟩
                    · have := I2.out.keep hlt2 (keeps_pos (by rw [C.out.1, C.out.2]; exact N.out)); rwa [C.out.1] at this
            · have hend : k + k2 = d.size := by omega
              obtain ⟨zs, hzl, hcl⟩ : ∃ zs : List Value, zs.length = (d.size - kk) * 2 ∧ ∀ ty, (Builtin.clear_ #[42] ty #[.slice (some ⟨blk, off + kk * 2, none⟩) (d.size - kk) (cap - kk)]).run Try.prog wr = .ok (.tuple #[]) (wr.setCells blk (off + kk * 2) zs) := by
                obtain ⟨zs, h1, h2⟩ := run_clear_cells (P := Try.prog) wr 42 41 0 (.agg #[.int .i64 0, .int .i64 0]) rfl (fun _ => by kernel_rfl) (by intro v hv; simp [Value.cells] at hv; rcases hv with rfl | rfl <;> rfl) blk (off + kk * 2) (d.size - kk) (cap - kk) (by omega)
                  (fun j hj => by
                    have hj' : j < (d.size - kk) * 2 := hj
                    have := (hHk (kk * 2 + j) (by rw [size_flatK]; omega)).1
                    rw [← Nat.add_assoc] at this
                    rw [this]; rfl) (fun j hj => by
                    have hj' : j < (d.size - kk) * 2 := hj
                    have := (hHk (kk * 2 + j) (by rw [size_flatK]; omega)).2
                    rwa [← Nat.add_assoc] at this)
                exact ⟨zs, h1, fun ty => h2⟩
              clear hHk hI
              go_wp2
              go_ret
              have hI := I2.out
              rw [hend] at hI
              refine ⟨by rw [hI.len]; rfl, q2, setMany (flatK eId 2 dk) (kk * 2) zs, by simp [hI.size], fun t ht => ?_, ?_⟩
              · rw [hI.len] at ht
                have hts : t < dk.size * 2 := by have := hI.size; omega
                have hq : t / 2 < kk := by omega
                rw [get_setMany _ _ _ t (by rw [size_flatK]; exact hts), if_neg (by omega), get_flatK _ _ _ _ hts, get_flatK _ _ _ _ (by simp [hI.len]; omega)]
                have := hI.low (t / 2) hq
                rw [show (compactUpTo d d.size).toArray[t / 2]! = dk[t / 2]! by simp [this]]
              · rw [W2.out]
                unfold putRowK
                exact setCells_putRow _ _ _ _ _ _ (by rw [size_flatK, hzl]; have := hI.size; omega)
        · have B' : Aside (x ≠ y) := hdup
          obtain ⟨xr, xn⟩ := x
          obtain ⟨yr, yn⟩ := y
          simp only at c0 c0' c1 c1'
          by_cases hr : xr = yr
          · subst hr
            have hn : xn ≠ yn := fun e => hdup (by rw [e])
            clear hdup
            go_wp2_with fail
            go_region_o
            go_wp2
            go_roundg (d.size - (k + 1))
            case measure => omega
            case rel =>
              refine ⟨k + 1, q + 1, by omega, by omega, Nat.le_refl _, by go_num, rfl, fun j hj => ?_⟩
              by_cases e : j = k
              · subst e
                exact keeps_pos (by rw [B.out.1, B.out.2]; exact B'.out)
              · exact A.out j (by omega)
          · clear hdup
            go_wp2_with fail
            go_region_o
            go_wp2
            go_roundg (d.size - (k + 1))
            case measure => omega
            case rel =>
              refine ⟨k + 1, q + 1, by omega, by omega, Nat.le_refl _, by go_num, rfl, fun j hj => ?_⟩
              by_cases e : j = k
              · subst e
                exact keeps_pos (by rw [B.out.1, B.out.2]; exact B'.out)
              · exact A.out j (by omega)
      · have : k = d.size := by omega
        subst this
        have HH : Aside (HoldsK eId 2 w blk off d) := hH
        clear hH
        go_wp2
        go_ret
        obtain ⟨e1, e2⟩ := HS.out q hall
        exact ⟨by rw [e1]; rfl, e2⟩
set_option maxHeartbeats 1000000 in
theorem compactI_nil (w : World) : Calls Try.prog 79 #[.slice none 0 0] w fun e w' => e = .returned (.slice none 0 0) ∧ w' = w := by
  go_enter Try.func79, Try.ntmps79
  go_wp2
  go_ret
  exact ⟨rfl, rfl⟩
end Go.Proofs.Ytkibfciheifphaa
/- slices.Compact at ids: as a contract: an array becomes a list. -/
namespace Go.Proofs.Ytkibfciheifphaa
open Go.RowKit
open Go.Sort (flatK putRowK HoldsK size_flatK get_flatK putCells mapBlock onCells)
theorem flat_id : Flat cId eId 2 where
  k0 := by omega
  len := fun _ => rfl
  lenp := fun _ => rfl
  one := eId_one
  fit := fun S w a j p h => by
    rcases j with _ | _ | j
    · cases h; exact .int _ _
    · cases h; exact .int _ _
    · simp [cId] at h
  back := fun S w a j p u h hr => by
    rcases j with _ | _ | j
    · cases h; cases hr; rfl
    · cases h; cases hr; rfl
    · simp [cId] at h
section
variable {x : Cx} {C : Conc} {H : List AObj} {w w' : World}
theorem HR.dropNil (hr : HR x C H w) {id v T sz : Nat} {sto ipu : Bool} (hid : H[id]? = some (.arr v sto ipu T sz [])) :
    HR x C (H.set id .gone) w ∧ (∀ p u, RepV (Stab x C H w) w C p u → RepV (Stab x C (H.set id .gone) w) w C p u) :=
  hr.change (C' := C) hid (ob' := .gone) (step_refl w) rfl (fun _ => rfl) (fun _ _ => ⟨rfl, rfl⟩) (.inl ⟨rfl, rfl⟩) (fun b o hb hf => trivial) (fun b o hb hf => rfl) (fun b hb => hb.elim) (fun _ _ => trivial)
theorem row_worldF (w : World) (g m : Nat) (F : Array Value) {cur : Array Value} {T : TypeId} {fr : Nat × Nat} (hc : w.heap[g]? = some (.cells cur T fr)) :
    ∃ cur' : Array Value, (Go.Sort.putRow id (Go.Sort.ahead w m) g 0 F).heap[g]? = some (.cells cur' T fr) ∧ cur'.size = cur.size ∧
      (∀ t y, t < F.size → cur'[t]? = some y → y = F[t]!) ∧ Step w (Go.Sort.putRow id (Go.Sort.ahead w m) g 0 F) (fun b => b = g) := by
  have hlt : g < w.heap.size := (Array.getElem?_eq_some_iff.1 hc).1
  have hh : (Go.Sort.putRow id (Go.Sort.ahead w m) g 0 F).heap = w.heap.modify g (onCells (putCells id 0 F)) := rfl
  refine ⟨putCells id 0 F cur, ?_, by simp [putCells], fun t y ht hy => ?_, ?_⟩
  · rw [hh, Array.getElem?_modify, if_pos rfl, hc]
    rfl
  · rw [putCells, Array.getElem?_mapIdx] at hy
    cases hcu : cur[t]? with
    | none => rw [hcu] at hy; cases hy
    | some z =>
      rw [hcu, Option.map_some, if_pos ⟨Nat.zero_le _, by omega⟩] at hy
      exact (Option.some.inj hy).symm
  · refine ⟨by rw [hh]; simp, rfl, rfl, rfl, fun b hb hne => ?_⟩
    rw [hh, Array.getElem?_modify, if_neg (fun e => hne e.symm)]
end
theorem one_arg {vs : Array Value} (h : vs.toList.length = 1) : ∃ a, vs = #[a] ∧ vs.toList[0]? = some a := by
  obtain ⟨l⟩ := vs
  obtain ⟨a, rfl⟩ := List.length_eq_one_iff.1 h
  exact ⟨a, rfl, rfl⟩
theorem two_args {vs : Array Value} (h : vs.toList.length = 2) : ∃ a b, vs = #[a, b] ∧ vs.toList[0]? = some a ∧ vs.toList[1]? = some b := by
  obtain ⟨l⟩ := vs
  match l, h with
  | [a, b], _ => exact ⟨a, b, rfl, rfl, rfl⟩
def compI (l : List Id) : List Id := Lib.compact l
theorem compactIds_meets (l : List Id) (v T : Nat) (hl : l.length ≤ 9223372036854775807) :
    Meets Try.prog 79 [.arr 0 v] [.arr v true false T 2 (l.map cId)] (.list ((compI l).map cId)) [.gone] := by
  intro x vs hx h0 hp
  obtain ⟨a, rfl, h1⟩ := one_arg hp.1
  have ha := hp.2 0 _ _ rfl h1
  obtain ⟨e1, e2, e3⟩ := h0.row (id := 0) rfl ha
  rcases e3 with ⟨rfl, hnil⟩ | ⟨g, cap, cur, rfl, hc, hcap, hm, hz, hrow⟩
  · have : l = [] := by simpa using hnil
    subst this
    refine (compactI_nil x.w0).mono ?_
    rintro e w' ⟨rfl, rfl⟩
    obtain ⟨k1, k2⟩ := h0.dropNil (id := 0) (v := v) (T := T) (sz := 2) rfl
    exact ⟨_, x.C0, rfl, k1, .pure repP_nil⟩
  · have hH := flat_id.holds l hc hrow
    have key := compactI_calls g 0 cap l.toArray x.w0 hH (by simpa using hl) (by simpa using hcap)
    rw [List.length_map]
    refine Calls.mono key ?_
    rintro e w' ⟨rfl, q, F, f1, f2, rfl⟩
    obtain ⟨cur', c1, c2, c3, c4⟩ := row_worldF x.w0 g q F hc
    have hown : (x.C0.sv 0).ownBlock = some g := by rw [← e1]; rfl
    have hle : (compI l).length ≤ l.length := by
      show (Lib.compactUpTo l.toArray l.length).length ≤ _
      unfold Lib.compactUpTo
      rw [List.length_map]
      exact Nat.le_trans (List.length_filter_le _ _) (by simp)
    have hcl : ((compI l).map cId).length ≤ cap := by rw [List.length_map]; rw [List.length_map] at hcap; omega
    obtain ⟨k1, k2, k3⟩ := h0.drop (id := 0) (g := g) (cap' := cap) (rows' := (compI l).map cId) (cur' := cur') rfl
      ⟨c4.size, c4.os, c4.tape, c4.output, fun b hb hne => c4.blk b hb fun e => hne (by rw [hown, e])⟩ hown c1 hcl hm (by rw [c2, hz])
      (fun row hr => by obtain ⟨y, -, rfl⟩ := List.mem_map.1 hr; rfl)
      (fun k row j p u a b c => (flat_id.rep (d' := (compI l).toArray) (cur' := cur') (fun t y ht hy => by
        rw [c3 t y (by rw [f1]; simp at ht ⊢; omega) hy]
        refine f2 t ?_
        rw [List.size_toArray] at ht
        rw [List.size_toArray]
        exact ht) (compI l).length (fun i hi => by simp [hi]) rfl (by simp) k row j p u a b c).2)
    refine ⟨_, x.C0, rfl, k1, .pure ?_⟩
    rw [List.length_map] at k3
    exact k3
end Go.Proofs.Ytkibfciheifphaa
/- Library functions of this seat, told apart by number (what the guide's shelf says of them is used by name). -/
namespace Go.Proofs.Ytkibfciheifphaa
open Go.Shelf Go.Proofs
def sortIdL_ren : Go.Shelf.Ren := ⟨fun | 6 => 78 | 15 => 93 | 14 => 92 | 28 => 107 | 29 => 108 | 20 => 99 | 21 => 100 | 22 => 101 | 23 => 102 | 24 => 103 | 25 => 104 | 26 => 105 | 27 => 106 | 46 => 111 | 47 => 112 | 48 => 113 | 49 => 114 | 50 => 115 | 57 => 116 | n => n, fun | 22 => 42 | 24 => 41 | 25 => 76 | 3 => 3 | 39 => 113 | 0 => 0 | 53 => 134 | 55 => 136 | 4 => 4 | 46 => 128 | 45 => 127 | 50 => 97 | 5 => 5 | 9 => 9 | 66 => 139 | 70 => 143 | 76 => 145 | 77 => 146 | n => n, fun n => n⟩
theorem sortIdL : SlLaysF0.n6 Try.prog sortIdL_ren := {
  mixed := by kernel_rfl,
  f6 := ⟨Try.f78.name, by decide, Try.func78.trans (congrArg some (by kernel_rfl))⟩,
  f14 := ⟨Try.f92.name, by decide, Try.func92.trans (congrArg some (by kernel_rfl))⟩,
  f15 := Try.func93.trans (congrArg some (by kernel_rfl)),
  f20 := ⟨Try.f99.name, by decide, Try.func99.trans (congrArg some (by kernel_rfl))⟩,
  f21 := ⟨Try.f100.name, by decide, Try.func100.trans (congrArg some (by kernel_rfl))⟩,
  f22 := ⟨Try.f101.name, by decide, Try.func101.trans (congrArg some (by kernel_rfl))⟩,
  f23 := ⟨Try.f102.name, by decide, Try.func102.trans (congrArg some (by kernel_rfl))⟩,
  f24 := ⟨Try.f103.name, by decide, Try.func103.trans (congrArg some (by kernel_rfl))⟩,
  f25 := ⟨Try.f104.name, by decide, Try.func104.trans (congrArg some (by kernel_rfl))⟩,
  f26 := ⟨Try.f105.name, by decide, Try.func105.trans (congrArg some (by kernel_rfl))⟩,
  f27 := ⟨Try.f106.name, by decide, Try.func106.trans (congrArg some (by kernel_rfl))⟩,
  f28 := Try.func107.trans (congrArg some (by kernel_rfl)),
  f29 := Try.func108.trans (congrArg some (by kernel_rfl)),
  f46 := ⟨Try.f111.name, by decide, Try.func111.trans (congrArg some (by kernel_rfl))⟩,
  f47 := Try.func112.trans (congrArg some (by kernel_rfl)),
  f48 := Try.func113.trans (congrArg some (by kernel_rfl)),
  f49 := ⟨Try.f114.name, by decide, Try.func114.trans (congrArg some (by kernel_rfl))⟩,
  f50 := ⟨Try.f115.name, by decide, Try.func115.trans (congrArg some (by kernel_rfl))⟩,
  f57 := ⟨Try.f116.name, by decide, Try.func116.trans (congrArg some (by kernel_rfl))⟩,
  t0 := Try.underlying0,
  a0 := Try.isAgg0,
  z0 := Try.sizeOf0,
  v0 := Try.zeroValue0,
  t3 := Try.underlying3,
  a3 := Try.isAgg3,
  z3 := Try.sizeOf3,
  v3 := Try.zeroValue3,
  t4 := Try.underlying4,
  a4 := Try.isAgg4,
  z4 := Try.sizeOf4,
  v4 := Try.zeroValue4,
  t5 := Try.underlying5,
  a5 := Try.isAgg5,
  z5 := Try.sizeOf5,
  v5 := Try.zeroValue5,
  t9 := Try.underlying9,
  a9 := Try.isAgg9,
  z9 := Try.sizeOf9,
  v9 := Try.zeroValue9,
  t22 := Try.underlying42,
  a22 := Try.isAgg42,
  z22 := Try.sizeOf42,
  v22 := Try.zeroValue42,
  t25 := Try.underlying76,
  a25 := Try.isAgg76,
  z25 := Try.sizeOf76,
  v25 := Try.zeroValue76,
  t39 := Try.underlying113,
  a39 := Try.isAgg113,
  z39 := Try.sizeOf113,
  v39 := Try.zeroValue113,
  t45 := Try.underlying127,
  a45 := Try.isAgg127,
  z45 := Try.sizeOf127,
  v45 := Try.zeroValue127,
  t46 := Try.underlying128,
  a46 := Try.isAgg128,
  z46 := Try.sizeOf128,
  v46 := Try.zeroValue128,
  t50 := Try.underlying97,
  a50 := Try.isAgg97,
  z50 := Try.sizeOf97,
  v50 := Try.zeroValue97,
  t53 := Try.underlying134,
  a53 := Try.isAgg134,
  z53 := Try.sizeOf134,
  v53 := Try.zeroValue134,
  t55 := Try.underlying136,
  a55 := Try.isAgg136,
  z55 := Try.sizeOf136,
  v55 := Try.zeroValue136,
  t66 := Try.underlying139,
  a66 := Try.isAgg139,
  z66 := Try.sizeOf139,
  v66 := Try.zeroValue139,
  t70 := Try.underlying143,
  a70 := Try.isAgg143,
  z70 := Try.sizeOf143,
  v70 := Try.zeroValue143,
  t76 := Try.underlying145,
  a76 := Try.isAgg145,
  z76 := Try.sizeOf145,
  v76 := Try.zeroValue145,
  t77 := Try.underlying146,
  a77 := Try.isAgg146,
  z77 := Try.sizeOf146,
  v77 := Try.zeroValue146 }
end Go.Proofs.Ytkibfciheifphaa
/- slices.SortFunc at ids by entry.Order: an array of ids is put in order. -/
namespace Go.Proofs.Ytkibfciheifphaa
open Go.RowKit
theorem cmpS_calls (a b : Int) (w : World) : Calls Try.prog 75 #[.int .i64 a, .int .i64 b] w fun e w' => e = .returned (.int .i64 (cmpI a b)) ∧ w = w' := by
  by_cases h1 : a < b
  · go_enter Try.func75, Try.ntmps75
    go_wp2
    go_ret
    exact ⟨by simp [cmpI, h1], rfl⟩
  · by_cases h2 : b < a
    · go_enter Try.func75, Try.ntmps75
      go_wp2
      go_ret
      exact ⟨by simp [cmpI, h1, h2], rfl⟩
    · go_enter Try.func75, Try.ntmps75
      go_wp2
      go_ret
      exact ⟨ret_int (by unfold cmpI; rw [if_neg (by omega), if_neg (by omega)]), rfl⟩
theorem orderS_calls (a b : Id) (w : World) : Calls Try.prog 50 #[.agg #[.int .i64 a.r, .int .i64 a.n], .agg #[.int .i64 b.r, .int .i64 b.n]] w fun e w' => e = .returned (.int .i64 (ordI a b)) ∧ ∃ q os', w' = Go.Sort.grow (w.drewN q) os' := by
  go_enter Try.func50, Try.ntmps50
  go_wp2_with (go_at_call 75; refine (cmpS_calls _ _ _).mono ?_; rintro e w' ⟨rfl, rfl⟩)
  · go_ret
    have h : (cmpI a.r b.r != 0) = true := by assumption
    exact ⟨ret_int (by rw [ordI, if_neg (by simpa using h)]), 0, _, by rw [Go.Sort.alloc_eq_grow, Go.Sort.alloc_eq_grow, Go.Sort.grow_grow]; rfl⟩
  · go_ret
    have h : (cmpI a.r b.r != 0) = false := by assumption
    exact ⟨ret_int (by rw [ordI, if_pos (by simpa using h)]), 0, _, by rw [Go.Sort.alloc_eq_grow, Go.Sort.alloc_eq_grow, Go.Sort.grow_grow]; rfl⟩
theorem cmpLaysI (blk off size : Nat) (w : World) : CmpLays Try.prog 50 #[] eId 2 ordI blk off size w := fun _ _ _ _ a b => orderS_calls a b _
theorem swoI : Go.Sort.SWO (ltOf ordI) where
  irrefl := fun x => by simp [ltOf, ordI_lt, lessB]
  trans := fun x y z h1 h2 => by
    simp only [ltOf, decide_eq_true_eq, ordI_lt, lessB] at h1 h2 ⊢
    omega
  ntrans := fun x y z h1 h2 => by
    simp only [ltOf, decide_eq_false_iff_not, ordI_lt, lessB, decide_eq_true_eq] at h1 h2 ⊢
    omega
theorem ordI_part (x y : Id) (h1 : ltOf ordI x y = false) (h2 : ltOf ordI y x = false) : x = y := by
  simp only [ltOf, decide_eq_false_iff_not, ordI_lt, lessB, decide_eq_true_eq] at h1 h2
  cases x; cases y
  simp at h1 h2 ⊢
  omega
def sortI (l : List Id) : List Id := l.mergeSort fun x y => !(ltOf ordI) y x
theorem sortIds_meets (l : List Id) (v T : Nat) (hl : l.length < 4611686018427387904) :
    Meets Try.prog 78 [.arr 0 v, .clo 50 []] [.arr v true false T 2 (l.map cId)] (.tup []) [.arr v true false T 2 ((sortI l).map cId)] := by
  intro x vs hx h0 hp
  obtain ⟨a, b, rfl, h1, h2⟩ := two_args hp.1
  have ha := hp.2 0 _ _ rfl h1
  have hb := hp.2 1 _ _ rfl h2
  obtain ⟨ws, rfl, hw, -⟩ := hb.clo_inv
  obtain rfl : ws = [] := List.length_eq_zero_iff.1 hw
  obtain ⟨e1, e2, e3⟩ := h0.row (id := 0) rfl ha
  rcases e3 with ⟨rfl, hnil⟩ | ⟨g, cap, cur, rfl, hc, hcap, hm, hz, hrow⟩
  · have : l = [] := by simpa using hnil
    subst this
    refine (AnyF.slices_SortFunc_none sortIdL none 0 (.func (.func 50) #[] #[]) x.w0).mono ?_
    rintro e w' ⟨rfl, rfl⟩
    exact ⟨_, x.C0, rfl, by simpa [sortI] using h0, .tup [] [] rfl (fun j p u h => by simp at h)⟩
  · have eg : ∀ args w, (callFunc 50 args).run Try.prog w = .ok (.enter 50 args) w := enters_of Try.func50 (by kernel_rfl) rfl
    have hH := flat_id.holds l hc hrow
    have hlt : g < x.w0.heap.size := (Array.getElem?_eq_some_iff.1 hc).1
    have key := AnyQ.slices_SortFunc_total sortIdL 2 (fun _ => by kernel_rfl) (fun _ => by kernel_rfl) eId flat_id.len flat_id.one ordI swoI 50 #[] g 0 cap l.toArray x.w0 eg (cmpLaysI g 0 _ x.w0) hH hlt (by simpa using hl) ordI_part
    rw [List.length_map] at *
    refine key.mono ?_
    rintro e w' ⟨rfl, n, os, rfl⟩
    obtain ⟨cur', c1, c2, c3, c4⟩ := row_world eId 2 x.w0 g n (l.toArray.toList.mergeSort fun x y => !(ltOf ordI) y x).toArray os hc
    have hsl : (sortI l).length = l.length := (List.mergeSort_perm l _).length_eq
    have hown : (x.C0.sv 0).ownBlock = some g := by rw [← e1]; rfl
    obtain ⟨C', k1, k2, k3⟩ := h0.rerow (id := 0) (v' := v) (g' := g) (cap' := cap) (rows' := (sortI l).map cId) (cur' := cur') rfl (by
      refine ⟨c4.size, c4.os, c4.tape, c4.output, fun b hb hne => c4.blk b hb fun e => hne (by rw [hown, e])⟩) (.inl hown) (.inl ⟨rfl, by rw [← e1, List.length_map, hsl]⟩) c1 (by rw [List.length_map, hsl]; exact hcap) hm (by rw [c2, hz])
      (fun row hr => by obtain ⟨y, -, rfl⟩ := List.mem_map.1 hr; rfl) (flat_id.rep c3 (l := sortI l) (sortI l).length (fun i hi => by
        rw [List.getElem?_eq_getElem hi]
        simp [sortI] at hi ⊢
        simp [hi]) rfl (by simp [sortI]))
    exact ⟨_, C', rfl, k1, .tup [] [] rfl (fun j p u h => by simp at h)⟩
end Go.Proofs.Ytkibfciheifphaa
/- Plain laws of logs: ids in order, what a right log has, pasts. No program in sight. -/
namespace Go.Proofs.Ytkibfciheifphaa
/-! ids in order -/
def Asc (l : List Id) : Prop := l.Pairwise fun a b => lessB a b = true
theorem lessB_trans {a b c : Id} (h1 : lessB a b = true) (h2 : lessB b c = true) : lessB a c = true := by
  simp only [lessB, decide_eq_true_eq] at *; omega
theorem lessB_irrefl (a : Id) : lessB a a = false := by simp [lessB]
theorem lessB_conn {a b : Id} (h1 : lessB a b = false) (h2 : lessB b a = false) : a = b := by
  cases a; cases b
  simp only [lessB, decide_eq_false_iff_not] at h1 h2
  simp
  omega
theorem asc_ext : ∀ {l m : List Id}, Asc l → Asc m → (∀ x, x ∈ l ↔ x ∈ m) → l = m
  | [], [], _, _, _ => rfl
  | [], y :: m, _, _, h => by have := (h y).2 (by simp); simp at this
  | x :: l, [], _, _, h => by have := (h x).1 (by simp); simp at this
  | x :: l, y :: m, h1, h2, h => by
    have h1' := List.pairwise_cons.1 h1
    have h2' := List.pairwise_cons.1 h2
    have hxy : x = y := by
      rcases List.mem_cons.1 ((h x).1 (by simp)) with e | e
      · exact e
      rcases List.mem_cons.1 ((h y).2 (by simp)) with e' | e'
      · exact e'.symm
      have := lessB_trans (h1'.1 y e') (h2'.1 x e)
      rw [lessB_irrefl] at this; cases this
    subst hxy
    rw [asc_ext h1'.2 h2'.2 fun z => ?_]
    constructor
    · intro hz
      rcases List.mem_cons.1 ((h z).1 (by simp [hz])) with e | e
      · subst e; have := h1'.1 z hz; rw [lessB_irrefl] at this; cases this
      · exact e
    · intro hz
      rcases List.mem_cons.1 ((h z).2 (by simp [hz])) with e | e
      · subst e; have := h2'.1 z hz; rw [lessB_irrefl] at this; cases this
      · exact e
theorem rise_len : ∀ (l : List Int) (a b : Int), l.Pairwise (· < ·) → (∀ x ∈ l, a ≤ x ∧ x < b) → a ≤ b → (l.length : Int) ≤ b - a
  | [], a, b, _, _, h => by simp; omega
  | x :: l, a, b, hp, hm, h => by
    have hp' := List.pairwise_cons.1 hp
    have hx := hm x (by simp)
    have := rise_len l (x + 1) b hp'.2 (fun y hy => ⟨hp'.1 y hy, (hm y (by simp [hy])).2⟩) (by omega)
    simp only [List.length_cons]; omega
theorem asc_len {l : List Id} (h : Asc l) (hk : ∀ x ∈ l, okId x = true) : l.length ≤ 40 := by
  have hb : ∀ x ∈ l, 0 ≤ x.r ∧ x.r ≤ 1 ∧ 1 ≤ x.n ∧ x.n ≤ 20 := fun x hx => by
    have := hk x hx
    simp only [okId, Bool.and_eq_true, wthn_iff] at this
    omega
  have := rise_len (l.map fun x => x.r * 20 + x.n) 1 41 (List.pairwise_map.2 (List.Pairwise.imp_of_mem (fun {a b} ha hb' hab => by
    have h1 := hb a ha
    have h2 := hb b hb'
    simp only [lessB, decide_eq_true_eq] at hab
    omega) h)) (fun y hy => by
      obtain ⟨x, hx, rfl⟩ := List.mem_map.1 hy
      have := hb x hx
      omega) (by omega)
  rw [List.length_map] at this
  omega
theorem sortI_mem {l : List Id} {x : Id} : x ∈ sortI l ↔ x ∈ l := (List.mergeSort_perm l _).mem_iff
theorem sortI_length (l : List Id) : (sortI l).length = l.length := (List.mergeSort_perm l _).length_eq
theorem sortI_sorted (l : List Id) : (sortI l).Pairwise fun a b => lessB b a = false := by
  have := List.pairwise_mergeSort (le := fun x y : Id => !(ltOf ordI) y x) (fun a b c h1 h2 => by
    simp only [ltOf, ordI_lt, Bool.not_eq_true', decide_eq_false_iff_not, Bool.not_eq_true] at *
    simp only [lessB, decide_eq_false_iff_not] at *; omega) (fun a b => by
    simp only [ltOf, ordI_lt, Bool.or_eq_true, Bool.not_eq_true', decide_eq_false_iff_not, lessB, decide_eq_true_eq]; omega) l
  exact this.imp fun {a b} h => by simpa [ltOf, ordI_lt] using h
theorem compI_mem {l : List Id} {x : Id} : x ∈ compI l ↔ x ∈ l := by
  unfold compI Lib.compact Lib.compactUpTo
  rw [List.mem_map]
  constructor
  · rintro ⟨j, hj, rfl⟩
    have : j < l.length := by simpa using (List.mem_filter.1 hj).1
    simp [this]
  · intro hx
    obtain ⟨j, hj, rfl⟩ := List.getElem_of_mem hx
    induction j using Nat.strongRecOn with
    | _ j ih =>
      by_cases hk : Lib.keeps l.toArray j = true
      · exact ⟨j, List.mem_filter.2 ⟨List.mem_range.2 hj, hk⟩, by simp [hj]⟩
      · simp only [Lib.keeps, decide_eq_true_eq, not_or, Decidable.not_not] at hk
        obtain ⟨h0, h1⟩ := hk
        have hj' : j - 1 < l.length := by omega
        obtain ⟨i, h2, h3⟩ := ih (j - 1) (by omega) hj' (List.getElem_mem hj')
        refine ⟨i, h2, ?_⟩
        rw [h3]
        have := h1
        simp only [hj, hj', List.getElem!_toArray, getElem!_pos] at this
        exact this.symm
theorem compI_asc {l : List Id} (h : l.Pairwise fun a b => lessB b a = false) : Asc (compI l) := by
  unfold compI Lib.compact Lib.compactUpTo Asc
  rw [List.pairwise_map]
  refine List.Pairwise.imp_of_mem (R := (· < ·)) (fun {i j} hi hj hij => ?_) (List.Pairwise.filter _ List.pairwise_lt_range)
  obtain ⟨h1, -⟩ := List.mem_filter.1 hi
  obtain ⟨h2, h3⟩ := List.mem_filter.1 hj
  have hjl : j < l.length := List.mem_range.1 h2
  simp only [Lib.keeps, decide_eq_true_eq] at h3
  have h3' := h3.resolve_left (by omega)
  have hj1 : j - 1 < l.length := by omega
  have hil : i < l.length := by omega
  simp only [List.getElem!_toArray, getElem!_pos, hjl, hj1] at h3'
  simp only [List.getElem!_toArray, getElem!_pos, hjl, hil]
  have a1 : lessB l[j] l[j - 1] = false := List.pairwise_iff_getElem.1 h (j - 1) j hj1 hjl (by omega)
  have a2 : lessB l[j - 1] l[j] = true := by
    cases e : lessB l[j - 1] l[j]
    · exact (h3' (lessB_conn a1 e)).elim
    · rfl
  by_cases e : i = j - 1
  · subst e; exact a2
  · have a3 : lessB l[j - 1] l[i] = false := List.pairwise_iff_getElem.1 h i (j - 1) hil hj1 (by omega)
    simp only [lessB, decide_eq_false_iff_not, decide_eq_true_eq] at *
    omega
def setI (l : List Id) : List Id := compI (sortI l)
theorem setI_mem {l : List Id} {x : Id} : x ∈ setI l ↔ x ∈ l := compI_mem.trans sortI_mem
theorem setI_asc (l : List Id) : Asc (setI l) := compI_asc (sortI_sorted l)
theorem sortI_asc {l : List Id} (h : l.Nodup) : Asc (sortI l) := by
  have h1 : (sortI l).Nodup := (List.mergeSort_perm l _).nodup_iff.2 h
  exact (List.Pairwise.and (sortI_sorted l) h1).imp fun {a b} ⟨h1, h2⟩ => by
    cases e : lessB a b
    · exact (h2 (lessB_conn e h1)).elim
    · rfl
/-! finding -/
theorem idxF_take {α : Type} (p : α → Bool) : ∀ (l : List α) (k i : Nat), 0 ≤ idxF p (l.take k) i → idxF p l i = idxF p (l.take k) i ∧ idxF p l i < i + k
  | [], k, i, h => by simp [idxF] at h
  | x :: l, 0, i, h => by simp [idxF] at h
  | x :: l, k + 1, i, h => by
    simp only [List.take_succ_cons, idxF] at h ⊢
    split
    · exact ⟨rfl, by omega⟩
    · rename_i hx
      rw [if_neg hx] at h
      have := idxF_take p l k (i + 1) h
      exact ⟨this.1, by omega⟩
theorem idxF_spec {α : Type} [Inhabited α] (p : α → Bool) : ∀ (l : List α) (i : Nat), 0 ≤ idxF p l i → ∃ k : Nat, idxF p l i = i + k ∧ k < l.length ∧ p (nth l k) = true
  | [], i, h => by simp [idxF] at h
  | x :: l, i, h => by
    simp only [idxF] at h ⊢
    split
    · rename_i hx
      exact ⟨0, by simp, by simp, by simpa [nth] using hx⟩
    · rename_i hx
      rw [if_neg hx] at h
      obtain ⟨k, h1, h2, h3⟩ := idxF_spec p l (i + 1) h
      exact ⟨k + 1, by omega, by simp; omega, by simpa [nth] using h3⟩
theorem findE_take {l : List Entry} {k : Nat} {x : Id} (h : 0 ≤ findE (l.take k) x) : findE l x = findE (l.take k) x ∧ findE l x < k := by
  have := idxF_take (fun e : Entry => decide (e.id = x)) l k 0 h
  exact ⟨this.1, by have := this.2; unfold findE; omega⟩
theorem findE_spec {l : List Entry} {x : Id} (h : 0 ≤ findE l x) : ∃ k : Nat, findE l x = k ∧ k < l.length ∧ (nth l k).id = x := by
  obtain ⟨k, h1, h2, h3⟩ := idxF_spec _ l 0 h
  exact ⟨k, by rw [findE, h1]; simp, h2, by simpa using h3⟩
theorem findE_neg {l : List Entry} {x : Id} : findE l x < 0 ↔ ∀ e ∈ l, e.id ≠ x := by
  rcases idxF_ge (fun e : Entry => decide (e.id = x)) l 0 with ⟨h1, h2⟩ | ⟨h1, h2⟩
  · rw [findE, h1]
    rw [List.any_eq_false] at h2
    exact ⟨fun _ e he => by simpa using h2 e he, fun _ => by omega⟩
  · rw [List.any_eq_true] at h2
    obtain ⟨e, he, hx⟩ := h2
    exact ⟨fun h => by rw [findE] at h; omega, fun h => (h e he (by simpa using hx)).elim⟩
/-! right logs -/
structure LogOk (l : List Entry) : Prop where
  len : l.length ≤ 40
  chk : ∀ k, k < l.length → checkEntry (nth l k) = 0
  new : ∀ k, k < l.length → findE (l.take k) (nth l k).id < 0
  num : ∀ k, k < l.length → (cntR (l.take k) (nth l k).id.r : Int) + 1 = (nth l k).id.n
  lnk : ∀ k, k < l.length → ∀ x ∈ (nth l k).ls, 0 ≤ findE (l.take k) x
theorem log_ok {l : List Entry} : checkLog l = 0 ↔ LogOk l := by
  have key : ∀ k, logErr l k = 0 ↔ checkEntry (nth l k) = 0 ∧ findE (l.take k) (nth l k).id < 0 ∧ (cntR (l.take k) (nth l k).id.r : Int) + 1 = (nth l k).id.n ∧ ∀ x ∈ (nth l k).ls, 0 ≤ findE (l.take k) x := by
    intro k
    unfold logErr
    split
    · rename_i h; exact ⟨fun e => (h e).elim, fun e => (h e.1).elim⟩
    · rename_i h0
      have h0' : checkEntry (nth l k) = 0 := by simpa using h0
      split
      · rename_i h; exact ⟨fun e => (by cases e), fun e => by omega⟩
      · rename_i h1
        split
        · rename_i h; exact ⟨fun e => (by cases e), fun e => (h e.2.2.1).elim⟩
        · rename_i h2
          have h2' : (cntR (l.take k) (nth l k).id.r : Int) + 1 = (nth l k).id.n := by simpa using h2
          have hr : readyB (l.take k) (nth l k) = true ↔ ∀ x ∈ (nth l k).ls, 0 ≤ findE (l.take k) x := by
            simp only [readyB, h2', decide_true, Bool.true_and, Bool.not_eq_true', List.any_eq_false, decide_eq_true_eq]
            exact ⟨fun h x hx => by have := h x hx; omega, fun h x hx => by have := h x hx; omega⟩
          rw [← hr]
          split
          · rename_i h; exact ⟨fun e => (by cases e), fun e => by rw [h] at e; simp at e⟩
          · rename_i h; exact ⟨fun _ => ⟨h0', by omega, h2', by simpa using h⟩, fun _ => rfl⟩
  unfold checkLog
  split
  · rename_i h; exact ⟨fun e => (by cases e), fun e => by have := e.len; omega⟩
  · rename_i h
    rw [firstNZ_zero]
    exact ⟨fun e => ⟨by omega, fun k hk => ((key k).1 (e k hk)).1, fun k hk => ((key k).1 (e k hk)).2.1, fun k hk => ((key k).1 (e k hk)).2.2.1, fun k hk => ((key k).1 (e k hk)).2.2.2⟩,
      fun e k hk => (key k).2 ⟨e.chk k hk, e.new k hk, e.num k hk, e.lnk k hk⟩⟩
theorem LogOk.id_ok {l : List Entry} (h : LogOk l) {k : Nat} (hk : k < l.length) : okId (nth l k).id = true := (check_ok_bounds (h.chk k hk)).1
theorem LogOk.link_ok {l : List Entry} (h : LogOk l) {k : Nat} (hk : k < l.length) {x : Id} (hx : x ∈ (nth l k).ls) : okId x = true := by
  obtain ⟨j, h1, h2, h3⟩ := findE_spec (h.lnk k hk x hx)
  rw [List.length_take] at h2
  have : nth (l.take k) j = nth l j := by rw [nth_eq _ _ (by rw [List.length_take]; omega), nth_eq _ _ (by omega), List.getElem_take]
  rw [← h3, this]
  exact h.id_ok (by omega)
theorem LogOk.links {l : List Entry} (h : LogOk l) {k : Nat} (hk : k < l.length) : (nth l k).ls.length ≤ 6 := (check_ok_bounds (h.chk k hk)).2.2.2.1
theorem LogOk.link_lt {l : List Entry} (h : LogOk l) {k : Nat} (hk : k < l.length) {x : Id} (hx : x ∈ (nth l k).ls) : 0 ≤ findE l x ∧ findE l x < k := by
  have h1 := h.lnk k hk x hx
  have h2 := findE_take h1
  exact ⟨by omega, h2.2⟩
theorem LogOk.inj {l : List Entry} (h : LogOk l) {i k : Nat} (hi : i < l.length) (hk : k < l.length) (e : (nth l i).id = (nth l k).id) : i = k := by
  have aux : ∀ i k, i < k → k < l.length → (nth l i).id = (nth l k).id → False := fun i k hik hk e => by
    have := findE_neg.1 (h.new k hk) (nth l i) (by rw [List.mem_take_iff_getElem]; exact ⟨i, by omega, by rw [nth_eq _ _ (by omega)]⟩)
    exact this e
  rcases Nat.lt_trichotomy i k with h1 | h1 | h1
  · exact (aux i k h1 hk e).elim
  · exact h1
  · exact (aux k i h1 hi e.symm).elim
theorem LogOk.find {l : List Entry} (h : LogOk l) {k : Nat} (hk : k < l.length) : findE l (nth l k).id = k := by
  have h0 : ¬ findE l (nth l k).id < 0 := fun hn => findE_neg.1 hn (nth l k) (by rw [nth_eq _ _ hk]; exact List.getElem_mem hk) rfl
  obtain ⟨j, h1, h2, h3⟩ := findE_spec (by omega : 0 ≤ findE l (nth l k).id)
  rw [h1, h.inj h2 hk h3]
theorem LogOk.reg {l : List Entry} (h : LogOk l) : okReg l := by
  intro e he
  obtain ⟨k, hk, rfl⟩ := List.getElem_of_mem he
  rw [← nth_eq l k hk]
  exact reg_of_check (h.chk k hk)
/-! pasts -/
def pastAt (ps : List (List Id)) (l : List Entry) (x : Id) : List Id := nth ps (findE l x).toNat
def allOf (ps : List (List Id)) (l : List Entry) (ls : List Id) : List Id := ls.flatMap fun x => x :: pastAt ps l x
def pastsTo (l : List Entry) : Nat → List (List Id)
  | 0 => []
  | k + 1 => pastsTo l k ++ [setI (allOf (pastsTo l k) l (nth l k).ls)]
def pasts (l : List Entry) : List (List Id) := pastsTo l l.length
def pastOf (l : List Entry) (k : Nat) : List Id := nth (pasts l) k
@[simp] theorem pastsTo_length (l : List Entry) : ∀ k, (pastsTo l k).length = k
  | 0 => rfl
  | k + 1 => by simp [pastsTo, pastsTo_length l k]
theorem pastsTo_nth (l : List Entry) {i k : Nat} (h : i < k) : nth (pastsTo l k) i = nth (pastsTo l (i + 1)) i := by
  induction k with
  | zero => omega
  | succ k ih =>
    by_cases e : i = k
    · rw [e]
    · rw [← ih (by omega), nth_eq _ _ (by simp; omega), nth_eq _ _ (by simp; omega)]
      simp only [pastsTo]
      rw [List.getElem_append_left]
theorem nth_last (l : List Entry) (k : Nat) : nth (pastsTo l (k + 1)) k = setI (allOf (pastsTo l k) l (nth l k).ls) := by
  rw [nth_eq _ _ (by simp)]
  simp only [pastsTo]
  rw [List.getElem_append_right (by simp)]
  simp
theorem allOf_to {l : List Entry} (h : LogOk l) {k m : Nat} (hk : k < l.length) (hm : k ≤ m) : allOf (pastsTo l m) l (nth l k).ls = allOf (pastsTo l k) l (nth l k).ls := by
  unfold allOf
  have : ∀ x ∈ (nth l k).ls, pastAt (pastsTo l m) l x = pastAt (pastsTo l k) l x := fun x hx => by
    have := h.link_lt hk hx
    unfold pastAt
    rw [pastsTo_nth l (by omega : (findE l x).toNat < m), pastsTo_nth l (by omega : (findE l x).toNat < k)]
  rw [List.flatMap_def, List.flatMap_def]
  congr 1
  exact List.map_congr_left fun x hx => by rw [this x hx]
theorem pastOf_eq {l : List Entry} (h : LogOk l) {k : Nat} (hk : k < l.length) : pastOf l k = setI (allOf (pasts l) l (nth l k).ls) := by
  unfold pastOf pasts
  rw [pastsTo_nth l hk, nth_last, allOf_to h hk (Nat.le_of_lt hk)]
theorem pastOf_asc {l : List Entry} (h : LogOk l) {k : Nat} (hk : k < l.length) : Asc (pastOf l k) := by
  rw [pastOf_eq h hk]; exact setI_asc _
theorem mem_pastOf {l : List Entry} (h : LogOk l) {k : Nat} (hk : k < l.length) {y : Id} : y ∈ pastOf l k ↔ ∃ x ∈ (nth l k).ls, y = x ∨ y ∈ pastOf l (findE l x).toNat := by
  rw [pastOf_eq h hk, setI_mem, allOf, List.mem_flatMap]
  simp only [List.mem_cons]
  rfl
theorem pastOf_lt {l : List Entry} (h : LogOk l) : ∀ (k : Nat), k < l.length → ∀ y ∈ pastOf l k, ∃ j, j < k ∧ (nth l j).id = y := by
  intro k
  induction k using Nat.strongRecOn with
  | _ k ih =>
    intro hk y hy
    obtain ⟨x, hx, he⟩ := (mem_pastOf h hk).1 hy
    obtain ⟨h1, h2⟩ := h.link_lt hk hx
    obtain ⟨j, h3, h4, h5⟩ := findE_spec h1
    rcases he with rfl | he
    · exact ⟨j, by omega, h5⟩
    · obtain ⟨i, h6, h7⟩ := ih (findE l x).toNat (by omega) (by omega) y he
      exact ⟨i, by omega, h7⟩
theorem pastOf_ok {l : List Entry} (h : LogOk l) {k : Nat} (hk : k < l.length) : ∀ y ∈ pastOf l k, okId y = true := by
  intro y hy
  obtain ⟨j, h1, rfl⟩ := pastOf_lt h k hk y hy
  exact h.id_ok (by omega)
theorem pastOf_len {l : List Entry} (h : LogOk l) {k : Nat} (hk : k < l.length) : (pastOf l k).length ≤ 40 := asc_len (pastOf_asc h hk) (pastOf_ok h hk)
end Go.Proofs.Ytkibfciheifphaa
/- A struct that nobody writes any more: its pointer shows its cells, and its object is let go. -/
namespace Go.Proofs.Ytkibfciheifphaa
open Go.RowKit
theorem weak_rptr {x : Cx} {nt : Nat} {st : St} (t id : Nat) {cells : List PV} {H' : List AObj} {cells' : List PV} (h : st.env t = .ptr id 0) (hid : st.heap[id]? = some (.box cells)) (hc : cells.map (frz st.heap) = cells') (hp : cells'.all PV.isPure = true) (hH : st.heap.set id .gone = H') :
    Weak x nt st (st.put (some t) (.rptr cells') H') := by
  subst hc; subst hH
  intro a w ⟨⟨C, hr, he⟩, hdf, hs⟩
  have hlt : id < st.heap.length := (List.getElem?_eq_some_iff.1 hid).1
  obtain ⟨cs, T, g1, g2, g3⟩ := hr.obj id _ hid
  have hb : C.blk id < w.heap.size := (Array.getElem?_eq_some_iff.1 g1).1
  have hmp : ∀ p v, RepP (Stab x C st.heap w) w p v → RepP (Stab x C (st.heap.set id .gone) w) w p v := by
    intro p v h
    refine h.mono (fun b o h => ⟨h.1, h.2.1, fun i ob1 hi => ?_⟩) fun b o h => rfl
    by_cases e : i = id
    · subst e; rw [List.getElem?_set_self hlt] at hi; cases hi; trivial
    · rw [List.getElem?_set_ne (Ne.symm e)] at hi; exact h.2.2 i ob1 hi
  obtain ⟨k1, k2⟩ := hr.change (C' := C) hid (ob' := .gone) (step_refl w) rfl (fun _ => rfl) (fun _ _ => ⟨rfl, rfl⟩) (.inl ⟨rfl, rfl⟩)
    (fun b o hb hf => trivial) (fun b o hb hf => rfl) (fun b hb => hb.elim) (fun _ _ => trivial)
  have hfz := frz_cells (vs := cells) (us := cs.toList) hr (fun j q u hq hu => g3 j q u hq (by rw [← Array.getElem?_toList]; exact hu)) hp
  refine ⟨⟨C, k1, fun u => ?_⟩, hdf, hs⟩
  simp only [St.put, Option.some.injEq]
  by_cases e : t = u
  · subst e
    rw [if_pos rfl]
    have := he t
    rw [h] at this
    rw [this.ptr_inv.1]
    refine .rptr _ (C.blk id) 0 (fun j => cs[j]!) (fun j p hj => ?_) fun j p hj => ?_
    all_goals
      have hjl : j < cs.size := by
        have := (List.getElem?_eq_some_iff.1 hj).1
        rw [List.length_map] at this; omega
    · refine ⟨⟨?_, hb, fun i ob1 hi => ?_⟩, ?_⟩
      · rcases hr.mine id _ _ hid rfl with h | h
        · exact .inr (.inl h)
        · exact .inr (.inr h)
      · by_cases e : i = id
        · subst e; rw [List.getElem?_set_self hlt] at hi; cases hi; trivial
        · rw [List.getElem?_set_ne (Ne.symm e)] at hi
          exact AObj.free_of_not (fun hb => e (hr.apart i id ob1 _ _ hi hid hb rfl)) _
      · simp [World.cell?, g1, hjl]
    · exact hmp _ _ (hfz j p _ hj (by simp [hjl])).2
  · rw [if_neg e]; exact k2 _ _ (he u)
end Go.Proofs.Ytkibfciheifphaa
/- Pasts: contracts. -/
namespace Go.Proofs.Ytkibfciheifphaa
set_option linter.unusedSimpArgs false
set_option linter.unusedVariables false
open Go.RowKit
def ofRows (ps : List (List Id)) : List (List PV) := ps.map fun p => [.list (p.map cId)]
def pvPasts (l : List Entry) (ps : List (List Id)) : PV := .rptr [.list (l.map cE), .list (ofRows ps)]
theorem of_meets (l : List Entry) (ps : List (List Id)) (x : Id) (hl : l.length ≤ 9223372036854775806) (h0 : 0 ≤ findE l x) (h1 : findE l x < ps.length) :
    Meets Try.prog 61 [pvPasts l ps, .agg (cId x)] [] (.list ((pastAt ps l x).map cId)) [] := by
  have hg : ps[(findE l x).toNat]? = some (pastAt ps l x) := nth_get? _ _ (by omega)
  refine Meets.of_walk Try.func61 Try.ntmps61 low61 res61 (by simp) fun xx hx => ?_
  simp only [go_sem, Nat.reduceLT, Nat.reduceAdd, Nat.reduceEqDiff, Nat.reduceLeDiff, Nat.reduceSub, Nat.reduceMul, Int.reduceEq, eq_self, reduceIte, L61, R61, cId, pvPasts, ofRows]
  refine ops_call (.pureE (find_meets l x hl) (by simp [go_sem, Nat.reduceLT, Nat.reduceAdd, Nat.reduceEqDiff, Nat.reduceLeDiff, Nat.reduceSub, Nat.reduceMul, Int.reduceEq, eq_self, reduceIte, cId])) ?_
  simp only [go_sem, Nat.reduceLT, Nat.reduceAdd, Nat.reduceEqDiff, Nat.reduceLeDiff, Nat.reduceSub, Nat.reduceMul, Int.reduceEq, eq_self, reduceIte, h0, h1, hg]
  refine ret_pure hx ?_
  simp [go_sem, Nat.reduceLT, Nat.reduceAdd, Nat.reduceEqDiff, Nat.reduceLeDiff, Nat.reduceSub, Nat.reduceMul, Int.reduceEq, eq_self, reduceIte, L61, R61]
theorem ofA_meets (l : List Entry) (ps : List (List Id)) (x : Id) (v T : Nat) (hl : l.length ≤ 9223372036854775806) (h0 : 0 ≤ findE l x) (h1 : findE l x < ps.length) :
    Meets Try.prog 61 [.ptr 0 0, .agg (cId x)] [.box [.list (l.map cE), .arr 1 v], .arr v false false T 1 (ofRows ps)] (.list ((pastAt ps l x).map cId)) [.box [.list (l.map cE), .arr 1 v], .arr v false false T 1 (ofRows ps)] := by
  have hg : ps[(findE l x).toNat]? = some (pastAt ps l x) := nth_get? _ _ (by omega)
  refine Meets.of_walk Try.func61 Try.ntmps61 low61 res61 (by simp) fun xx hx => ?_
  simp only [go_sem, Nat.reduceLT, Nat.reduceAdd, Nat.reduceEqDiff, Nat.reduceLeDiff, Nat.reduceSub, Nat.reduceMul, Int.reduceEq, eq_self, reduceIte, L61, R61, cId, ofRows]
  refine ops_call (.pureE (find_meets l x hl) (by simp [go_sem, Nat.reduceLT, Nat.reduceAdd, Nat.reduceEqDiff, Nat.reduceLeDiff, Nat.reduceSub, Nat.reduceMul, Int.reduceEq, eq_self, reduceIte, cId])) ?_
  simp only [go_sem, Nat.reduceLT, Nat.reduceAdd, Nat.reduceEqDiff, Nat.reduceLeDiff, Nat.reduceSub, Nat.reduceMul, Int.reduceEq, eq_self, reduceIte, h0, h1, hg]
  refine ret_keep [] (by simp) (by simp) (by simp [hx]) ?_ ?_
  · simp [go_sem, Nat.reduceLT, Nat.reduceAdd, Nat.reduceEqDiff, Nat.reduceLeDiff, Nat.reduceSub, Nat.reduceMul, Int.reduceEq, eq_self, reduceIte, L61, R61, hx, pos, List.range_succ]
  · simp [subHeap, renObj, hx, go_sem, Nat.reduceLT, Nat.reduceAdd, Nat.reduceEqDiff, Nat.reduceLeDiff, Nat.reduceSub, Nat.reduceMul, Int.reduceEq, eq_self, reduceIte, pos, List.range_succ]
theorem allOf_take {ps : List (List Id)} {l : List Entry} {ls : List Id} {j : Nat} (h : j < ls.length) : allOf ps l (ls.take (j + 1)) = allOf ps l (ls.take j) ++ [nth ls j] ++ pastAt ps l (nth ls j) := by
  unfold allOf
  rw [List.take_succ_eq_append_getElem h, nth_eq _ _ h, List.flatMap_append]
  simp only [List.flatMap_cons, List.flatMap_nil, List.append_nil, List.append_assoc, List.cons_append, List.nil_append]
theorem pastAt_to {l : List Entry} {k : Nat} {x : Id} (hk : k ≤ l.length) (h0 : 0 ≤ findE l x) (h1 : findE l x < k) : pastAt (pastsTo l k) l x = pastOf l (findE l x).toNat := by
  unfold pastAt pastOf pasts
  rw [pastsTo_nth l (by omega : (findE l x).toNat < k), pastsTo_nth l (by omega : (findE l x).toNat < l.length)]
theorem allOf_len {l : List Entry} (h : LogOk l) {k : Nat} (hk : k < l.length) : ∀ j, j ≤ (nth l k).ls.length → (allOf (pastsTo l k) l ((nth l k).ls.take j)).length ≤ 41 * j
  | 0, _ => by simp [allOf]
  | j + 1, hj => by
    have hlj : j < (nth l k).ls.length := by omega
    obtain ⟨f1, f2⟩ := h.link_lt hk (x := nth (nth l k).ls j) (by rw [nth_eq _ _ hlj]; exact List.getElem_mem hlj)
    have := allOf_len h hk j (by omega)
    have h2 := pastOf_len h (k := (findE l (nth (nth l k).ls j)).toNat) (by omega)
    rw [allOf_take hlj, pastAt_to (by omega) f1 f2]
    simp only [List.length_append, List.length_cons, List.length_nil]
    omega
set_option maxHeartbeats 1000000 in
theorem before_meets (l : List Entry) (h : LogOk l) : Meets Try.prog 60 [.list (l.map cE)] [] (pvPasts l (pasts l)) [] := by
  have hm := h.len
  refine Meets.of_walk Try.func60 Try.ntmps60 low60 res60 (by simp) fun x hx => ?_
  simp only [go_sem, Nat.reduceLT, Nat.reduceAdd, Nat.reduceEqDiff, Nat.reduceLeDiff, Nat.reduceSub, Nat.reduceMul, Int.reduceEq, eq_self, reduceIte, L60, R60]
  refine W_weak (weak_ownc 0 1 0 42 1 false false rfl rfl (by omega)) ?_
  refine loop_inv [3, 12, 13, 14] 2 (fun n st => ∃ k : Nat, k + n = l.length ∧
    st = ⟨mkE .top [(3, .ptr 0 0), (12, .list (l.map cE)), (13, .int .i64 l.length), (14, .int .i64 k)], [.box [.list (l.map cE), .arr 1 k], .arr k false false 42 1 (ofRows (pastsTo l k))]⟩) l.length (by simp [hx]) (by simp) ?_ ?_
  · refine ⟨0, by omega, ?_⟩
    simp [trim_mk, go_sem, Nat.reduceLT, Nat.reduceAdd, Nat.reduceEqDiff, Nat.reduceLeDiff, Nat.reduceSub, Nat.reduceMul, Int.reduceEq, eq_self, reduceIte, subHeap, renObj, pos, List.range_succ, pastsTo, ofRows]
  · rintro n st ⟨k, hk, rfl⟩
    by_cases hlt : k < l.length
    · have hg : l[k]? = some (nth l k) := nth_get? _ _ hlt
      have wk := i64_up (k := k) (by omega)
      have hls := h.links hlt
      simp only [go_sem, Nat.reduceLT, Nat.reduceAdd, Nat.reduceEqDiff, Nat.reduceLeDiff, Nat.reduceSub, Nat.reduceMul, Int.reduceEq, eq_self, reduceIte, hlt, hg, cE]
      refine W_weak (weak_own 6 0 41 2 true false rfl (by omega)) ?_
      refine loop_inv [3, 6, 12, 13, 14, 19, 20, 21] 4 (fun n st => ∃ j : Nat, j + n = (nth l k).ls.length ∧
        st = ⟨mkE .top [(3, .ptr 0 0), (6, .arr 3 (2 * j)), (12, .list (l.map cE)), (13, .int .i64 l.length), (14, .int .i64 k), (19, .list ((nth l k).ls.map cId)), (20, .int .i64 (nth l k).ls.length), (21, .int .i64 j)],
          [.box [.list (l.map cE), .arr 1 k], .arr k false false 42 1 (ofRows (pastsTo l k)), .box (cE (nth l k)), .arr (2 * j) true false 41 2 ((allOf (pastsTo l k) l ((nth l k).ls.take j)).map cId)]⟩) (nth l k).ls.length (by simp [hx]) (by simp [St.put]) ?_ ?_
      · refine ⟨0, by omega, ?_⟩
        simp [trim_mk, go_sem, Nat.reduceLT, Nat.reduceAdd, Nat.reduceEqDiff, Nat.reduceLeDiff, Nat.reduceSub, Nat.reduceMul, Int.reduceEq, eq_self, reduceIte, subHeap, renObj, pos, List.range_succ, cE, allOf]
      · rintro n2 st ⟨j, hj, rfl⟩
        by_cases hlj : j < (nth l k).ls.length
        · have hgj : (nth l k).ls[j]? = some (nth (nth l k).ls j) := nth_get? _ _ hlj
          have wj := i64_up (k := j) (by omega)
          have hmem : nth (nth l k).ls j ∈ (nth l k).ls := by rw [nth_eq _ _ hlj]; exact List.getElem_mem hlj
          obtain ⟨f1, f2⟩ := h.link_lt hlt hmem
          simp only [go_sem, Nat.reduceLT, Nat.reduceAdd, Nat.reduceEqDiff, Nat.reduceLeDiff, Nat.reduceSub, Nat.reduceMul, Int.reduceEq, eq_self, reduceIte, hlj, hgj, cId]
          have b1 := allOf_len h hlt j (by omega)
          have b2 := pastOf_len h (k := (findE l (nth (nth l k).ls j)).toNat) (by omega)
          rw [← pastAt_to (k := k) (by omega) f1 f2] at b2
          rw [app_arr rfl rfl (by simp) (by simp; omega)]
          simp only [go_sem, Nat.reduceLT, Nat.reduceAdd, Nat.reduceEqDiff, Nat.reduceLeDiff, Nat.reduceSub, Nat.reduceMul, Int.reduceEq, eq_self, reduceIte]
          refine ops_call (.heapE [0, 1] (r' := .list ((pastAt (pastsTo l k) l (nth (nth l k).ls j)).map cId)) (H' := [.box [.list (l.map cE), .arr 1 k], .arr k false false 42 1 (ofRows (pastsTo l k)), .box (cE (nth l k)), .arr (2 * j + 1) true false 41 2 ((allOf (pastsTo l k) l ((nth l k).ls.take j)).map cId ++ [cId (nth (nth l k).ls j)]), .box (cId (nth (nth l k).ls j))]) (ofA_meets l (pastsTo l k) (nth (nth l k).ls j) k 42 (by omega) f1 (by simp; omega))
            (by simp) (by simp) (by simp [go_sem, Nat.reduceLT, Nat.reduceAdd, Nat.reduceEqDiff, Nat.reduceLeDiff, Nat.reduceSub, Nat.reduceMul, Int.reduceEq, eq_self, reduceIte, pos, cId]) (by simp [subHeap, renObj, go_sem, Nat.reduceLT, Nat.reduceAdd, Nat.reduceEqDiff, Nat.reduceLeDiff, Nat.reduceSub, Nat.reduceMul, Int.reduceEq, eq_self, reduceIte, pos]) rfl (by simp [merge, mergeObj, callId, renObj, pos, go_sem, Nat.reduceLT, Nat.reduceAdd, Nat.reduceEqDiff, Nat.reduceLeDiff, Nat.reduceSub, Nat.reduceMul, Int.reduceEq, eq_self, reduceIte, List.range_succ, backF, backId, cE, cId])) ?_
          simp only [go_sem, Nat.reduceLT, Nat.reduceAdd, Nat.reduceEqDiff, Nat.reduceLeDiff, Nat.reduceSub, Nat.reduceMul, Int.reduceEq, eq_self, reduceIte]
          rw [app_arr rfl rfl (by simp [cId]) (by simp; omega)]
          simp only [go_sem, Nat.reduceLT, Nat.reduceAdd, Nat.reduceEqDiff, Nat.reduceLeDiff, Nat.reduceSub, Nat.reduceMul, Int.reduceEq, eq_self, reduceIte, wj]
          refine ⟨rfl, ?_⟩
          refine ⟨by simp, n2 - 1, by omega, j + 1, by omega, ?_⟩
          simp [trim_mk, go_sem, Nat.reduceLT, Nat.reduceAdd, Nat.reduceEqDiff, Nat.reduceLeDiff, Nat.reduceSub, Nat.reduceMul, Int.reduceEq, eq_self, reduceIte, subHeap, renObj, pos, List.range_succ, cE, allOf_take hlj, show 2 * (j + 1) = 2 * j + 1 + 1 by omega]
        · have htl : (nth l k).ls.take j = (nth l k).ls := List.take_of_length_le (by omega)
          have b1 := allOf_len h hlt j (by omega)
          rw [htl] at b1
          simp only [go_sem, Nat.reduceLT, Nat.reduceAdd, Nat.reduceEqDiff, Nat.reduceLeDiff, Nat.reduceSub, Nat.reduceMul, Int.reduceEq, eq_self, reduceIte, hlj, htl]
          have hso := sortIds_meets (allOf (pastsTo l k) l (nth l k).ls) (2 * j) 41 (by omega)
          refine ops_call (.heapE [3] (r' := .tup []) (H' := [.box [.list (l.map cE), .arr 1 k], .arr k false false 42 1 (ofRows (pastsTo l k)), .box (cE (nth l k)), .arr (2 * j) true false 41 2 ((sortI (allOf (pastsTo l k) l (nth l k).ls)).map cId)]) hso
            (by simp) (by simp) (by simp [go_sem, Nat.reduceLT, Nat.reduceAdd, Nat.reduceEqDiff, Nat.reduceLeDiff, Nat.reduceSub, Nat.reduceMul, Int.reduceEq, eq_self, reduceIte, pos]) (by simp [subHeap, renObj, go_sem, Nat.reduceLT, Nat.reduceAdd, Nat.reduceEqDiff, Nat.reduceLeDiff, Nat.reduceSub, Nat.reduceMul, Int.reduceEq, eq_self, reduceIte, pos]) rfl (by simp [merge, mergeObj, callId, renObj, pos, go_sem, Nat.reduceLT, Nat.reduceAdd, Nat.reduceEqDiff, Nat.reduceLeDiff, Nat.reduceSub, Nat.reduceMul, Int.reduceEq, eq_self, reduceIte, List.range_succ, backF, backId, cE])) ?_
          simp only [go_sem, Nat.reduceLT, Nat.reduceAdd, Nat.reduceEqDiff, Nat.reduceLeDiff, Nat.reduceSub, Nat.reduceMul, Int.reduceEq, eq_self, reduceIte]
          have hco := compactIds_meets (sortI (allOf (pastsTo l k) l (nth l k).ls)) (2 * j) 41 (by rw [sortI_length]; omega)
          refine ops_call1 3 hco rfl rfl rfl rfl (by simp [go_sem, Nat.reduceLT, Nat.reduceAdd, Nat.reduceEqDiff, Nat.reduceLeDiff, Nat.reduceSub, Nat.reduceMul, Int.reduceEq, eq_self, reduceIte]) (by simp [go_sem, Nat.reduceLT, Nat.reduceAdd, Nat.reduceEqDiff, Nat.reduceLeDiff, Nat.reduceSub, Nat.reduceMul, Int.reduceEq, eq_self, reduceIte, pos]) rfl ?_
          simp only [go_sem, Nat.reduceLT, Nat.reduceAdd, Nat.reduceEqDiff, Nat.reduceLeDiff, Nat.reduceSub, Nat.reduceMul, Int.reduceEq, eq_self, reduceIte]
          rw [app_arr rfl rfl (by simp) (by simp [ofRows]; omega)]
          simp only [go_sem, Nat.reduceLT, Nat.reduceAdd, Nat.reduceEqDiff, Nat.reduceLeDiff, Nat.reduceSub, Nat.reduceMul, Int.reduceEq, eq_self, reduceIte, wk]
          refine ⟨rfl, rfl, rfl, ?_⟩
          refine ⟨by simp, n - 1, by omega, k + 1, by omega, ?_⟩
          simp [trim_mk, go_sem, Nat.reduceLT, Nat.reduceAdd, Nat.reduceEqDiff, Nat.reduceLeDiff, Nat.reduceSub, Nat.reduceMul, Int.reduceEq, eq_self, reduceIte, subHeap, renObj, pos, List.range_succ, cE, ofRows, pastsTo, setI]
    · have hke : k = l.length := by omega
      subst hke
      simp only [go_sem, Nat.reduceLT, Nat.reduceAdd, Nat.reduceEqDiff, Nat.reduceLeDiff, Nat.reduceSub, Nat.reduceMul, Int.reduceEq, eq_self, reduceIte, Nat.lt_irrefl]
      refine ret_weak (weak_rptr (cells' := [.list (l.map cE), .list (ofRows (pastsTo l l.length))]) 2 0 rfl rfl (by simp [frz]) rfl rfl) ?_
      refine ret_pure hx ?_
      simp [go_sem, Nat.reduceLT, Nat.reduceAdd, Nat.reduceEqDiff, Nat.reduceLeDiff, Nat.reduceSub, Nat.reduceMul, Int.reduceEq, eq_self, reduceIte, L60, R60, pvPasts, pasts]
end Go.Proofs.Ytkibfciheifphaa
/- Logs, in the law text's words: counting, finding, being right; colors; ids among others: contracts. -/
namespace Go.Proofs.Ytkibfciheifphaa
set_option linter.unusedSimpArgs false
set_option linter.unusedVariables false
open Go.RowKit
end Go.Proofs.Ytkibfciheifphaa
/- Pasts, heads, counts: contracts. -/
namespace Go.Proofs.Ytkibfciheifphaa
set_option linter.unusedSimpArgs false
set_option linter.unusedVariables false
open Go.RowKit
def hasI (l : List Id) (y : Id) : Bool := l.any fun x => decide (y = x)
theorem hasI_iff {l : List Id} {y : Id} : hasI l y = true ↔ y ∈ l := by simp [hasI]
theorem indexI2_meets (l : List Id) (y : Id) (hl : l.length ≤ 9223372036854775806) : Meets Try.prog 109 [.list (l.map cId), .agg (cId y)] [] (.int .i64 (idxF (fun x => decide (y = x)) l 0)) [] := by
  refine Meets.of_walk Try.func109 Try.ntmps109 low109 res109 (by simp) fun x hx => ?_
  simp only [go_sem, Nat.reduceLT, Nat.reduceAdd, Nat.reduceEqDiff, Nat.reduceLeDiff, Nat.reduceSub, Nat.reduceMul, Int.reduceEq, eq_self, reduceIte, L109, R109, cId]
  refine loop_inv [0, 3, 7, 8] 1 (fun n st => ∃ k : Nat, k + n = l.length ∧ idxF (fun x => decide (y = x)) (l.drop k) k = idxF (fun x => decide (y = x)) l 0 ∧
    st = ⟨mkE .top [(0, .list (l.map cId)), (3, .ptr 0 0), (7, .int .i64 l.length), (8, .int .i64 k)], [.box (cId y)]⟩) l.length (by simp [hx]) (by simp) ?_ ?_
  · refine ⟨0, by omega, by simp, ?_⟩
    simp [trim_mk, go_sem, Nat.reduceLT, Nat.reduceAdd, Nat.reduceEqDiff, Nat.reduceLeDiff, Nat.reduceSub, Nat.reduceMul, Int.reduceEq, eq_self, reduceIte, subHeap, renObj, pos, List.range_succ, cId]
  · rintro n st ⟨k, hk, hi, rfl⟩
    by_cases hlt : k < l.length
    · have hg : l[k]? = some (nth l k) := nth_get? _ _ hlt
      have wk := i64_up (k := k) (by omega)
      rw [idxF_drop _ l k hlt] at hi
      by_cases he : y = nth l k
      · simp only [go_sem, Nat.reduceLT, Nat.reduceAdd, Nat.reduceEqDiff, Nat.reduceLeDiff, Nat.reduceSub, Nat.reduceMul, Int.reduceEq, eq_self, reduceIte, hlt, hg, cId, beqId, he]
        refine ret_pure hx ?_
        simp [he] at hi
        simp [go_sem, Nat.reduceLT, Nat.reduceAdd, Nat.reduceEqDiff, Nat.reduceLeDiff, Nat.reduceSub, Nat.reduceMul, Int.reduceEq, eq_self, reduceIte, L109, R109, hi, he]
      · simp only [go_sem, Nat.reduceLT, Nat.reduceAdd, Nat.reduceEqDiff, Nat.reduceLeDiff, Nat.reduceSub, Nat.reduceMul, Int.reduceEq, eq_self, reduceIte, hlt, hg, cId, beqId, he, wk]
        refine ⟨by simp, n - 1, by omega, k + 1, by omega, by simpa [he] using hi, ?_⟩
        simp [trim_mk, go_sem, Nat.reduceLT, Nat.reduceAdd, Nat.reduceEqDiff, Nat.reduceLeDiff, Nat.reduceSub, Nat.reduceMul, Int.reduceEq, eq_self, reduceIte, subHeap, renObj, pos, List.range_succ, cId]
    · have : l.drop k = [] := List.drop_eq_nil_of_le (by omega)
      rw [this] at hi
      simp only [go_sem, Nat.reduceLT, Nat.reduceAdd, Nat.reduceEqDiff, Nat.reduceLeDiff, Nat.reduceSub, Nat.reduceMul, Int.reduceEq, eq_self, reduceIte, hlt]
      refine ret_pure hx ?_
      simp [go_sem, Nat.reduceLT, Nat.reduceAdd, Nat.reduceEqDiff, Nat.reduceLeDiff, Nat.reduceSub, Nat.reduceMul, Int.reduceEq, eq_self, reduceIte, L109, R109, ← hi, idxF]
theorem containsI_meets (l : List Id) (y : Id) (hl : l.length ≤ 9223372036854775806) : Meets Try.prog 94 [.list (l.map cId), .agg (cId y)] [] (.bool (hasI l y)) [] := by
  refine Meets.of_walk Try.func94 Try.ntmps94 low94 res94 (by simp) fun x hx => ?_
  simp only [go_sem, Nat.reduceLT, Nat.reduceAdd, Nat.reduceEqDiff, Nat.reduceLeDiff, Nat.reduceSub, Nat.reduceMul, Int.reduceEq, eq_self, reduceIte, L94, R94, cId]
  refine ops_call (.pureE (indexI2_meets l y hl) (by simp [go_sem, Nat.reduceLT, Nat.reduceAdd, Nat.reduceEqDiff, Nat.reduceLeDiff, Nat.reduceSub, Nat.reduceMul, Int.reduceEq, eq_self, reduceIte, cId])) ?_
  simp only [go_sem, Nat.reduceLT, Nat.reduceAdd, Nat.reduceEqDiff, Nat.reduceLeDiff, Nat.reduceSub, Nat.reduceMul, Int.reduceEq, eq_self, reduceIte]
  refine ret_pure hx ?_
  simp [go_sem, Nat.reduceLT, Nat.reduceAdd, Nat.reduceEqDiff, Nat.reduceLeDiff, Nat.reduceSub, Nat.reduceMul, Int.reduceEq, eq_self, reduceIte, L94, R94, hasI, idxF_any]
theorem ahead_meets (l : List Entry) (ps : List (List Id)) (y z : Id) (hl : l.length ≤ 9223372036854775806) (h0 : 0 ≤ findE l z) (h1 : findE l z < ps.length) (h2 : (pastAt ps l z).length ≤ 9223372036854775806) :
    Meets Try.prog 83 [pvPasts l ps, .agg (cId y), .agg (cId z)] [] (.bool (hasI (pastAt ps l z) y)) [] := by
  refine Meets.of_walk Try.func83 Try.ntmps83 low83 res83 (by simp) fun x hx => ?_
  simp only [go_sem, Nat.reduceLT, Nat.reduceAdd, Nat.reduceEqDiff, Nat.reduceLeDiff, Nat.reduceSub, Nat.reduceMul, Int.reduceEq, eq_self, reduceIte, L83, R83, cId, pvPasts]
  refine ops_call (.pureE (of_meets l ps z hl h0 h1) (by simp [go_sem, Nat.reduceLT, Nat.reduceAdd, Nat.reduceEqDiff, Nat.reduceLeDiff, Nat.reduceSub, Nat.reduceMul, Int.reduceEq, eq_self, reduceIte, cId, pvPasts])) ?_
  simp only [go_sem, Nat.reduceLT, Nat.reduceAdd, Nat.reduceEqDiff, Nat.reduceLeDiff, Nat.reduceSub, Nat.reduceMul, Int.reduceEq, eq_self, reduceIte]
  refine ops_call (.pureE (containsI_meets (pastAt ps l z) y h2) (by simp [go_sem, Nat.reduceLT, Nat.reduceAdd, Nat.reduceEqDiff, Nat.reduceLeDiff, Nat.reduceSub, Nat.reduceMul, Int.reduceEq, eq_self, reduceIte, cId])) ?_
  simp only [go_sem, Nat.reduceLT, Nat.reduceAdd, Nat.reduceEqDiff, Nat.reduceLeDiff, Nat.reduceSub, Nat.reduceMul, Int.reduceEq, eq_self, reduceIte]
  refine ret_pure hx ?_
  simp [go_sem, Nat.reduceLT, Nat.reduceAdd, Nat.reduceEqDiff, Nat.reduceLeDiff, Nat.reduceSub, Nat.reduceMul, Int.reduceEq, eq_self, reduceIte, L83, R83]
def bitB (c : Int) (i : Nat) : Bool := decide (c / 2 ^ i % 2 = 1)
def meetB (a b : Int) : Bool := (bitB a 0 && bitB b 0) || (bitB a 1 && bitB b 1) || (bitB a 2 && bitB b 2)
theorem and_meet0 {a b : Int} (ha : wthn a 1 7 = true) (hb : wthn b 1 7 = true) : (!decide (IntKind.i64.wrap ((BitVec.ofInt IntKind.i64.bits a &&& BitVec.ofInt IntKind.i64.bits b).toNat : Int) = 0)) = meetB a b := by
  have key : ∀ a b : Fin 8, (!decide (IntKind.i64.wrap ((BitVec.ofInt IntKind.i64.bits (a.val : Int) &&& BitVec.ofInt IntKind.i64.bits (b.val : Int)).toNat : Int) = 0)) = meetB (a.val : Int) (b.val : Int) := by decide +kernel
  rw [wthn_iff] at ha hb
  have := key ⟨a.toNat, by omega⟩ ⟨b.toNat, by omega⟩
  simp only [Int.toNat_of_nonneg (show 0 ≤ a by omega), Int.toNat_of_nonneg (show 0 ≤ b by omega)] at this
  exact this
theorem and_meet {a b : Int} (ha : wthn a 1 7 = true) (hb : wthn b 1 7 = true) : (!decide (IntKind.i64.wrap ((@HAnd.hAnd (BitVec 64) (BitVec 64) (BitVec 64) (@instHAndOfAndOp (BitVec IntKind.i64.bits) _) (BitVec.ofInt 64 a) (BitVec.ofInt 64 b)).toNat : Int) = 0)) = meetB a b := and_meet0 ha hb
def withC (l : List Entry) (c : Int) : List Entry := l.filter fun e => meetB e.c c
theorem withC_take {l : List Entry} {c : Int} {k : Nat} (h : k < l.length) : withC (l.take (k + 1)) c = withC (l.take k) c ++ if meetB (nth l k).c c then [nth l k] else [] := by
  unfold withC
  rw [List.take_succ_eq_append_getElem h, List.filter_append, nth_eq _ _ h]
  simp only [List.filter_cons, List.filter_nil]
theorem withC_len (l : List Entry) (c : Int) : (withC l c).length ≤ l.length := List.length_filter_le _ _
theorem LogOk.col {l : List Entry} (h : LogOk l) {k : Nat} (hk : k < l.length) : wthn (nth l k).c 1 7 = true := (check_ok_bounds (h.chk k hk)).2.1
theorem with_meets (l : List Entry) (c : Int) (h : LogOk l) (hc : wthn c 1 7 = true) : Meets Try.prog 80 [.list (l.map cE), .int .i64 c] [] (.list ((withC l c).map cE)) [] := by
  have hm := h.len
  refine Meets.of_walk Try.func80 Try.ntmps80 low80 res80 (by simp) fun x hx => ?_
  simp only [go_sem, Nat.reduceLT, Nat.reduceAdd, Nat.reduceEqDiff, Nat.reduceLeDiff, Nat.reduceSub, Nat.reduceMul, Int.reduceEq, eq_self, reduceIte, L80, R80]
  refine W_weak (weak_own 5 0 44 5 false false rfl (by omega)) ?_
  refine loop_inv [1, 5, 8, 9, 10] 1 (fun n st => ∃ k v : Nat, k + n = l.length ∧
    st = ⟨mkE .top [(1, .int .i64 c), (5, .arr 0 v), (8, .list (l.map cE)), (9, .int .i64 l.length), (10, .int .i64 k)], [.arr v false false 44 5 ((withC (l.take k) c).map cE)]⟩) l.length (by simp [hx]) (by simp [St.put]) ?_ ?_
  · refine ⟨0, 0, by omega, ?_⟩
    simp [trim_mk, go_sem, Nat.reduceLT, Nat.reduceAdd, Nat.reduceEqDiff, Nat.reduceLeDiff, Nat.reduceSub, Nat.reduceMul, Int.reduceEq, eq_self, reduceIte, subHeap, renObj, pos, List.range_succ, withC]
  · rintro n st ⟨k, v, hk, rfl⟩
    by_cases hlt : k < l.length
    · have hg : l[k]? = some (nth l k) := nth_get? _ _ hlt
      have wk := i64_up (k := k) (by omega)
      have hw := withC_take (c := c) hlt
      have hle := withC_len (l.take k) c
      rw [List.length_take] at hle
      have ha := and_meet (h.col hlt) hc
      cases hb : meetB (nth l k).c c
      · rw [hb] at ha hw
        simp only [go_sem, Nat.reduceLT, Nat.reduceAdd, Nat.reduceEqDiff, Nat.reduceLeDiff, Nat.reduceSub, Nat.reduceMul, Int.reduceEq, eq_self, reduceIte, hlt, hg, cE, ha, wk]
        refine ⟨by simp, n - 1, by omega, k + 1, v, by omega, ?_⟩
        simp [trim_mk, go_sem, Nat.reduceLT, Nat.reduceAdd, Nat.reduceEqDiff, Nat.reduceLeDiff, Nat.reduceSub, Nat.reduceMul, Int.reduceEq, eq_self, reduceIte, subHeap, renObj, pos, List.range_succ, hw]
      · rw [hb] at ha hw
        simp only [go_sem, Nat.reduceLT, Nat.reduceAdd, Nat.reduceEqDiff, Nat.reduceLeDiff, Nat.reduceSub, Nat.reduceMul, Int.reduceEq, eq_self, reduceIte, hlt, hg, cE, ha, wk]
        rw [app_arr rfl rfl (by simp) (by simp; omega)]
        simp only [go_sem, Nat.reduceLT, Nat.reduceAdd, Nat.reduceEqDiff, Nat.reduceLeDiff, Nat.reduceSub, Nat.reduceMul, Int.reduceEq, eq_self, reduceIte, wk]
        refine ⟨by simp, n - 1, by omega, k + 1, v + 1, by omega, ?_⟩
        simp [trim_mk, go_sem, Nat.reduceLT, Nat.reduceAdd, Nat.reduceEqDiff, Nat.reduceLeDiff, Nat.reduceSub, Nat.reduceMul, Int.reduceEq, eq_self, reduceIte, subHeap, renObj, pos, List.range_succ, hw, cE]
    · have : l.take k = l := List.take_of_length_le (by omega)
      simp only [go_sem, Nat.reduceLT, Nat.reduceAdd, Nat.reduceEqDiff, Nat.reduceLeDiff, Nat.reduceSub, Nat.reduceMul, Int.reduceEq, eq_self, reduceIte, hlt, this]
      refine ret_pure hx ?_
      simp [go_sem, Nat.reduceLT, Nat.reduceAdd, Nat.reduceEqDiff, Nat.reduceLeDiff, Nat.reduceSub, Nat.reduceMul, Int.reduceEq, eq_self, reduceIte, L80, R80, frzAt, pos]
theorem closed2 (c d : List PV) (h : c.map (renCell false (pos [0, 1]) (frzAt false [.box c, .box d])) = c) (h2 : c.map (renCell false (pos [0, 1]) (frzAt true [.box c, .box d])) = c) (h3 : c.map (renCell false (backF 2 [0, 1]) noFz) = c)
    (g : d.map (renCell false (pos [0, 1]) (frzAt false [.box c, .box d])) = d) (g2 : d.map (renCell false (pos [0, 1]) (frzAt true [.box c, .box d])) = d) (g3 : d.map (renCell false (backF 2 [0, 1]) noFz) = d) :
    ClosedH [.box c, .box d] [.ptr 0 0, .ptr 1 0] := by
  refine ⟨?_, ?_, ?_, ?_, ?_⟩
  · simp [renLeaf, pos, List.range_succ]
  · simp [ren, renCell, renLeaf, pos, List.range_succ]
  · simp only [List.length_cons, List.length_nil, List.range_succ, List.range_zero, List.nil_append, List.cons_append, subHeap, List.map_cons, List.map_nil, List.getElem?_cons_zero, List.getElem?_cons_succ, Option.getD_some, renObj, h, g]
  · simp only [List.length_cons, List.length_nil, List.range_succ, List.range_zero, List.nil_append, List.cons_append, merge, List.map_cons, List.map_nil, mergeObj, callId, Nat.zero_add, Nat.sub_self, Nat.add_zero]
    simp [pos, renObj, h3, g3]
  · simp only [List.length_cons, List.length_nil, List.range_succ, List.range_zero, List.nil_append, List.cons_append, subHeap, List.map_cons, List.map_nil, List.getElem?_cons_zero, List.getElem?_cons_succ, Option.getD_some, renObj, h2, g2]
theorem closedT (l : List Entry) (ps : List (List Id)) (e : Entry) : ClosedH [.box [pvPasts l ps], .box (cE e)] [.ptr 0 0, .ptr 1 0] := by
  refine closed2 _ _ ?_ ?_ ?_ ?_ ?_ ?_ <;> simp [pvPasts, cE, renCell, renLeaf]
theorem top1_meets (l : List Entry) (ps : List (List Id)) (e f : Entry) (hl : l.length ≤ 9223372036854775806) (h0 : 0 ≤ findE l f.id) (h1 : findE l f.id < ps.length) (h2 : (pastAt ps l f.id).length ≤ 9223372036854775806) :
    Meets Try.prog 82 [.agg (cE f), .ptr 0 0, .ptr 1 0] [.box [pvPasts l ps], .box (cE e)] (.bool (hasI (pastAt ps l f.id) e.id)) [.box [pvPasts l ps], .box (cE e)] := by
  refine Meets.of_walk Try.func82 Try.ntmps82 low82 res82 (by simp) fun x hx => ?_
  simp only [go_sem, Nat.reduceLT, Nat.reduceAdd, Nat.reduceEqDiff, Nat.reduceLeDiff, Nat.reduceSub, Nat.reduceMul, Int.reduceEq, eq_self, reduceIte, L82, R82, cE]
  refine ops_call (.pureE (ahead_meets l ps e.id f.id hl h0 h1 h2) (by simp [go_sem, Nat.reduceLT, Nat.reduceAdd, Nat.reduceEqDiff, Nat.reduceLeDiff, Nat.reduceSub, Nat.reduceMul, Int.reduceEq, eq_self, reduceIte, cId, pvPasts])) ?_
  simp only [go_sem, Nat.reduceLT, Nat.reduceAdd, Nat.reduceEqDiff, Nat.reduceLeDiff, Nat.reduceSub, Nat.reduceMul, Int.reduceEq, eq_self, reduceIte]
  refine ret_keep [] (by simp) (by simp) (by simp [hx]) ?_ ?_
  · simp [go_sem, Nat.reduceLT, Nat.reduceAdd, Nat.reduceEqDiff, Nat.reduceLeDiff, Nat.reduceSub, Nat.reduceMul, Int.reduceEq, eq_self, reduceIte, L82, R82, hx]
  · simp [subHeap, renObj, hx, go_sem, Nat.reduceLT, Nat.reduceAdd, Nat.reduceEqDiff, Nat.reduceLeDiff, Nat.reduceSub, Nat.reduceMul, Int.reduceEq, eq_self, reduceIte, pos, List.range_succ, cE, pvPasts]
def underB (l : List Entry) (c : Int) (e : Entry) : Bool := (withC l c).any fun f => hasI (pastAt (pasts l) l f.id) e.id
def headsC (l : List Entry) (c : Int) : List Id := ((withC l c).filter fun e => !underB l c e).map (·.id)
theorem headsC_take {l : List Entry} {c : Int} {s : List Entry} {k : Nat} (h : k < s.length) : ((s.take (k + 1)).filter fun e => !underB l c e).map (·.id) = ((s.take k).filter fun e => !underB l c e).map (·.id) ++ if underB l c (nth s k) then [] else [(nth s k).id] := by
  rw [List.take_succ_eq_append_getElem h, List.filter_append, nth_eq _ _ h, List.map_append]
  simp only [List.filter_cons, List.filter_nil]
  cases underB l c s[k] <;> rfl
theorem withC_mem {l : List Entry} {c : Int} {e : Entry} (h : e ∈ withC l c) : ∃ k, k < l.length ∧ nth l k = e := by
  obtain ⟨k, hk, rfl⟩ := List.getElem_of_mem (List.mem_filter.1 h).1
  exact ⟨k, hk, nth_eq _ _ hk⟩
theorem pastAt_eq {l : List Entry} (x : Id) : pastAt (pasts l) l x = pastOf l (findE l x).toNat := rfl
set_option maxHeartbeats 1000000 in
theorem top_meets (l : List Entry) (c : Int) (h : LogOk l) (hc : wthn c 1 7 = true) : Meets Try.prog 62 [.list (l.map cE), .int .i64 c] [] (.list ((sortI (headsC l c)).map cId)) [] := by
  have hm := h.len
  have hle := withC_len l c
  refine Meets.of_walk Try.func62 Try.ntmps62 low62 res62 (by simp) fun x hx => ?_
  simp only [go_sem, Nat.reduceLT, Nat.reduceAdd, Nat.reduceEqDiff, Nat.reduceLeDiff, Nat.reduceSub, Nat.reduceMul, Int.reduceEq, eq_self, reduceIte, L62, R62]
  refine ops_call (.pureE (before_meets l h) (by simp [go_sem, Nat.reduceLT, Nat.reduceAdd, Nat.reduceEqDiff, Nat.reduceLeDiff, Nat.reduceSub, Nat.reduceMul, Int.reduceEq, eq_self, reduceIte])) ?_
  simp only [go_sem, Nat.reduceLT, Nat.reduceAdd, Nat.reduceEqDiff, Nat.reduceLeDiff, Nat.reduceSub, Nat.reduceMul, Int.reduceEq, eq_self, reduceIte, pvPasts]
  refine ops_call (.pureE (with_meets l c h hc) (by simp [go_sem, Nat.reduceLT, Nat.reduceAdd, Nat.reduceEqDiff, Nat.reduceLeDiff, Nat.reduceSub, Nat.reduceMul, Int.reduceEq, eq_self, reduceIte])) ?_
  simp only [go_sem, Nat.reduceLT, Nat.reduceAdd, Nat.reduceEqDiff, Nat.reduceLeDiff, Nat.reduceSub, Nat.reduceMul, Int.reduceEq, eq_self, reduceIte]
  refine W_weak (weak_own 7 0 41 2 true false rfl (by omega)) ?_
  refine loop_inv [5, 6, 7, 15, 16, 17] 2 (fun n st => ∃ k v : Nat, k + n = (withC l c).length ∧
    st = ⟨mkE .top [(5, .ptr 0 0), (6, .list ((withC l c).map cE)), (7, .arr 1 v), (15, .list ((withC l c).map cE)), (16, .int .i64 (withC l c).length), (17, .int .i64 k)],
      [.box [pvPasts l (pasts l)], .arr v true false 41 2 ((((withC l c).take k).filter fun e => !underB l c e).map (·.id) |>.map cId)]⟩) (withC l c).length (by simp [hx]) (by simp [St.put]) ?_ ?_
  · refine ⟨0, 0, by omega, ?_⟩
    simp [trim_mk, go_sem, Nat.reduceLT, Nat.reduceAdd, Nat.reduceEqDiff, Nat.reduceLeDiff, Nat.reduceSub, Nat.reduceMul, Int.reduceEq, eq_self, reduceIte, subHeap, renObj, pos, List.range_succ, pvPasts]
  · rintro n st ⟨k, v, hk, rfl⟩
    by_cases hlt : k < (withC l c).length
    · have hg : (withC l c)[k]? = some (nth (withC l c) k) := nth_get? _ _ hlt
      have wk := i64_up (k := k) (by omega)
      have hw := headsC_take (l := l) (c := c) hlt
      have hle2 : ((((withC l c).take k).filter fun e => !underB l c e).map (·.id)).length ≤ 40 := by
        rw [List.length_map]
        refine Nat.le_trans (List.length_filter_le _ _) ?_
        rw [List.length_take]; omega
      simp only [go_sem, Nat.reduceLT, Nat.reduceAdd, Nat.reduceEqDiff, Nat.reduceLeDiff, Nat.reduceSub, Nat.reduceMul, Int.reduceEq, eq_self, reduceIte, hlt, hg, cE]
      have hcf := contFE_meets (withC l c) 82 [.ptr 0 0, .ptr 1 0] [.box [pvPasts l (pasts l)], .box (cE (nth (withC l c) k))] (fun f => hasI (pastAt (pasts l) l f.id) (nth (withC l c) k).id) (by kernel_rfl) (by omega) (closedT _ _ _) (fun f hf => by
        obtain ⟨j, hj, rfl⟩ := withC_mem hf
        have e := h.find hj
        exact top1_meets l (pasts l) _ _ (by omega) (by omega) (by simp [pasts]; omega) (by rw [pastAt_eq, e, Int.toNat_natCast]; have := pastOf_len h hj; omega))
      refine ops_call (.heapE [0, 2] (r' := .bool (underB l c (nth (withC l c) k))) (H' := [.box [pvPasts l (pasts l)], .arr v true false 41 2 ((((withC l c).take k).filter fun e => !underB l c e).map (·.id) |>.map cId), .box (cE (nth (withC l c) k))]) hcf
        (by simp) (by simp) (by simp [go_sem, Nat.reduceLT, Nat.reduceAdd, Nat.reduceEqDiff, Nat.reduceLeDiff, Nat.reduceSub, Nat.reduceMul, Int.reduceEq, eq_self, reduceIte, pos]) (by simp [subHeap, renObj, go_sem, Nat.reduceLT, Nat.reduceAdd, Nat.reduceEqDiff, Nat.reduceLeDiff, Nat.reduceSub, Nat.reduceMul, Int.reduceEq, eq_self, reduceIte, pos, cE, pvPasts]) rfl (by simp [merge, mergeObj, callId, renObj, pos, go_sem, Nat.reduceLT, Nat.reduceAdd, Nat.reduceEqDiff, Nat.reduceLeDiff, Nat.reduceSub, Nat.reduceMul, Int.reduceEq, eq_self, reduceIte, List.range_succ, backF, backId, cE, pvPasts])) ?_
      cases hu : underB l c (nth (withC l c) k)
      · rw [hu] at hw
        simp only [go_sem, Nat.reduceLT, Nat.reduceAdd, Nat.reduceEqDiff, Nat.reduceLeDiff, Nat.reduceSub, Nat.reduceMul, Int.reduceEq, eq_self, reduceIte, cE]
        rw [app_arr rfl rfl (by simp) (by simp at hle2 ⊢; omega)]
        simp only [go_sem, Nat.reduceLT, Nat.reduceAdd, Nat.reduceEqDiff, Nat.reduceLeDiff, Nat.reduceSub, Nat.reduceMul, Int.reduceEq, eq_self, reduceIte, wk]
        refine ⟨by simp, n - 1, by omega, k + 1, v + 1, by omega, ?_⟩
        rw [hw]
        simp [trim_mk, go_sem, Nat.reduceLT, Nat.reduceAdd, Nat.reduceEqDiff, Nat.reduceLeDiff, Nat.reduceSub, Nat.reduceMul, Int.reduceEq, eq_self, reduceIte, subHeap, renObj, pos, List.range_succ, cId, pvPasts]
      · rw [hu] at hw
        simp only [go_sem, Nat.reduceLT, Nat.reduceAdd, Nat.reduceEqDiff, Nat.reduceLeDiff, Nat.reduceSub, Nat.reduceMul, Int.reduceEq, eq_self, reduceIte, wk]
        refine ⟨by simp, n - 1, by omega, k + 1, v, by omega, ?_⟩
        rw [hw]
        simp [trim_mk, go_sem, Nat.reduceLT, Nat.reduceAdd, Nat.reduceEqDiff, Nat.reduceLeDiff, Nat.reduceSub, Nat.reduceMul, Int.reduceEq, eq_self, reduceIte, subHeap, renObj, pos, List.range_succ, cId, pvPasts]
    · have : (withC l c).take k = withC l c := List.take_of_length_le (by omega)
      have hle2 : (headsC l c).length ≤ 40 := by
        unfold headsC
        rw [List.length_map]
        refine Nat.le_trans (List.length_filter_le _ _) ?_
        omega
      simp only [go_sem, Nat.reduceLT, Nat.reduceAdd, Nat.reduceEqDiff, Nat.reduceLeDiff, Nat.reduceSub, Nat.reduceMul, Int.reduceEq, eq_self, reduceIte, hlt, this]
      have hso := sortIds_meets (headsC l c) v 41 (by omega)
      refine ops_call (.heapE [1] (r' := .tup []) (H' := [.box [pvPasts l (pasts l)], .arr v true false 41 2 ((sortI (headsC l c)).map cId)]) hso
        (by simp) (by simp) (by simp [go_sem, Nat.reduceLT, Nat.reduceAdd, Nat.reduceEqDiff, Nat.reduceLeDiff, Nat.reduceSub, Nat.reduceMul, Int.reduceEq, eq_self, reduceIte, pos]) (by simp [subHeap, renObj, go_sem, Nat.reduceLT, Nat.reduceAdd, Nat.reduceEqDiff, Nat.reduceLeDiff, Nat.reduceSub, Nat.reduceMul, Int.reduceEq, eq_self, reduceIte, pos, headsC]) rfl (by simp [merge, mergeObj, callId, renObj, pos, go_sem, Nat.reduceLT, Nat.reduceAdd, Nat.reduceEqDiff, Nat.reduceLeDiff, Nat.reduceSub, Nat.reduceMul, Int.reduceEq, eq_self, reduceIte, List.range_succ, backF, backId, pvPasts])) ?_
      simp only [go_sem, Nat.reduceLT, Nat.reduceAdd, Nat.reduceEqDiff, Nat.reduceLeDiff, Nat.reduceSub, Nat.reduceMul, Int.reduceEq, eq_self, reduceIte]
      refine ret_pure hx ?_
      simp [go_sem, Nat.reduceLT, Nat.reduceAdd, Nat.reduceEqDiff, Nat.reduceLeDiff, Nat.reduceSub, Nat.reduceMul, Int.reduceEq, eq_self, reduceIte, L62, R62, frzAt, pos]
end Go.Proofs.Ytkibfciheifphaa
/- dag.Past, dag.Heads, dag.Count: contracts. -/
namespace Go.Proofs.Ytkibfciheifphaa
set_option linter.unusedSimpArgs false
set_option linter.unusedVariables false
open Go.RowKit
def pastErr (l : List Entry) (y : Id) : Int := if checkLog l ≠ 0 then checkLog l else if findE l y < 0 then 5 else 0
def pastIds (l : List Entry) (y : Id) : List Id := if pastErr l y = 0 then pastOf l (findE l y).toNat else []
theorem dagPast_meets (l : List Entry) (y : Id) (hl : l.length ≤ 9223372036854775806) : Meets Try.prog 38 [.list (l.map cE), .agg (cId y)] [] (.tup [.list ((pastIds l y).map cId), .int .i64 (pastErr l y)]) [] := by
  refine Meets.of_walk Try.func38 Try.ntmps38 low38 res38 (by simp) fun x hx => ?_
  simp only [go_sem, Nat.reduceLT, Nat.reduceAdd, Nat.reduceEqDiff, Nat.reduceLeDiff, Nat.reduceSub, Nat.reduceMul, Int.reduceEq, eq_self, reduceIte, L38, R38, cId]
  refine ops_call (.pureE (dagCheck_meets l hl) (by simp [go_sem, Nat.reduceLT, Nat.reduceAdd, Nat.reduceEqDiff, Nat.reduceLeDiff, Nat.reduceSub, Nat.reduceMul, Int.reduceEq, eq_self, reduceIte])) ?_
  by_cases h0 : checkLog l = 0
  · have hok := log_ok.1 h0
    simp only [go_sem, Nat.reduceLT, Nat.reduceAdd, Nat.reduceEqDiff, Nat.reduceLeDiff, Nat.reduceSub, Nat.reduceMul, Int.reduceEq, eq_self, reduceIte, h0]
    refine ops_call (.pureE (find_meets l y hl) (by simp [go_sem, Nat.reduceLT, Nat.reduceAdd, Nat.reduceEqDiff, Nat.reduceLeDiff, Nat.reduceSub, Nat.reduceMul, Int.reduceEq, eq_self, reduceIte, cId])) ?_
    by_cases h1 : findE l y < 0
    · simp only [go_sem, Nat.reduceLT, Nat.reduceAdd, Nat.reduceEqDiff, Nat.reduceLeDiff, Nat.reduceSub, Nat.reduceMul, Int.reduceEq, eq_self, reduceIte, h1]
      refine ret_pure hx ?_
      simp [go_sem, Nat.reduceLT, Nat.reduceAdd, Nat.reduceEqDiff, Nat.reduceLeDiff, Nat.reduceSub, Nat.reduceMul, Int.reduceEq, eq_self, reduceIte, L38, R38, pastErr, pastIds, h0, h1]
    · obtain ⟨k, f1, f2, f3⟩ := findE_spec (show 0 ≤ findE l y by omega)
      simp only [go_sem, Nat.reduceLT, Nat.reduceAdd, Nat.reduceEqDiff, Nat.reduceLeDiff, Nat.reduceSub, Nat.reduceMul, Int.reduceEq, eq_self, reduceIte, h1]
      refine ops_call (.pureE (before_meets l hok) (by simp [go_sem, Nat.reduceLT, Nat.reduceAdd, Nat.reduceEqDiff, Nat.reduceLeDiff, Nat.reduceSub, Nat.reduceMul, Int.reduceEq, eq_self, reduceIte])) ?_
      simp only [go_sem, Nat.reduceLT, Nat.reduceAdd, Nat.reduceEqDiff, Nat.reduceLeDiff, Nat.reduceSub, Nat.reduceMul, Int.reduceEq, eq_self, reduceIte, pvPasts]
      refine ops_call (.pureE (of_meets l (pasts l) y (by omega) (by omega) (by simp [pasts]; omega)) (by simp [go_sem, Nat.reduceLT, Nat.reduceAdd, Nat.reduceEqDiff, Nat.reduceLeDiff, Nat.reduceSub, Nat.reduceMul, Int.reduceEq, eq_self, reduceIte, cId, pvPasts])) ?_
      simp only [go_sem, Nat.reduceLT, Nat.reduceAdd, Nat.reduceEqDiff, Nat.reduceLeDiff, Nat.reduceSub, Nat.reduceMul, Int.reduceEq, eq_self, reduceIte]
      refine ret_pure hx ?_
      simp [go_sem, Nat.reduceLT, Nat.reduceAdd, Nat.reduceEqDiff, Nat.reduceLeDiff, Nat.reduceSub, Nat.reduceMul, Int.reduceEq, eq_self, reduceIte, L38, R38, pastErr, pastIds, h0, h1, pastAt_eq]
  · simp only [go_sem, Nat.reduceLT, Nat.reduceAdd, Nat.reduceEqDiff, Nat.reduceLeDiff, Nat.reduceSub, Nat.reduceMul, Int.reduceEq, eq_self, reduceIte, h0]
    refine ret_pure hx ?_
    simp [go_sem, Nat.reduceLT, Nat.reduceAdd, Nat.reduceEqDiff, Nat.reduceLeDiff, Nat.reduceSub, Nat.reduceMul, Int.reduceEq, eq_self, reduceIte, L38, R38, pastErr, pastIds, h0]
def headsErr (l : List Entry) (c : Int) : Int := if checkLog l ≠ 0 then checkLog l else if wthn c 1 7 = false then 3 else 0
def headsIds (l : List Entry) (c : Int) : List Id := if headsErr l c = 0 then sortI (headsC l c) else []
theorem dagHeads_meets (l : List Entry) (c : Int) (hl : l.length ≤ 9223372036854775806) : Meets Try.prog 40 [.list (l.map cE), .int .i64 c] [] (.tup [.list ((headsIds l c).map cId), .int .i64 (headsErr l c)]) [] := by
  refine Meets.of_walk Try.func40 Try.ntmps40 low40 res40 (by simp) fun x hx => ?_
  simp only [go_sem, Nat.reduceLT, Nat.reduceAdd, Nat.reduceEqDiff, Nat.reduceLeDiff, Nat.reduceSub, Nat.reduceMul, Int.reduceEq, eq_self, reduceIte, L40, R40]
  refine ops_call (.pureE (dagCheck_meets l hl) (by simp [go_sem, Nat.reduceLT, Nat.reduceAdd, Nat.reduceEqDiff, Nat.reduceLeDiff, Nat.reduceSub, Nat.reduceMul, Int.reduceEq, eq_self, reduceIte])) ?_
  by_cases h0 : checkLog l = 0
  · have hok := log_ok.1 h0
    simp only [go_sem, Nat.reduceLT, Nat.reduceAdd, Nat.reduceEqDiff, Nat.reduceLeDiff, Nat.reduceSub, Nat.reduceMul, Int.reduceEq, eq_self, reduceIte, h0]
    refine ops_call (.pureE (colors_meets c) (by simp [go_sem, Nat.reduceLT, Nat.reduceAdd, Nat.reduceEqDiff, Nat.reduceLeDiff, Nat.reduceSub, Nat.reduceMul, Int.reduceEq, eq_self, reduceIte])) ?_
    cases h1 : wthn c 1 7
    · simp only [go_sem, Nat.reduceLT, Nat.reduceAdd, Nat.reduceEqDiff, Nat.reduceLeDiff, Nat.reduceSub, Nat.reduceMul, Int.reduceEq, eq_self, reduceIte]
      refine ret_pure hx ?_
      simp [go_sem, Nat.reduceLT, Nat.reduceAdd, Nat.reduceEqDiff, Nat.reduceLeDiff, Nat.reduceSub, Nat.reduceMul, Int.reduceEq, eq_self, reduceIte, L40, R40, headsErr, headsIds, h0, h1]
    · simp only [go_sem, Nat.reduceLT, Nat.reduceAdd, Nat.reduceEqDiff, Nat.reduceLeDiff, Nat.reduceSub, Nat.reduceMul, Int.reduceEq, eq_self, reduceIte]
      refine ops_call (.pureE (top_meets l c hok h1) (by simp [go_sem, Nat.reduceLT, Nat.reduceAdd, Nat.reduceEqDiff, Nat.reduceLeDiff, Nat.reduceSub, Nat.reduceMul, Int.reduceEq, eq_self, reduceIte])) ?_
      simp only [go_sem, Nat.reduceLT, Nat.reduceAdd, Nat.reduceEqDiff, Nat.reduceLeDiff, Nat.reduceSub, Nat.reduceMul, Int.reduceEq, eq_self, reduceIte]
      refine ret_pure hx ?_
      simp [go_sem, Nat.reduceLT, Nat.reduceAdd, Nat.reduceEqDiff, Nat.reduceLeDiff, Nat.reduceSub, Nat.reduceMul, Int.reduceEq, eq_self, reduceIte, L40, R40, headsErr, headsIds, h0, h1]
  · simp only [go_sem, Nat.reduceLT, Nat.reduceAdd, Nat.reduceEqDiff, Nat.reduceLeDiff, Nat.reduceSub, Nat.reduceMul, Int.reduceEq, eq_self, reduceIte, h0]
    refine ret_pure hx ?_
    simp [go_sem, Nat.reduceLT, Nat.reduceAdd, Nat.reduceEqDiff, Nat.reduceLeDiff, Nat.reduceSub, Nat.reduceMul, Int.reduceEq, eq_self, reduceIte, L40, R40, headsErr, headsIds, h0]
def countR (l : List Entry) (r : Int) : Int := if checkLog l = 0 then cntR l r else 0
theorem dagCount_meets (l : List Entry) (hl : l.length ≤ 9223372036854775806) : Meets Try.prog 21 [.list (l.map cE)] [] (.tup [.agg [.int .i64 (countR l 0), .int .i64 (countR l 1)], .int .i64 (checkLog l)]) [] := by
  refine Meets.of_walk Try.func21 Try.ntmps21 low21 res21 (by simp) fun x hx => ?_
  simp only [go_sem, Nat.reduceLT, Nat.reduceAdd, Nat.reduceEqDiff, Nat.reduceLeDiff, Nat.reduceSub, Nat.reduceMul, Int.reduceEq, eq_self, reduceIte, L21, R21]
  refine ops_call (.pureE (dagCheck_meets l hl) (by simp [go_sem, Nat.reduceLT, Nat.reduceAdd, Nat.reduceEqDiff, Nat.reduceLeDiff, Nat.reduceSub, Nat.reduceMul, Int.reduceEq, eq_self, reduceIte])) ?_
  by_cases h0 : checkLog l = 0
  · have hok := log_ok.1 h0
    simp only [go_sem, Nat.reduceLT, Nat.reduceAdd, Nat.reduceEqDiff, Nat.reduceLeDiff, Nat.reduceSub, Nat.reduceMul, Int.reduceEq, eq_self, reduceIte, h0]
    refine ops_call (.pureE (many_meets l hok.reg (by have := hok.len; omega)) (by simp [go_sem, Nat.reduceLT, Nat.reduceAdd, Nat.reduceEqDiff, Nat.reduceLeDiff, Nat.reduceSub, Nat.reduceMul, Int.reduceEq, eq_self, reduceIte])) ?_
    simp only [go_sem, Nat.reduceLT, Nat.reduceAdd, Nat.reduceEqDiff, Nat.reduceLeDiff, Nat.reduceSub, Nat.reduceMul, Int.reduceEq, eq_self, reduceIte]
    refine ret_pure hx ?_
    simp [go_sem, Nat.reduceLT, Nat.reduceAdd, Nat.reduceEqDiff, Nat.reduceLeDiff, Nat.reduceSub, Nat.reduceMul, Int.reduceEq, eq_self, reduceIte, L21, R21, countR, h0]
  · simp only [go_sem, Nat.reduceLT, Nat.reduceAdd, Nat.reduceEqDiff, Nat.reduceLeDiff, Nat.reduceSub, Nat.reduceMul, Int.reduceEq, eq_self, reduceIte, h0]
    refine ret_pure hx ?_
    simp [go_sem, Nat.reduceLT, Nat.reduceAdd, Nat.reduceEqDiff, Nat.reduceLeDiff, Nat.reduceSub, Nat.reduceMul, Int.reduceEq, eq_self, reduceIte, L21, R21, countR, h0]
/-! the same in the law text's words -/
end Go.Proofs.Ytkibfciheifphaa
/- Pasts and heads in the law text's words: contracts. -/
namespace Go.Proofs.Ytkibfciheifphaa
set_option linter.unusedSimpArgs false
set_option linter.unusedVariables false
open Go.RowKit
def markL (l : List Entry) (ls : List Id) (M : List Bool) : List Bool := ls.foldl (fun M x => M.set (findE l x).toNat true) M
def markS (l : List Entry) (a i : Nat) (M : List Bool) : List Bool := if i = a ∨ nth M i = true then markL l (nth l i).ls M else M
def marks (l : List Entry) (a : Nat) : Nat → List Bool
  | 0 => List.replicate l.length false
  | s + 1 => markS l a (a - s) (marks l a s)
def marksOf (l : List Entry) (a : Nat) : List Bool := marks l a (a + 1)
theorem markL_length (l : List Entry) : ∀ (ls : List Id) (M : List Bool), (markL l ls M).length = M.length
  | [], _ => rfl
  | x :: ls, M => by
    show (markL l ls (M.set _ true)).length = _
    rw [markL_length l ls]; simp
theorem marks_length (l : List Entry) (a : Nat) : ∀ s, (marks l a s).length = l.length
  | 0 => by simp [marks]
  | s + 1 => by
    simp only [marks, markS]
    split
    · rw [markL_length, marks_length l a s]
    · exact marks_length l a s
end Go.Proofs.Ytkibfciheifphaa
/- Ids that are told, rising: a contract. -/
namespace Go.Proofs.Ytkibfciheifphaa
set_option linter.unusedSimpArgs false
set_option linter.unusedVariables false
open Go.RowKit
def idRow (r n : Nat) : List Id := (List.range n).map fun m => ⟨r, ((m + 1 : Nat) : Int)⟩
def idsUp (r n : Nat) : List Id := (List.range r).flatMap (fun q => idRow q 20) ++ idRow r n
def allIds : List Id := idsUp 2 0
def tellB (l : List Entry) (M : List Bool) (x : Id) : Bool := decide (0 ≤ findE l x) && nth M (findE l x).toNat
def risingI (l : List Entry) (M : List Bool) : List Id := allIds.filter (tellB l M)
end Go.Proofs.Ytkibfciheifphaa
/- Heads in the law text's words: a contract. -/
namespace Go.Proofs.Ytkibfciheifphaa
set_option linter.unusedSimpArgs false
set_option linter.unusedVariables false
open Go.RowKit
def cutM (M P : List Bool) : List Bool := List.zipWith (fun a p => a && !p) M P
def meetsL (l : List Entry) (c : Int) : List Bool := l.map fun e => meetB e.c c
def headM (l : List Entry) (c : Int) : Nat → List Bool
  | 0 => meetsL l c
  | k + 1 => if meetB (nth l k).c c then cutM (headM l c k) (marksOf l k) else headM l c k
theorem marksOf_length (l : List Entry) (a : Nat) : (marksOf l a).length = l.length := marks_length l a (a + 1)
theorem headM_length (l : List Entry) (c : Int) : ∀ k, (headM l c k).length = l.length
  | 0 => by simp [headM, meetsL]
  | k + 1 => by
    simp only [headM]
    split
    · simp [cutM, headM_length l c k, marksOf_length]
    · exact headM_length l c k
def headsR (l : List Entry) (c : Int) : List Id := risingI l (headM l c l.length)
end Go.Proofs.Ytkibfciheifphaa
/- Plain laws of pasts and heads: what the marks tell. No program in sight. -/
namespace Go.Proofs.Ytkibfciheifphaa
theorem pastOf_trans {l : List Entry} (h : LogOk l) {j : Nat} (hj : j < l.length) : ∀ (a : Nat), a < l.length → (nth l j).id ∈ pastOf l a → ∀ y ∈ pastOf l j, y ∈ pastOf l a := by
  intro a
  induction a using Nat.strongRecOn with
  | _ a ih =>
    intro ha hm y hy
    obtain ⟨x, hx, he⟩ := (mem_pastOf h ha).1 hm
    obtain ⟨f1, f2⟩ := h.link_lt ha hx
    refine (mem_pastOf h ha).2 ⟨x, hx, .inr ?_⟩
    rcases he with rfl | he
    · rw [h.find hj, Int.toNat_natCast]; exact hy
    · exact ih _ (by omega) (by omega) he y hy
theorem nth_set {M : List Bool} {i k : Nat} (hk : k < M.length) : nth (M.set i true) k = (nth M k || decide (i = k)) := by
  rw [nth_eq _ _ (by simpa using hk), nth_eq _ _ hk, List.getElem_set]
  by_cases e : i = k
  · simp [e]
  · simp [e]
theorem nth_markL {l : List Entry} : ∀ (ls : List Id) (M : List Bool) (k : Nat), k < M.length → nth (markL l ls M) k = (nth M k || ls.any fun x => decide ((findE l x).toNat = k))
  | [], M, k, _ => by simp [markL]
  | x :: ls, M, k, h => by
    show nth (markL l ls (M.set (findE l x).toNat true)) k = _
    rw [nth_markL ls _ k (by simpa using h), nth_set h]
    simp [Bool.or_assoc]
theorem markL_link {l : List Entry} (h : LogOk l) {i k : Nat} (hi : i < l.length) (hk : k < l.length) {M : List Bool} (hM : M.length = l.length) :
    nth (markL l (nth l i).ls M) k = true ↔ nth M k = true ∨ (nth l k).id ∈ (nth l i).ls := by
  rw [nth_markL _ _ _ (by omega), Bool.or_eq_true, List.any_eq_true]
  constructor
  · rintro (h1 | ⟨x, hx, hd⟩)
    · exact .inl h1
    · obtain ⟨f1, f2⟩ := h.link_lt hi hx
      obtain ⟨m, g1, g2, g3⟩ := findE_spec f1
      have : m = k := by simpa [g1] using hd
      subst this
      exact .inr (by rw [g3]; exact hx)
  · rintro (h1 | hx)
    · exact .inl h1
    · exact .inr ⟨_, hx, by simp [h.find hk]⟩
theorem nth_repl {n k : Nat} (h : k < n) : nth (List.replicate n false) k = false := by
  rw [nth_eq _ _ (by simpa using h)]; simp
theorem marks_inv {l : List Entry} (h : LogOk l) {a : Nat} (ha : a < l.length) : ∀ s, s ≤ a →
    (∀ k, k < l.length → nth (marks l a (s + 1)) k = true → (nth l k).id ∈ pastOf l a) ∧
    (∀ k, k < l.length → (nth l k).id ∈ pastOf l a → nth (marks l a (s + 1)) k = true ∨ ∃ j, j < a - s ∧ nth (marks l a (s + 1)) j = true ∧ (nth l k).id ∈ pastOf l j)
  | 0, _ => by
    have e : marks l a 1 = markL l (nth l a).ls (List.replicate l.length false) := by simp [marks, markS]
    rw [Nat.zero_add, e]
    have hlk : ∀ k, k < l.length → (nth (markL l (nth l a).ls (List.replicate l.length false)) k = true ↔ (nth l k).id ∈ (nth l a).ls) := fun k hk => by
      rw [markL_link h ha hk (by simp), nth_repl hk]; simp
    refine ⟨fun k hk hm => (mem_pastOf h ha).2 ⟨_, (hlk k hk).1 hm, .inl rfl⟩, fun k hk hp => ?_⟩
    obtain ⟨x, hx, he⟩ := (mem_pastOf h ha).1 hp
    rcases he with rfl | he
    · exact .inl ((hlk k hk).2 hx)
    · obtain ⟨f1, f2⟩ := h.link_lt ha hx
      obtain ⟨m, g1, g2, g3⟩ := findE_spec f1
      rw [g1, Int.toNat_natCast] at he
      exact .inr ⟨m, by omega, (hlk m g2).2 (by rw [g3]; exact hx), he⟩
  | s + 1, hs => by
    obtain ⟨iA, iB⟩ := marks_inv h ha s (by omega)
    have hi : a - (s + 1) < l.length := by omega
    have e : marks l a (s + 1 + 1) = markS l a (a - (s + 1)) (marks l a (s + 1)) := rfl
    rw [e]
    generalize hM : marks l a (s + 1) = M at *
    have hMl : M.length = l.length := by rw [← hM]; exact marks_length l a _
    generalize hid : a - (s + 1) = i at *
    have hne : ¬ i = a := by omega
    unfold markS
    by_cases hm : nth M i = true
    · rw [if_pos (.inr hm)]
      have hlk : ∀ k, k < l.length → (nth (markL l (nth l i).ls M) k = true ↔ nth M k = true ∨ (nth l k).id ∈ (nth l i).ls) := fun k hk => markL_link h hi hk hMl
      refine ⟨fun k hk hkm => ?_, fun k hk hp => ?_⟩
      · rcases (hlk k hk).1 hkm with h1 | h1
        · exact iA k hk h1
        · exact pastOf_trans h hi a ha (iA i hi hm) _ ((mem_pastOf h hi).2 ⟨_, h1, .inl rfl⟩)
      · rcases iB k hk hp with h1 | ⟨j, hj, h2, h3⟩
        · exact .inl ((hlk k hk).2 (.inl h1))
        · by_cases hji : j = i
          · subst hji
            obtain ⟨x, hx, he⟩ := (mem_pastOf h hi).1 h3
            rcases he with rfl | he
            · exact .inl ((hlk k hk).2 (.inr hx))
            · obtain ⟨f1, f2⟩ := h.link_lt hi hx
              obtain ⟨m, g1, g2, g3⟩ := findE_spec f1
              rw [g1, Int.toNat_natCast] at he
              exact .inr ⟨m, by omega, (hlk m g2).2 (.inr (by rw [g3]; exact hx)), he⟩
          · exact .inr ⟨j, by omega, (hlk j (by omega)).2 (.inl h2), h3⟩
    · rw [if_neg (by simp [hne, hm])]
      refine ⟨iA, fun k hk hp => ?_⟩
      rcases iB k hk hp with h1 | ⟨j, hj, h2, h3⟩
      · exact .inl h1
      · have : j ≠ i := fun e => hm (e ▸ h2)
        exact .inr ⟨j, by omega, h2, h3⟩
theorem marksOf_iff {l : List Entry} (h : LogOk l) {a k : Nat} (ha : a < l.length) (hk : k < l.length) : nth (marksOf l a) k = true ↔ (nth l k).id ∈ pastOf l a := by
  obtain ⟨h1, h2⟩ := marks_inv h ha a (Nat.le_refl _)
  refine ⟨h1 k hk, fun hp => ?_⟩
  rcases h2 k hk hp with h3 | ⟨j, hj, -⟩
  · exact h3
  · omega
theorem allIds_asc : Asc allIds := by
  unfold Asc
  have : (allIds.Pairwise fun a b => lessB a b = true) := by decide +kernel
  exact this
theorem mem_allIds {x : Id} : x ∈ allIds ↔ okId x = true := by
  obtain ⟨r, n⟩ := x
  simp only [okId, Bool.and_eq_true, wthn_iff]
  constructor
  · intro h
    have key : ∀ y ∈ allIds, (0 ≤ y.r ∧ y.r ≤ 1) ∧ 1 ≤ y.n ∧ y.n ≤ 20 := by decide +kernel
    exact key _ h
  · rintro ⟨⟨h1, h2⟩, h3, h4⟩
    have key : ∀ (a : Fin 2) (b : Fin 20), (⟨(a.val : Int), (b.val : Int) + 1⟩ : Id) ∈ allIds := by decide +kernel
    have := key ⟨r.toNat, by omega⟩ ⟨(n - 1).toNat, by omega⟩
    simp only [Int.toNat_of_nonneg h1, Int.toNat_of_nonneg (show 0 ≤ n - 1 by omega), Int.sub_add_cancel] at this
    exact this
theorem risingI_asc (l : List Entry) (M : List Bool) : Asc (risingI l M) := allIds_asc.filter _
theorem mem_risingI {l : List Entry} (h : LogOk l) {M : List Bool} {x : Id} : x ∈ risingI l M ↔ ∃ k, k < l.length ∧ (nth l k).id = x ∧ nth M k = true := by
  unfold risingI
  rw [List.mem_filter, mem_allIds, tellB, Bool.and_eq_true, decide_eq_true_eq]
  constructor
  · rintro ⟨h1, h2, h3⟩
    obtain ⟨k, g1, g2, g3⟩ := findE_spec h2
    rw [g1, Int.toNat_natCast] at h3
    exact ⟨k, g2, g3, h3⟩
  · rintro ⟨k, hk, rfl, h3⟩
    rw [h.find hk, Int.toNat_natCast]
    exact ⟨h.id_ok hk, by omega, h3⟩
theorem rising_past {l : List Entry} (h : LogOk l) {a : Nat} (ha : a < l.length) : risingI l (marksOf l a) = pastOf l a := by
  refine asc_ext (risingI_asc _ _) (pastOf_asc h ha) fun x => ?_
  rw [mem_risingI h]
  constructor
  · rintro ⟨k, hk, rfl, hm⟩
    exact (marksOf_iff h ha hk).1 hm
  · intro hx
    obtain ⟨j, hj, rfl⟩ := pastOf_lt h a ha x hx
    exact ⟨j, by omega, rfl, (marksOf_iff h ha (by omega)).2 hx⟩
theorem nth_cut {M P : List Bool} {k : Nat} (h1 : k < M.length) (h2 : k < P.length) : nth (cutM M P) k = (nth M k && !nth P k) := by
  rw [nth_eq _ _ (by simp [cutM]; omega), nth_eq _ _ h1, nth_eq _ _ h2]; simp [cutM]
theorem headM_iff {l : List Entry} (h : LogOk l) {c : Int} {k : Nat} (hk : k < l.length) : ∀ n, n ≤ l.length → (nth (headM l c n) k = true ↔ meetB (nth l k).c c = true ∧ ∀ i, i < n → meetB (nth l i).c c = true → (nth l k).id ∉ pastOf l i)
  | 0, _ => by
    have : nth (headM l c 0) k = meetB (nth l k).c c := by
      simp only [headM, meetsL]
      rw [nth_eq _ _ (by simpa using hk)]; simp [nth_eq _ _ hk]
    rw [this]
    exact ⟨fun e => ⟨e, fun i hi => by omega⟩, fun e => e.1⟩
  | n + 1, hn => by
    have ih := headM_iff h (c := c) hk n (by omega)
    simp only [headM]
    split
    · rename_i hm
      rw [nth_cut (by rw [headM_length]; exact hk) (by rw [marksOf_length]; exact hk), Bool.and_eq_true, ih, Bool.not_eq_true', ← Bool.not_eq_true, marksOf_iff h (by omega) hk]
      constructor
      · rintro ⟨⟨h1, h2⟩, h3⟩
        refine ⟨h1, fun i hi hmi => ?_⟩
        by_cases e : i = n
        · subst e; exact h3
        · exact h2 i (by omega) hmi
      · rintro ⟨h1, h2⟩
        exact ⟨⟨h1, fun i hi => h2 i (by omega)⟩, h2 n (by omega) hm⟩
    · rename_i hm
      rw [ih]
      constructor
      · rintro ⟨h1, h2⟩
        refine ⟨h1, fun i hi hmi => ?_⟩
        by_cases e : i = n
        · subst e; exact (hm hmi).elim
        · exact h2 i (by omega) hmi
      · rintro ⟨h1, h2⟩
        exact ⟨h1, fun i hi => h2 i (by omega)⟩
theorem ids_nodup {l : List Entry} (h : LogOk l) : (l.map (·.id)).Nodup := by
  rw [List.Nodup, List.pairwise_map, List.pairwise_iff_getElem]
  intro i j hi hj hij e
  rw [← nth_eq l i hi, ← nth_eq l j hj] at e
  have := h.inj hi hj e
  omega
theorem headsC_nodup {l : List Entry} (h : LogOk l) (c : Int) : (headsC l c).Nodup := by
  refine List.Nodup.sublist (List.Sublist.map _ ?_) (ids_nodup h)
  exact List.filter_sublist.trans List.filter_sublist
theorem mem_withC {l : List Entry} {c : Int} {e : Entry} : e ∈ withC l c ↔ ∃ k, k < l.length ∧ nth l k = e ∧ meetB e.c c = true := by
  unfold withC
  rw [List.mem_filter]
  constructor
  · rintro ⟨h1, h2⟩
    obtain ⟨k, hk, rfl⟩ := List.getElem_of_mem h1
    exact ⟨k, hk, nth_eq _ _ hk, h2⟩
  · rintro ⟨k, hk, rfl, h2⟩
    exact ⟨by rw [nth_eq _ _ hk]; exact List.getElem_mem hk, h2⟩
theorem mem_headsC {l : List Entry} (h : LogOk l) {c : Int} {x : Id} : x ∈ headsC l c ↔ ∃ k, k < l.length ∧ (nth l k).id = x ∧ meetB (nth l k).c c = true ∧ ∀ i, i < l.length → meetB (nth l i).c c = true → x ∉ pastOf l i := by
  unfold headsC
  rw [List.mem_map]
  constructor
  · rintro ⟨e, he, rfl⟩
    obtain ⟨h1, h2⟩ := List.mem_filter.1 he
    obtain ⟨k, hk, rfl, hm⟩ := mem_withC.1 h1
    refine ⟨k, hk, rfl, hm, fun i hi hmi hp => ?_⟩
    simp only [Bool.not_eq_true', underB, List.any_eq_false] at h2
    have := h2 (nth l i) (mem_withC.2 ⟨i, hi, rfl, hmi⟩)
    rw [pastAt_eq, h.find hi, Int.toNat_natCast] at this
    exact this (hasI_iff.2 hp)
  · rintro ⟨k, hk, rfl, hm, hp⟩
    refine ⟨nth l k, List.mem_filter.2 ⟨mem_withC.2 ⟨k, hk, rfl, hm⟩, ?_⟩, rfl⟩
    simp only [Bool.not_eq_true', underB, List.any_eq_false]
    intro f hf
    obtain ⟨i, hi, rfl, hmi⟩ := mem_withC.1 hf
    rw [pastAt_eq, h.find hi, Int.toNat_natCast]
    exact fun hh => hp i hi hmi (hasI_iff.1 hh)
theorem heads_eq {l : List Entry} (h : LogOk l) (c : Int) : headsR l c = sortI (headsC l c) := by
  refine asc_ext (risingI_asc _ _) (sortI_asc (headsC_nodup h c)) fun x => ?_
  rw [headsR, mem_risingI h, sortI_mem, mem_headsC h]
  constructor
  · rintro ⟨k, hk, rfl, hm⟩
    obtain ⟨h1, h2⟩ := (headM_iff h hk l.length (Nat.le_refl _)).1 hm
    exact ⟨k, hk, rfl, h1, h2⟩
  · rintro ⟨k, hk, rfl, hm, hp⟩
    exact ⟨k, hk, rfl, (headM_iff h hk l.length (Nat.le_refl _)).2 ⟨hm, hp⟩⟩
end Go.Proofs.Ytkibfciheifphaa
/- Players of a log: contracts. -/
namespace Go.Proofs.Ytkibfciheifphaa
set_option linter.unusedSimpArgs false
set_option linter.unusedVariables false
open Go.RowKit
theorem cloneI_meets (l : List Id) (hb : l.length ≤ 1000000000) : Meets Try.prog 77 [.list (l.map cId)] [] (.list (l.map cId)) [] := by
  refine Meets.of_walk Try.func77 Try.ntmps77 low77 res77 (by simp) fun x hx => ?_
  simp only [go_sem, Nat.reduceLT, Nat.reduceAdd, Nat.reduceEqDiff, Nat.reduceLeDiff, Nat.reduceSub, Nat.reduceMul, Int.reduceEq, eq_self, reduceIte, L77, R77]
  refine ops_isnil rfl fun b hb' => ?_
  cases b
  · simp only [go_sem, Nat.reduceLT, Nat.reduceAdd, Nat.reduceEqDiff, Nat.reduceLeDiff, Nat.reduceSub, Nat.reduceMul, Int.reduceEq, eq_self, reduceIte]
    rw [app_arr rfl rfl (by simp [cId]) (by simp; omega)]
    simp only [go_sem, Nat.reduceLT, Nat.reduceAdd, Nat.reduceEqDiff, Nat.reduceLeDiff, Nat.reduceSub, Nat.reduceMul, Int.reduceEq, eq_self, reduceIte]
    refine ret_pure hx ?_
    simp [go_sem, Nat.reduceLT, Nat.reduceAdd, Nat.reduceEqDiff, Nat.reduceLeDiff, Nat.reduceSub, Nat.reduceMul, Int.reduceEq, eq_self, reduceIte, L77, R77, pos, frzAt]
  · simp only [go_sem, Nat.reduceLT, Nat.reduceAdd, Nat.reduceEqDiff, Nat.reduceLeDiff, Nat.reduceSub, Nat.reduceMul, Int.reduceEq, eq_self, reduceIte]
    have : l = [] := by simpa using hb' rfl
    subst this
    refine ret_pure hx ?_
    simp [go_sem, Nat.reduceLT, Nat.reduceAdd, Nat.reduceEqDiff, Nat.reduceLeDiff, Nat.reduceSub, Nat.reduceMul, Int.reduceEq, eq_self, reduceIte, L77, R77]
def blkB (l : List Entry) (out : List Id) (y : Id) (e : Entry) : Bool := hasI (pastAt (pasts l) l y) e.id && !hasI out e.id
def mayB (l : List Entry) (c : Int) (out : List Id) (y : Id) : Bool := !(withC l c).any (blkB l out y)
end Go.Proofs.Ytkibfciheifphaa
/- Plain laws of orders: what comes next, and what comes at all. No program in sight. -/
namespace Go.Proofs.Ytkibfciheifphaa
end Go.Proofs.Ytkibfciheifphaa
/- A loop whose objects change places: what stays is chosen anew in each round. -/
namespace Go.Proofs.Ytkibfciheifphaa
open Go.RowKit
section
variable {P : Program} {x : Cx} {nt : Nat} {st : St}
end
end Go.Proofs.Ytkibfciheifphaa
/- Orders: contracts. -/
namespace Go.Proofs.Ytkibfciheifphaa
set_option linter.unusedSimpArgs false
set_option linter.unusedVariables false
open Go.RowKit
structure SomeOk (l : List Entry) (ids : List Id) : Prop where
  there : ∀ x ∈ ids, 0 ≤ findE l x
  once : ids.Nodup
end Go.Proofs.Ytkibfciheifphaa
/- order.Begun, Is, More, First: contracts. -/
namespace Go.Proofs.Ytkibfciheifphaa
set_option linter.unusedSimpArgs false
set_option linter.unusedVariables false
open Go.RowKit
end Go.Proofs.Ytkibfciheifphaa
/- Orders in the law text's words: contracts. -/
namespace Go.Proofs.Ytkibfciheifphaa
set_option linter.unusedSimpArgs false
set_option linter.unusedVariables false
open Go.RowKit
theorem nthM {α : Type} [Inhabited α] {l : List α} {k : Nat} (h : k < l.length) : nth l k ∈ l := by rw [nth_eq _ _ h]; exact List.getElem_mem h
end Go.Proofs.Ytkibfciheifphaa
/- All that comes, in the law text's words: a contract. -/
namespace Go.Proofs.Ytkibfciheifphaa
set_option linter.unusedSimpArgs false
set_option linter.unusedVariables false
open Go.RowKit
end Go.Proofs.Ytkibfciheifphaa
