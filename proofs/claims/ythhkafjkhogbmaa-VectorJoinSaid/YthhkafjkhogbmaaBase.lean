/- Plain words and predicates on memory that all texts of this claim share: ids, entries, slices of them in memory, and how they are carried to a later world. -/
import Derived.WalkKit
import Derived.Laws.StructEq
import Derived.Deep.QuietTactic
import Derived.BigQuiet
import Derived.Lib.Hide
import Derived.Lib.QuietBelow
import Derived.LoopN
import Derived.Deep.DeepCutAuto
namespace Go.Proofs.Ythhkafjkhogbmaa
open Go.RowKit

/-- ids of entries -/
structure Id where
  r : Int
  n : Int

theorem Id.eq_iff (a b : Id) : a = b ↔ a.r = b.r ∧ a.n = b.n := by cases a; cases b; simp
instance : DecidableEq Id := fun a b => decidable_of_iff (a.r = b.r ∧ a.n = b.n) (Id.eq_iff a b).symm

instance : Inhabited Id := ⟨⟨0, 0⟩⟩

/-- element k of a list -/
def nth {α : Type} [Inhabited α] (l : List α) (k : Nat) : α := l.getD k default
theorem nth_eq {α : Type} [Inhabited α] (l : List α) (k : Nat) (h : k < l.length) : nth l k = l[k] := by simp [nth, h]
theorem nth_get? {α : Type} [Inhabited α] (l : List α) (k : Nat) (h : k < l.length) : l[k]? = some (nth l k) := by simp [nth, h]

/-- the first of n errors that is none of 0 -/
def firstNZ (f : Nat → Int) : Nat → Int
  | 0 => 0
  | n + 1 => if firstNZ f n = 0 then f n else firstNZ f n
theorem firstNZ_succ {f : Nat → Int} {k : Nat} (h : firstNZ f k = 0) (hk : f k = 0) : firstNZ f (k + 1) = 0 := by simp [firstNZ, h, hk]
theorem firstNZ_stay {f : Nat → Int} {k n : Nat} (h : firstNZ f k ≠ 0) (hn : k ≤ n) : firstNZ f n = firstNZ f k := by
  induction n with
  | zero => have : k = 0 := by omega
            rw [this]
  | succ n ih =>
    by_cases e : k = n + 1
    · rw [e]
    · have := ih (by omega)
      rw [firstNZ, if_neg (by rw [this]; exact h), this]
theorem firstNZ_hit {f : Nat → Int} {k n : Nat} (h : firstNZ f k = 0) (hk : f k ≠ 0) (hn : k < n) : firstNZ f n = f k := by
  have e : firstNZ f (k + 1) = f k := by simp [firstNZ, h]
  rw [firstNZ_stay (k := k + 1) (by rw [e]; exact hk) (by omega), e]
theorem firstNZ_zero {f : Nat → Int} {n : Nat} : firstNZ f n = 0 ↔ ∀ k, k < n → f k = 0 := by
  constructor
  · intro h k hk
    by_cases e : f k = 0
    · exact e
    · induction n with
      | zero => omega
      | succ n ih =>
        have h0 : firstNZ f n = 0 := by
          by_cases g : firstNZ f n = 0
          · exact g
          · rw [firstNZ, if_neg g] at h; exact h
        rw [firstNZ, if_pos h0] at h
        by_cases hh : k = n
        · rw [hh]; exact h
        · exact ih h0 (by omega)
  · intro h
    induction n with
    | zero => rfl
    | succ n ih => rw [firstNZ, ih (fun k hk => h k (by omega)), if_pos rfl]; exact h n (by omega)
theorem firstNZ_congr {f g : Nat → Int} {n : Nat} (h : ∀ k, k < n → f k = g k) : firstNZ f n = firstNZ g n := by
  induction n with
  | zero => rfl
  | succ n ih => rw [firstNZ, firstNZ, ih (fun k hk => h k (by omega)), h n (by omega)]

/-- 'Below', as rules of the walk -/
theorem bcell {W w1 : World} (hb : Below W.heap.size W w1) : (∀ b o, b < W.heap.size → w1.cell? ⟨b, o, none⟩ = W.cell? ⟨b, o, none⟩) ∧ (∀ b o, b < W.heap.size → w1.frozen? ⟨b, o, none⟩ = W.frozen? ⟨b, o, none⟩) :=
  ⟨fun b o h => hb.cell (p := ⟨b, o, none⟩) h, fun b o h => hb.frozen (p := ⟨b, o, none⟩) h⟩

theorem rounds_step {P : Program} {c : Code} {Q : Exit → Act → World → Prop} {n : Nat} {a : Act} {w : World} (h : c.wp P (Exit.then (Code.rounds P c Q n) Q) a w) : Code.rounds P c Q (n + 1) a w := h

/-- old cells in a world that is some draws and some blocks further -/
theorem grow_cell (W : World) : ∀ (d : Nat) (os : Array Obj) b o, b < W.heap.size → (Sort.grow (redrawn W d) os).cell? ⟨b, o, none⟩ = W.cell? ⟨b, o, none⟩ :=
  fun d os b o h => (below_regrown W d os).cell (p := ⟨b, o, none⟩) h

theorem below_of_class {w w' : World} (h : ∃ p : Regrown, w' = Sort.grow (redrawn w p.d) p.os) : Below w.heap.size w w' := by
  obtain ⟨p, rfl⟩ := h
  exact below_regrown w p.d p.os

theorem ret_int {k : IntKind} {a b : Int} (h : a = b) : Ending.returned (.int k a) = .returned (.int k b) := by rw [h]
theorem ret_bool {a b : Bool} (h : a = b) : Ending.returned (.bool a) = .returned (.bool b) := by rw [h]

theorem below_drewN {B : Nat} {a w : World} {n : Nat} (h : Below B a w) : Below B a (w.drewN n) := ⟨h.os, h.tape, h.output, h.size, h.block⟩

theorem below_after {w w1 w2 : World} (h : Below w.heap.size w w1) (h2 : Below w1.heap.size w1 w2) : Below w.heap.size w w2 := h.trans (h2.mono h.size)

/-- a slice of ids in memory, all of it in blocks of S -/
def IdsIn (S : Nat → Prop) (w : World) (v : Value) (l : List Id) : Prop :=
  ∃ a c, v = .slice a l.length c ∧ l.length ≤ c ∧ c ≤ maxLen ∧ ∀ k, k < l.length → ∃ b o, a = some ⟨b, o, none⟩ ∧ S b ∧ b < w.heap.size ∧
    w.cell? ⟨b, o + k * 2, none⟩ = some (.int .i64 (nth l k).r) ∧ w.cell? ⟨b, o + k * 2 + 1, none⟩ = some (.int .i64 (nth l k).n)

theorem IdsIn.keep {S : Nat → Prop} {w w' : World} {v : Value} {l : List Id} (h : IdsIn S w v l) (hz : w.heap.size ≤ w'.heap.size) (hb : ∀ b, S b → b < w.heap.size → w'.heap[b]? = w.heap[b]?) : IdsIn S w' v l := by
  obtain ⟨a, c, hv, h1, h2, h3⟩ := h
  refine ⟨a, c, hv, h1, h2, fun k hk => ?_⟩
  obtain ⟨b, o, ha, hS, hlt, c1, c2⟩ := h3 k hk
  have hh := hb b hS hlt
  exact ⟨b, o, ha, hS, Nat.lt_of_lt_of_le hlt hz, (World.cell?_of_block (a := ⟨b, o + k * 2, none⟩) hh).trans c1, (World.cell?_of_block (a := ⟨b, o + k * 2 + 1, none⟩) hh).trans c2⟩

theorem IdsIn.below {S : Nat → Prop} {w w' : World} {v : Value} {l : List Id} (h : IdsIn S w v l) (hb : Below w.heap.size w w') : IdsIn S w' v l :=
  h.keep hb.size (fun b _ hlt => hb.block b hlt)

theorem IdsIn.mono {S S' : Nat → Prop} {w : World} {v : Value} {l : List Id} (h : IdsIn S w v l) (hS : ∀ b, S b → S' b) : IdsIn S' w v l := by
  obtain ⟨a, c, hv, h1, h2, h3⟩ := h
  refine ⟨a, c, hv, h1, h2, fun k hk => ?_⟩
  obtain ⟨b, o, ha, h4, r⟩ := h3 k hk
  exact ⟨b, o, ha, hS b h4, r⟩

theorem IdsIn.len {S : Nat → Prop} {w : World} {v : Value} {l : List Id} (h : IdsIn S w v l) : l.length ≤ 9223372036854775807 := by
  obtain ⟨a, c, hv, h1, h2, h3⟩ := h
  unfold maxLen at h2
  omega

theorem IdsIn.get {S : Nat → Prop} {w : World} {a : Option Addr} {n c k : Nat} {l : List Id} (h : IdsIn S w (.slice a n c) l) (hk : k < l.length) : ∃ b o, a = some ⟨b, o, none⟩ ∧ S b ∧ b < w.heap.size ∧
    w.cell? ⟨b, o + k * 2, none⟩ = some (.int .i64 (nth l k).r) ∧ w.cell? ⟨b, o + k * 2 + 1, none⟩ = some (.int .i64 (nth l k).n) := by
  obtain ⟨a', c', hv, h1, h2, h3⟩ := h
  cases hv
  exact h3 k hk
theorem IdsIn.form {S : Nat → Prop} {w : World} {v : Value} {l : List Id} (h : IdsIn S w v l) : ∃ a c, v = .slice a l.length c ∧ l.length ≤ c ∧ c ≤ 9223372036854775807 := by
  obtain ⟨a, c, hv, h1, h2, h3⟩ := h
  unfold maxLen at h2
  exact ⟨a, c, hv, h1, by omega⟩

/-- entries -/
structure Entry where
  id : Id
  c : Int
  t : ByteArray
  ls : List Id

theorem Entry.eq_iff (a b : Entry) : a = b ↔ a.id = b.id ∧ a.c = b.c ∧ a.t = b.t ∧ a.ls = b.ls := by cases a; cases b; simp
instance : DecidableEq Entry := fun a b => decidable_of_iff (a.id = b.id ∧ a.c = b.c ∧ a.t = b.t ∧ a.ls = b.ls) (Entry.eq_iff a b).symm

end Go.Proofs.Ythhkafjkhogbmaa
