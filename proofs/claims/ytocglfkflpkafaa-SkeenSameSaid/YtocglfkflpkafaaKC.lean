/- Joined texts of this claim: M1 M2 Lc E1 E2 E3 E4 E5 E6 S2 S3 S4 S5 S6 S7 D1 E12 D2 D3 S1 G1 M3. -/
import Derived.Test.YtocglfkflpkafaaKB
import Derived.Shelf.GgSortFunc.InsertionK
import Derived.Test.YtocglfkflpkafaaProg
import Derived.KernelRfl
import Derived.IntWalk
import Derived.Shelf.RegionOpenPlain
import Derived.WalkKit
import Derived.Deep.LoopGhost
import Derived.Deep.Draws
import Derived.Lib.Walk
import Derived.Sort.WalkB12
import Derived.Lib.SliceRun
import Derived.Lib.SlicesCompact
import Derived.Deep.RegionLaw
import Derived.Lib.SlicesDelete
import Derived.Shelf.Spec.SlicesInsert
import Derived.ArgAppend
import Derived.Shelf.Spec.SlicesInsertGrow
import Derived.Shelf.SlSortCmp.Insertion
set_option linter.unusedSimpArgs false
set_option linter.unusedVariables false
set_option linter.unusedSectionVars false
/- Array objects and the rows of cells where they lie: what holds in memory of an array, and what may be said when its cells were laid anew. -/
namespace Go.Proofs.Ytocglfkflpkafaa
open Go.RowKit

section
variable {x : Cx} {C : Conc} {H : List AObj} {w w' : World}

/-- an array's header, and the row of cells behind it -/
theorem HR.row (hr : HR x C H w) {id v T sz : Nat} {sto : Bool} {rows : List (List PV)} {u : Value} (hid : H[id]? = some (.arr v sto false T sz rows)) (hu : RepV (Stab x C H w) w C (.arr id v) u) :
    u = C.sv id ∧ (∀ row ∈ rows, row.length = sz) ∧ (u = .slice none 0 0 ∧ rows = [] ∨ ∃ (g cap : Nat) (cur : Array Value), u = .slice (some ⟨g, 0, none⟩) rows.length cap ∧ w.heap[g]? = some (.cells cur T (0, 0)) ∧ rows.length ≤ cap ∧ cap ≤ maxLen ∧ cur.size = cap * sz ∧
      ∀ (k : Nat) row (j : Nat) p, rows[k]? = some row → row[j]? = some p → ∃ y, cur[k * sz + j]? = some y ∧ y.oneCell' = true ∧ RepP (Stab x C H w) w p y) := by
  obtain ⟨o1, o2, o3, xs, o4, o5⟩ := hr.obj id _ hid
  obtain ⟨e, hi⟩ := hu.arr_inv o1
  refine ⟨e, o3, ?_⟩
  rcases o4.2 with ⟨g1, g2⟩ | ⟨g, cap, cur, g1, -, g2, g3, g4, g5, g6⟩
  · exact .inl ⟨e.trans g1, List.length_eq_zero_iff.1 g2⟩
  · refine .inr ⟨g, cap, cur, e.trans g1, g2, g3, g4, g5, fun k row j p a b => ?_⟩
    have hk : k < rows.length := (List.getElem?_eq_some_iff.1 a).1
    have hj : j < sz := by rw [← o3 row (List.mem_of_getElem? a)]; exact (List.getElem?_eq_some_iff.1 b).1
    have hkl : k * sz + j < rows.length * sz := by
      have : (k + 1) * sz ≤ rows.length * sz := Nat.mul_le_mul_right _ hk
      rw [Nat.add_mul] at this; omega
    have hcl : rows.length * sz ≤ cap * sz := Nat.mul_le_mul_right _ g3
    have hlt : k * sz + j < cur.size := by omega
    have hx : xs[k * sz + j]? = some cur[k * sz + j] := by rw [← g6, List.getElem?_take, if_pos hkl, Array.getElem?_toList, Array.getElem?_eq_getElem hlt]
    have := o5 k row j p _ a b hx
    simp only [Bool.false_eq_true, if_false] at this
    exact ⟨_, Array.getElem?_eq_getElem hlt, this⟩

/-- an array is a list of data from now on -/
theorem HR.drop (hr : HR x C H w) {id v T sz g cap' : Nat} {rows rows' : List (List PV)} {cur' : Array Value} {fr : Nat × Nat}
    (hid : H[id]? = some (.arr v true false T sz rows)) (hs : Step w w' fun b => (C.sv id).ownBlock = some b) (hg : (C.sv id).ownBlock = some g)
    (hc : w'.heap[g]? = some (.cells cur' T fr)) (hn : rows'.length ≤ cap') (hm : cap' ≤ maxLen) (hz : cur'.size = cap' * sz) (hrow : ∀ row ∈ rows', row.length = sz)
    (hrep : ∀ (k : Nat) row (j : Nat) p u, rows'[k]? = some row → row[j]? = some p → cur'[k * sz + j]? = some u → RepP (Stab x C H w) w p u) :
    HR x C (H.set id .gone) w' ∧ (∀ p u, RepV (Stab x C H w) w C p u → RepV (Stab x C (H.set id .gone) w') w' C p u) ∧
      RepP (Stab x C (H.set id .gone) w') w' (.list rows') (.slice (some ⟨g, 0, none⟩) rows'.length cap') := by
  obtain ⟨o1, o2, o3, xs, o4, o5⟩ := hr.obj id _ hid
  have hlt : id < H.length := (List.getElem?_eq_some_iff.1 hid).1
  have hgb : g < w'.heap.size := (Array.getElem?_eq_some_iff.1 hc).1
  have hmp : ∀ p v, RepP (Stab x C H w) w p v → RepP (Stab x C (H.set id .gone) w') w' p v := by
    intro p v h
    refine h.mono (fun b o h => ⟨h.1, Nat.lt_of_lt_of_le h.2.1 hs.size, fun i ob1 hi => ?_⟩) fun b o h => cell_eq (hs.blk b h.2.1 fun hb => ?_)
    · by_cases e : i = id
      · subst e; rw [List.getElem?_set_self hlt] at hi; cases hi; trivial
      · rw [List.getElem?_set_ne (Ne.symm e)] at hi; exact h.2.2 i ob1 hi
    · have := h.2.2 id _ hid hb; simp at this
  obtain ⟨k1, k2⟩ := hr.change (C' := C) hid (ob' := .gone) hs rfl (fun _ => rfl) (fun _ _ => ⟨rfl, rfl⟩) (.inl ⟨rfl, rfl⟩)
    (fun b o hb hf => trivial) (fun b o hb hf => by have := hf hb; simp at this) (fun b hb => hb.elim) (fun _ _ => trivial)
  refine ⟨k1, k2, ?_⟩
  refine .list rows' _ cap' sz (fun k j => cur'[k * sz + j]!) hn hm o2 hrow (fun k row j p a b => ⟨g, 0, rfl, ?_, ?_⟩) fun k row j p a b => ?_
  · refine ⟨?_, hgb, fun i ob1 hi => ?_⟩
    · rcases hr.mine id _ g hid hg with h | h
      · exact .inr (.inl h)
      · exact .inr (.inr h)
    · by_cases e : i = id
      · subst e; rw [List.getElem?_set_self hlt] at hi; cases hi; trivial
      · rw [List.getElem?_set_ne (Ne.symm e)] at hi
        exact AObj.free_of_not (fun hb => e (hr.apart i id ob1 _ g hi hid hb hg)) _
  all_goals
    have hk : k < rows'.length := (List.getElem?_eq_some_iff.1 a).1
    have hj : j < sz := by rw [← hrow row (List.mem_of_getElem? a)]; exact (List.getElem?_eq_some_iff.1 b).1
    have hkl : k * sz + j < cur'.size := by
      have h1 : (k + 1) * sz ≤ rows'.length * sz := Nat.mul_le_mul_right _ hk
      have h2 : rows'.length * sz ≤ cap' * sz := Nat.mul_le_mul_right _ hn
      rw [Nat.add_mul] at h1; omega
  · simp [World.cell?, hc, hkl]
  · exact hmp _ _ (hrep k row j p _ a b (by simp [hkl]))
end
end Go.Proofs.Ytocglfkflpkafaa
/- Rows of plain cells: the kit's words on rows, and arrays of the calculus. -/
namespace Go.Proofs.Ytocglfkflpkafaa
open Go.RowKit
open Go.Sort (flatK putRowK HoldsK size_flatK get_flatK putCells mapBlock onCells)

/-- elements whose cells are plain: what an abstract row says is just what the cells hold -/
structure Flat {α : Type} (pv : α → List PV) (enc : α → List Value) (k : Nat) : Prop where
  k0 : 0 < k
  len : ∀ a, (enc a).length = k
  lenp : ∀ a, (pv a).length = k
  one : ∀ a, ∀ v ∈ enc a, v.oneCell' = true
  fit : ∀ S w a (j : Nat) p, (pv a)[j]? = some p → RepP S w p ((enc a)[j]!)
  back : ∀ S w a (j : Nat) p u, (pv a)[j]? = some p → RepP S w p u → u = (enc a)[j]!

section
variable {α : Type} [Inhabited α] {pv : α → List PV} {enc : α → List Value} {k : Nat}

theorem Flat.holds (F : Flat pv enc k) {S : Nat → Nat → Prop} {w : World} {g T : Nat} {cur : Array Value} (l : List α) (hc : w.heap[g]? = some (.cells cur T (0, 0)))
    (h : ∀ (i : Nat) row (j : Nat) p, (l.map pv)[i]? = some row → row[j]? = some p → ∃ y, cur[i * k + j]? = some y ∧ y.oneCell' = true ∧ RepP S w p y) : HoldsK enc k w g 0 l.toArray := by
  intro t ht
  rw [size_flatK] at ht
  rw [get_flatK _ _ _ _ ht]
  have k0 := F.k0
  have hi : t / k < l.length := Nat.div_lt_of_lt_mul (by rw [Nat.mul_comm]; simpa using ht)
  have hj : t % k < k := Nat.mod_lt _ k0
  have e : t / k * k + t % k = t := by rw [Nat.mul_comm]; exact Nat.div_add_mod t k
  obtain ⟨y, h1, -, h3⟩ := h (t / k) (pv l[t / k]) (t % k) ((pv l[t / k])[t % k]'(by rw [F.lenp]; exact hj)) (by simp [hi]) (by rw [List.getElem?_eq_getElem (by rw [F.lenp]; exact hj)])
  have h4 := F.back _ _ _ _ _ _ (List.getElem?_eq_getElem (by rw [F.lenp]; exact hj)) h3
  rw [e] at h1
  have e2 : l.toArray[t / k]! = l[t / k] := by simp [hi]
  rw [e2, ← h4]
  refine ⟨?_, ?_⟩
  · simp [World.cell?, hc, h1]
  · simp [World.frozen?, hc]

/-- the world in which a row was laid anew: its cells -/
theorem row_world (enc : α → List Value) (k : Nat) (w : World) (g m : Nat) (d' : Array α) (os : Array Obj) {cur : Array Value} {T : TypeId} {fr : Nat × Nat} (hc : w.heap[g]? = some (.cells cur T fr)) :
    ∃ cur' : Array Value, (sortWorldK enc k w g 0 m d' os).heap[g]? = some (.cells cur' T fr) ∧ cur'.size = cur.size ∧
      (∀ t y, t < d'.size * k → cur'[t]? = some y → y = (flatK enc k d')[t]!) ∧ Step w (sortWorldK enc k w g 0 m d' os) (fun b => b = g) := by
  have hlt : g < w.heap.size := (Array.getElem?_eq_some_iff.1 hc).1
  have hh : (sortWorldK enc k w g 0 m d' os).heap = w.heap.modify g (onCells (putCells id 0 (flatK enc k d'))) ++ os := rfl
  refine ⟨putCells id 0 (flatK enc k d') cur, ?_, by simp [putCells], fun t y ht hy => ?_, ?_⟩
  · rw [hh, Array.getElem?_append_left (by simpa using hlt), Array.getElem?_modify, if_pos rfl, hc]
    rfl
  · rw [putCells, Array.getElem?_mapIdx] at hy
    cases hcu : cur[t]? with
    | none => rw [hcu] at hy; cases hy
    | some z =>
      rw [hcu, Option.map_some, if_pos ⟨Nat.zero_le _, by rw [size_flatK]; omega⟩] at hy
      exact (Option.some.inj hy).symm
  · refine ⟨by rw [hh]; simp, rfl, rfl, rfl, fun b hb hne => ?_⟩
    rw [hh, Array.getElem?_append_left (by simpa using hb), Array.getElem?_modify, if_neg (fun e => hne e.symm)]

theorem Flat.rep (F : Flat pv enc k) {S : Nat → Nat → Prop} {w : World} {d' : Array α} {cur' : Array Value} (h : ∀ t y, t < d'.size * k → cur'[t]? = some y → y = (flatK enc k d')[t]!) {l : List α} (n : Nat) (hl : ∀ i, i < n → l[i]? = some d'[i]!) (hn : l.length = n) (hnd : n ≤ d'.size) :
    ∀ (i : Nat) row (j : Nat) p u, (l.map pv)[i]? = some row → row[j]? = some p → cur'[i * k + j]? = some u → u.oneCell' = true ∧ RepP S w p u := by
  intro i row j p u a b c
  have k0 := F.k0
  rw [List.getElem?_map] at a
  obtain ⟨y, hy, rfl⟩ := Option.map_eq_some_iff.1 a
  have hi : i < n := by rw [← hn]; exact (List.getElem?_eq_some_iff.1 hy).1
  have hj : j < k := by rw [← F.lenp y]; exact (List.getElem?_eq_some_iff.1 b).1
  rw [hl i hi] at hy
  have ht : i * k + j < d'.size * k := by
    have : (i + 1) * k ≤ d'.size * k := Nat.mul_le_mul_right _ (by omega)
    rw [Nat.add_mul] at this; omega
  have hu := h _ _ ht c
  rw [get_flatK _ _ _ _ ht] at hu
  have e1 : (i * k + j) / k = i := by rw [Nat.mul_comm, Nat.mul_add_div k0, Nat.div_eq_of_lt hj]; rfl
  have e2 : (i * k + j) % k = j := by rw [Nat.mul_comm, Nat.mul_add_mod, Nat.mod_eq_of_lt hj]
  rw [e1, e2, Option.some.inj hy] at hu
  subst hu
  refine ⟨F.one y _ ?_, F.fit _ _ _ _ _ b⟩
  rw [getElem!_pos _ j (by rw [F.len]; exact hj)]
  exact List.getElem_mem _
end
end Go.Proofs.Ytocglfkflpkafaa
/- The lowered code of this seat's functions (printed by a program). -/
namespace Go.Proofs.Ytocglfkflpkafaa
set_option maxRecDepth 100000 in
def L3 : LC := (.seq (.reg none [⟨(some 5), (.box (.tmp 0)), none, true⟩, ⟨(some 10), (.mv (.val (.bool false))), none, true⟩]) (.seq (.reg none [⟨(some 25), (.load 3 true (.tmp 5)), none, true⟩, ⟨(some 26), (.mv (.tmp 1)), none, true⟩, ⟨(some 27), (.call 6 [(.tmp 25), (.tmp 26)] 0), none, true⟩, ⟨(some 24), (.mv (.tmp 27)), none, true⟩, ⟨(some 28), (.ext 0 (.tmp 24)), none, true⟩, ⟨(some 29), (.ext 1 (.tmp 24)), none, true⟩, ⟨(some 30), (.ext 2 (.tmp 24)), none, true⟩, ⟨(some 11), (.alloc [(.int .i64 0), .nilsl, .nilsl]), none, true⟩, ⟨none, (.store 3 (.tmp 11) (.tmp 28)), none, true⟩, ⟨(some 12), (.mv (.tmp 29)), none, true⟩, ⟨(some 13), (.mv (.tmp 30)), none, true⟩]) (.seq (.reg none [⟨(some 32), (.load 3 true (.tmp 5)), none, true⟩, ⟨(some 33), (.mv (.tmp 1)), none, true⟩, ⟨(some 34), (.mv (.tmp 2)), none, true⟩, ⟨(some 35), (.call 7 [(.tmp 32), (.tmp 33), (.tmp 34)] 0), none, true⟩, ⟨(some 31), (.mv (.tmp 35)), none, true⟩, ⟨(some 36), (.ext 0 (.tmp 31)), none, true⟩, ⟨(some 37), (.ext 1 (.tmp 31)), none, true⟩, ⟨(some 14), (.alloc [(.int .i64 0), .nilsl, .nilsl]), none, true⟩, ⟨none, (.store 3 (.tmp 14) (.tmp 36)), none, true⟩, ⟨(some 15), (.mv (.tmp 37)), none, true⟩]) (.seq (.reg none [⟨(some 39), (.mv (.tmp 3)), none, true⟩, ⟨(some 40), (.mv (.tmp 1)), none, true⟩, ⟨(some 41), (.mv (.tmp 4)), none, true⟩, ⟨(some 42), (.call 8 [(.tmp 39), (.tmp 40), (.tmp 41)] 0), none, true⟩, ⟨(some 38), (.mv (.tmp 42)), none, true⟩, ⟨(some 43), (.ext 0 (.tmp 38)), none, true⟩, ⟨(some 44), (.ext 1 (.tmp 38)), none, true⟩, ⟨(some 16), (.mv (.tmp 43)), none, true⟩, ⟨(some 17), (.mv (.tmp 44)), none, true⟩]) (.seq (.reg none [⟨(some 45), (.load 3 true (.tmp 5)), none, true⟩, ⟨(some 46), (.call 9 [(.tmp 45)] 0), none, true⟩, ⟨(some 18), (.mv (.tmp 46)), none, true⟩]) (.seq (.reg none [⟨(some 47), (.mv (.tmp 18)), none, true⟩, ⟨(some 19), (.mv (.tmp 47)), none, true⟩]) (.seq (.reg none [⟨(some 20), (.alloc [(.int .i64 0), .nilsl, .nilsl]), none, true⟩, ⟨(some 21), (.alloc [(.int .i64 0), .nilsl, .nilsl]), none, true⟩]) (.seq (.seq (.reg none [⟨(some 48), (.mv (.tmp 18)), none, true⟩, ⟨(some 49), (.bin .eql (.tmp 48) (.val (.int .i64 0))), none, true⟩]) (.cond (.tmp 49) (.seq (.reg none [⟨(some 51), (.load 3 true (.tmp 5)), none, true⟩, ⟨(some 52), (.mv (.tmp 1)), none, true⟩, ⟨(some 53), (.call 10 [(.tmp 51), (.tmp 52)] 0), none, true⟩, ⟨(some 50), (.mv (.tmp 53)), none, true⟩, ⟨(some 54), (.ext 0 (.tmp 50)), none, true⟩, ⟨(some 55), (.ext 1 (.tmp 50)), none, true⟩, ⟨none, (.store 3 (.tmp 20) (.tmp 54)), none, true⟩, ⟨(some 18), (.mv (.tmp 55)), none, true⟩]) (.reg none [⟨(some 57), (.load 3 true (.tmp 5)), none, true⟩, ⟨(some 58), (.mv (.tmp 1)), none, true⟩, ⟨(some 59), (.mv (.tmp 2)), none, true⟩, ⟨(some 60), (.call 11 [(.tmp 57), (.tmp 58), (.tmp 59)] 0), none, true⟩, ⟨(some 56), (.mv (.tmp 60)), none, true⟩, ⟨(some 61), (.ext 0 (.tmp 56)), none, true⟩, ⟨(some 62), (.ext 1 (.tmp 56)), none, true⟩, ⟨none, (.store 3 (.tmp 21) (.tmp 61)), none, true⟩, ⟨(some 19), (.mv (.tmp 62)), none, true⟩])) .skip)) (.seq (.reg none [⟨(some 64), (.mv (.tmp 3)), none, true⟩, ⟨(some 65), (.mv (.tmp 1)), none, true⟩, ⟨(some 66), (.mv (.tmp 4)), none, true⟩, ⟨(some 67), (.call 12 [(.tmp 64), (.tmp 65), (.tmp 66)] 0), none, true⟩, ⟨(some 63), (.mv (.tmp 67)), none, true⟩, ⟨(some 68), (.ext 0 (.tmp 63)), none, true⟩, ⟨(some 69), (.ext 1 (.tmp 63)), none, true⟩, ⟨(some 22), (.mv (.tmp 68)), none, true⟩, ⟨(some 23), (.mv (.tmp 69)), none, true⟩]) (.seq (.reg (some []) [⟨(some 70), (.call 13 [] 0), none, true⟩, ⟨(some 71), (.mv (.tmp 70)), none, true⟩, ⟨(some 72), (.load 3 true (.tmp 5)), (some (71, true)), false⟩, ⟨(some 73), (.call 14 [(.tmp 72)] 0), (some (71, true)), false⟩, ⟨(some 74), (.load 3 true (.tmp 5)), (some (71, true)), false⟩, ⟨(some 75), (.call 9 [(.tmp 74)] 0), (some (71, true)), true⟩, ⟨(some 76), (.bin .eql (.tmp 73) (.tmp 75)), (some (71, true)), true⟩, ⟨(some 77), (.pick (.tmp 71) (.tmp 76) (.val (.bool false))), none, true⟩, ⟨(some 78), (.mv (.tmp 77)), none, true⟩, ⟨(some 79), (.load 3 true (.tmp 11)), (some (78, true)), false⟩, ⟨(some 80), (.mv (.tmp 13)), (some (78, true)), true⟩, ⟨(some 81), (.mv (.tmp 18)), (some (78, true)), true⟩, ⟨(some 82), (.load 3 true (.tmp 20)), (some (78, true)), false⟩, ⟨(some 83), (.call 15 [(.tmp 79), (.tmp 80), (.tmp 81), (.tmp 82)] 0), (some (78, true)), true⟩, ⟨(some 84), (.pick (.tmp 78) (.tmp 83) (.val (.bool false))), none, true⟩, ⟨(some 85), (.mv (.tmp 84)), none, true⟩, ⟨(some 86), (.mv (.tmp 12)), (some (85, true)), true⟩, ⟨(some 87), (.addr 0 (.tmp 20)), (some (85, true)), true⟩, ⟨(some 88), (.load 1 false (.tmp 87)), (some (85, true)), true⟩, ⟨(some 89), (.bin .eql (.tmp 86) (.tmp 88)), (some (85, true)), true⟩, ⟨(some 90), (.pick (.tmp 85) (.tmp 89) (.val (.bool false))), none, true⟩, ⟨(some 91), (.mv (.tmp 90)), none, true⟩, ⟨(some 92), (.load 3 true (.tmp 14)), (some (91, true)), false⟩, ⟨(some 93), (.mv (.tmp 15)), (some (91, true)), true⟩, ⟨(some 94), (.mv (.tmp 19)), (some (91, true)), true⟩, ⟨(some 95), (.load 3 true (.tmp 21)), (some (91, true)), false⟩, ⟨(some 96), (.call 15 [(.tmp 92), (.tmp 93), (.tmp 94), (.tmp 95)] 0), (some (91, true)), true⟩, ⟨(some 97), (.pick (.tmp 91) (.tmp 96) (.val (.bool false))), none, true⟩, ⟨(some 98), (.mv (.tmp 97)), none, true⟩, ⟨(some 99), (.mv (.tmp 17)), (some (98, true)), true⟩, ⟨(some 100), (.mv (.tmp 23)), (some (98, true)), true⟩, ⟨(some 101), (.bin .eql (.tmp 99) (.tmp 100)), (some (98, true)), true⟩, ⟨(some 102), (.pick (.tmp 98) (.tmp 101) (.val (.bool false))), none, true⟩, ⟨(some 103), (.mv (.tmp 102)), none, true⟩, ⟨(some 104), (.mv (.tmp 16)), (some (103, true)), true⟩, ⟨(some 105), (.mv (.tmp 22)), (some (103, true)), true⟩, ⟨(some 106), (.call 16 [(.tmp 104), (.tmp 105)] 0), (some (103, true)), true⟩, ⟨(some 107), (.pick (.tmp 103) (.tmp 106) (.val (.bool false))), none, true⟩, ⟨(some 10), (.mv (.tmp 107)), none, true⟩]) .ret))))))))))
def R3 : List LRes := [(.tmp 10)]
theorem low3 : Try.f3.body.bind (lowerCode Try.prog 108) = some L3 := by kernel_rfl
theorem res3 : lowerRes Try.prog Try.f3.results.toList = some R3 := by kernel_rfl
set_option maxRecDepth 100000 in
def L4 : LC := (.seq (.reg none [⟨(some 4), (.mv (.val (.bool false))), none, true⟩]) (.seq (.seq (.reg none [⟨(some 22), (.call 13 [] 0), none, true⟩, ⟨(some 23), (.not (.tmp 22)), none, true⟩]) (.cond (.tmp 23) (.seq (.reg none [⟨(some 4), (.mv (.val (.bool false))), none, true⟩]) .ret) .skip)) (.seq (.seq (.reg none [⟨(some 24), (.mv (.tmp 0)), none, true⟩, ⟨(some 25), (.len false (.tmp 24)), none, true⟩, ⟨(some 26), (.bin .gtr (.tmp 25) (.val (.int .i64 7))), none, true⟩]) (.cond (.tmp 26) (.seq (.reg none [⟨(some 4), (.mv (.val (.bool true))), none, true⟩]) .ret) .skip)) (.seq (.reg none [⟨(some 27), (.mkn 25 3 56 [(.int .i64 0), .nilsl, .nilsl] (.val (.int .i64 3)) (.val (.int .i64 3))), none, true⟩, ⟨(some 5), (.mv (.tmp 27)), none, true⟩]) (.seq (.reg none [⟨(some 6), (.alloc [(.int .i64 0), (.int .i64 0), (.int .i64 0), (.int .i64 0), (.int .i64 0), (.int .i64 0), (.int .i64 0), (.int .i64 0), (.int .i64 0), (.int .i64 0), (.int .i64 0), (.int .i64 0), (.int .i64 0), (.int .i64 0), (.int .i64 0), (.int .i64 0), (.int .i64 0), (.int .i64 0), (.int .i64 0), (.int .i64 0), (.int .i64 0), (.int .i64 0), (.int .i64 0), (.int .i64 0)]), none, true⟩, ⟨(some 7), (.alloc [(.int .i64 0), (.int .i64 0), (.int .i64 0), (.int .i64 0), (.int .i64 0), (.int .i64 0), (.int .i64 0), (.int .i64 0), (.int .i64 0), (.int .i64 0), (.int .i64 0), (.int .i64 0), (.int .i64 0), (.int .i64 0), (.int .i64 0), (.int .i64 0), (.int .i64 0), (.int .i64 0), (.int .i64 0), (.int .i64 0), (.int .i64 0), (.int .i64 0), (.int .i64 0), (.int .i64 0)]), none, true⟩]) (.seq (.seq (.reg none [⟨(some 8), (.mv (.val (.int .i64 0))), none, true⟩]) (.block 0 (.loop (.seq (.seq (.reg none [⟨(some 28), (.mv (.tmp 8)), none, true⟩, ⟨(some 29), (.mv (.tmp 1)), none, true⟩, ⟨(some 30), (.len false (.tmp 29)), none, true⟩, ⟨(some 31), (.bin .add (.tmp 30) (.val (.int .i64 42))), none, true⟩, ⟨(some 32), (.bin .lss (.tmp 28) (.tmp 31)), none, true⟩]) (.cond (.tmp 32) .skip (.exit 0))) (.seq (.block 1 (.seq (.reg none [⟨(some 35), (.mv (.tmp 8)), none, true⟩, ⟨(some 36), (.mv (.tmp 1)), none, true⟩, ⟨(some 37), (.len false (.tmp 36)), none, true⟩, ⟨(some 38), (.bin .sub (.tmp 35) (.tmp 37)), none, true⟩, ⟨(some 9), (.mv (.tmp 38)), none, true⟩]) (.seq (.seq (.reg none [⟨(some 39), (.mv (.tmp 8)), none, true⟩, ⟨(some 40), (.mv (.tmp 1)), none, true⟩, ⟨(some 41), (.len false (.tmp 40)), none, true⟩, ⟨(some 42), (.bin .lss (.tmp 39) (.tmp 41)), none, true⟩]) (.cond (.tmp 42) (.reg none [⟨(some 43), (.mv (.tmp 1)), none, true⟩, ⟨(some 44), (.mv (.tmp 8)), none, true⟩, ⟨(some 45), (.iaddrS 1 (.tmp 43) (.tmp 44)), none, true⟩, ⟨(some 46), (.load 1 false (.tmp 45)), none, true⟩, ⟨(some 9), (.mv (.tmp 46)), none, true⟩]) .skip)) (.seq (.seq (.reg none [⟨(some 47), (.mv (.tmp 9)), none, true⟩, ⟨(some 48), (.bin .lss (.tmp 47) (.val (.int .i64 0))), none, true⟩, ⟨(some 49), (.mv (.tmp 48)), none, true⟩, ⟨(some 50), (.mv (.tmp 0)), (some (49, false)), true⟩, ⟨(some 51), (.len false (.tmp 50)), (some (49, false)), true⟩, ⟨(some 52), (.bin .eql (.tmp 51) (.val (.int .i64 0))), (some (49, false)), true⟩, ⟨(some 53), (.pick (.tmp 49) (.val (.bool true)) (.tmp 52)), none, true⟩]) (.cond (.tmp 53) (.exit 1) .skip)) (.seq (.reg none [⟨(some 54), (.mv (.tmp 9)), none, true⟩, ⟨(some 55), (.bin .quo (.tmp 54) (.val (.int .i64 3))), none, true⟩, ⟨(some 56), (.mv (.tmp 0)), none, true⟩, ⟨(some 57), (.len false (.tmp 56)), none, true⟩, ⟨(some 58), (.bin .rem (.tmp 55) (.tmp 57)), none, true⟩, ⟨(some 59), (.bin .add (.tmp 58) (.val (.int .i64 1))), none, true⟩, ⟨(some 60), (.mv (.tmp 9)), none, true⟩, ⟨(some 61), (.bin .rem (.tmp 60) (.val (.int .i64 3))), none, true⟩, ⟨(some 10), (.mv (.tmp 59)), none, true⟩, ⟨(some 11), (.mv (.tmp 61)), none, true⟩]) (.seq (.reg none [⟨(some 62), (.mv (.tmp 0)), none, true⟩, ⟨(some 63), (.mv (.tmp 10)), none, true⟩, ⟨(some 64), (.bin .sub (.tmp 63) (.val (.int .i64 1))), none, true⟩, ⟨(some 65), (.iaddrS 1 (.tmp 62) (.tmp 64)), none, true⟩, ⟨(some 66), (.load 1 false (.tmp 65)), none, true⟩, ⟨(some 12), (.mv (.tmp 66)), none, true⟩]) (.seq (.seq (.reg none [⟨(some 67), (.mv (.tmp 12)), none, true⟩, ⟨(some 68), (.bin .lss (.tmp 67) (.val (.int .i64 1))), none, true⟩, ⟨(some 69), (.mv (.tmp 68)), none, true⟩, ⟨(some 70), (.mv (.tmp 12)), (some (69, false)), true⟩, ⟨(some 71), (.bin .gtr (.tmp 70) (.val (.int .i64 7))), (some (69, false)), true⟩, ⟨(some 72), (.pick (.tmp 69) (.val (.bool true)) (.tmp 71)), none, true⟩, ⟨(some 73), (.mv (.tmp 72)), none, true⟩, ⟨(some 74), (.mv (.tmp 12)), (some (73, false)), true⟩, ⟨(some 75), (.mv (.tmp 11)), (some (73, false)), true⟩, ⟨(some 76), (.call 17 [(.tmp 74), (.tmp 75)] 0), (some (73, false)), true⟩, ⟨(some 77), (.not (.tmp 76)), (some (73, false)), true⟩, ⟨(some 78), (.pick (.tmp 73) (.val (.bool true)) (.tmp 77)), none, true⟩, ⟨(some 79), (.mv (.tmp 78)), none, true⟩, ⟨(some 80), (.mv (.tmp 10)), (some (79, false)), true⟩, ⟨(some 81), (.mv (.tmp 11)), (some (79, false)), true⟩, ⟨(some 82), (.iaddrA 3 8 (.tmp 7) (.tmp 80)), (some (79, false)), true⟩, ⟨(some 83), (.iaddrA 1 3 (.tmp 82) (.tmp 81)), (some (79, false)), true⟩, ⟨(some 84), (.load 1 false (.tmp 83)), (some (79, false)), true⟩, ⟨(some 85), (.bin .gtr (.tmp 84) (.val (.int .i64 0))), (some (79, false)), true⟩, ⟨(some 86), (.pick (.tmp 79) (.val (.bool true)) (.tmp 85)), none, true⟩]) (.cond (.tmp 86) (.exit 1) .skip)) (.seq (.seq (.reg none [⟨(some 87), (.mv (.tmp 10)), none, true⟩, ⟨(some 88), (.mv (.tmp 11)), none, true⟩, ⟨(some 89), (.iaddrA 3 8 (.tmp 6) (.tmp 87)), none, true⟩, ⟨(some 90), (.iaddrA 1 3 (.tmp 89) (.tmp 88)), none, true⟩, ⟨(some 91), (.load 1 false (.tmp 90)), none, true⟩, ⟨(some 92), (.bin .eql (.tmp 91) (.val (.int .i64 0))), none, true⟩]) (.cond (.tmp 92) (.seq (.reg none [⟨(some 94), (.mv (.tmp 5)), none, true⟩, ⟨(some 95), (.mv (.tmp 11)), none, true⟩, ⟨(some 96), (.iaddrS 3 (.tmp 94) (.tmp 95)), none, true⟩, ⟨(some 97), (.load 3 true (.tmp 96)), none, true⟩, ⟨(some 98), (.mv (.tmp 10)), none, true⟩, ⟨(some 99), (.call 6 [(.tmp 97), (.tmp 98)] 0), none, true⟩, ⟨(some 93), (.mv (.tmp 99)), none, true⟩, ⟨(some 100), (.ext 0 (.tmp 93)), none, true⟩, ⟨(some 101), (.ext 1 (.tmp 93)), none, true⟩, ⟨(some 102), (.ext 2 (.tmp 93)), none, true⟩, ⟨(some 13), (.alloc [(.int .i64 0), .nilsl, .nilsl]), none, true⟩, ⟨none, (.store 3 (.tmp 13) (.tmp 100)), none, true⟩, ⟨(some 14), (.mv (.tmp 101)), none, true⟩, ⟨(some 15), (.mv (.tmp 102)), none, true⟩]) (.seq (.seq (.reg none [⟨(some 103), (.mv (.tmp 15)), none, true⟩, ⟨(some 104), (.bin .neq (.tmp 103) (.val (.int .i64 0))), none, true⟩, ⟨(some 105), (.mv (.tmp 104)), none, true⟩, ⟨(some 106), (.mv (.tmp 14)), (some (105, false)), true⟩, ⟨(some 107), (.bin .leq (.tmp 106) (.val (.int .i64 0))), (some (105, false)), true⟩, ⟨(some 108), (.pick (.tmp 105) (.val (.bool true)) (.tmp 107)), none, true⟩]) (.cond (.tmp 108) (.seq (.reg none [⟨(some 4), (.mv (.val (.bool false))), none, true⟩]) .ret) .skip)) (.seq (.reg none [⟨(some 109), (.mv (.tmp 5)), none, true⟩, ⟨(some 110), (.mv (.tmp 11)), none, true⟩, ⟨(some 111), (.load 3 true (.tmp 13)), none, true⟩, ⟨(some 112), (.iaddrS 3 (.tmp 109) (.tmp 110)), none, true⟩, ⟨none, (.store 3 (.tmp 112) (.tmp 111)), none, true⟩]) (.seq (.reg none [⟨(some 113), (.mv (.tmp 10)), none, true⟩, ⟨(some 114), (.mv (.tmp 11)), none, true⟩, ⟨(some 115), (.mv (.tmp 14)), none, true⟩, ⟨(some 116), (.iaddrA 3 8 (.tmp 6) (.tmp 113)), none, true⟩, ⟨(some 117), (.iaddrA 1 3 (.tmp 116) (.tmp 114)), none, true⟩, ⟨none, (.store 1 (.tmp 117) (.tmp 115)), none, true⟩]) (.exit 1))))) .skip)) (.seq (.reg none [⟨(some 119), (.mv (.tmp 10)), none, true⟩, ⟨(some 120), (.mv (.tmp 12)), none, true⟩, ⟨(some 121), (.call 18 [(.tmp 6), (.tmp 119), (.tmp 120)] 0), none, true⟩, ⟨(some 118), (.mv (.tmp 121)), none, true⟩, ⟨(some 122), (.ext 0 (.tmp 118)), none, true⟩, ⟨(some 123), (.ext 1 (.tmp 118)), none, true⟩, ⟨(some 16), (.mv (.tmp 122)), none, true⟩, ⟨(some 17), (.mv (.tmp 123)), none, true⟩]) (.seq (.reg none [⟨(some 124), (.mv (.tmp 17)), none, true⟩]) (.cond (.tmp 124) (.seq (.reg none [⟨(some 126), (.mv (.tmp 5)), none, true⟩, ⟨(some 127), (.mv (.tmp 11)), none, true⟩, ⟨(some 128), (.iaddrS 3 (.tmp 126) (.tmp 127)), none, true⟩, ⟨(some 129), (.load 3 true (.tmp 128)), none, true⟩, ⟨(some 130), (.mv (.tmp 10)), none, true⟩, ⟨(some 131), (.mv (.tmp 16)), none, true⟩, ⟨(some 132), (.call 7 [(.tmp 129), (.tmp 130), (.tmp 131)] 0), none, true⟩, ⟨(some 125), (.mv (.tmp 132)), none, true⟩, ⟨(some 133), (.ext 0 (.tmp 125)), none, true⟩, ⟨(some 134), (.ext 1 (.tmp 125)), none, true⟩, ⟨(some 18), (.alloc [(.int .i64 0), .nilsl, .nilsl]), none, true⟩, ⟨none, (.store 3 (.tmp 18) (.tmp 133)), none, true⟩, ⟨(some 19), (.mv (.tmp 134)), none, true⟩]) (.seq (.seq (.reg none [⟨(some 135), (.mv (.tmp 19)), none, true⟩, ⟨(some 136), (.bin .neq (.tmp 135) (.val (.int .i64 0))), none, true⟩, ⟨(some 137), (.mv (.tmp 136)), none, true⟩, ⟨(some 138), (.load 3 true (.tmp 18)), (some (137, false)), true⟩, ⟨(some 139), (.call 14 [(.tmp 138)] 0), (some (137, false)), true⟩, ⟨(some 140), (.bin .neq (.tmp 139) (.val (.int .i64 0))), (some (137, false)), true⟩, ⟨(some 141), (.pick (.tmp 137) (.val (.bool true)) (.tmp 140)), none, true⟩]) (.cond (.tmp 141) (.seq (.reg none [⟨(some 4), (.mv (.val (.bool false))), none, true⟩]) .ret) .skip)) (.seq (.reg none [⟨(some 142), (.mv (.tmp 5)), none, true⟩, ⟨(some 143), (.mv (.tmp 11)), none, true⟩, ⟨(some 144), (.load 3 true (.tmp 18)), none, true⟩, ⟨(some 145), (.iaddrS 3 (.tmp 142) (.tmp 143)), none, true⟩, ⟨none, (.store 3 (.tmp 145) (.tmp 144)), none, true⟩]) (.reg none [⟨(some 146), (.mv (.tmp 10)), none, true⟩, ⟨(some 147), (.mv (.tmp 11)), none, true⟩, ⟨(some 148), (.mv (.tmp 16)), none, true⟩, ⟨(some 149), (.iaddrA 3 8 (.tmp 7) (.tmp 146)), none, true⟩, ⟨(some 150), (.iaddrA 1 3 (.tmp 149) (.tmp 147)), none, true⟩, ⟨none, (.store 1 (.tmp 150) (.tmp 148)), none, true⟩])))) .skip))))))))))) (.reg none [⟨(some 33), (.mv (.tmp 8)), none, true⟩, ⟨(some 34), (.bin .add (.tmp 33) (.val (.int .i64 1))), none, true⟩, ⟨(some 8), (.mv (.tmp 34)), none, true⟩])))))) (.seq (.seq (.reg none [⟨(some 20), (.mv (.val (.int .i64 0))), none, true⟩]) (.block 2 (.loop (.seq (.seq (.reg none [⟨(some 151), (.mv (.tmp 20)), none, true⟩, ⟨(some 152), (.bin .lss (.tmp 151) (.val (.int .i64 3))), none, true⟩]) (.cond (.tmp 152) .skip (.exit 2))) (.seq (.block 3 (.seq (.reg none [⟨(some 21), (.mv (.val (.int .i64 0))), none, true⟩]) (.block 4 (.loop (.seq (.seq (.reg none [⟨(some 155), (.mv (.tmp 21)), none, true⟩, ⟨(some 156), (.mv (.tmp 20)), none, true⟩, ⟨(some 157), (.bin .lss (.tmp 155) (.tmp 156)), none, true⟩]) (.cond (.tmp 157) .skip (.exit 4))) (.seq (.block 5 (.seq (.reg (some []) [⟨(some 160), (.mv (.tmp 5)), none, true⟩, ⟨(some 161), (.mv (.tmp 20)), none, true⟩, ⟨(some 162), (.iaddrS 3 (.tmp 160) (.tmp 161)), none, false⟩, ⟨(some 163), (.addr 2 (.tmp 162)), none, false⟩, ⟨(some 164), (.load 1 false (.tmp 163)), none, false⟩, ⟨(some 165), (.mv (.tmp 5)), none, true⟩, ⟨(some 166), (.mv (.tmp 21)), none, true⟩, ⟨(some 167), (.iaddrS 3 (.tmp 165) (.tmp 166)), none, false⟩, ⟨(some 168), (.addr 2 (.tmp 167)), none, false⟩, ⟨(some 169), (.load 1 false (.tmp 168)), none, false⟩, ⟨(some 170), (.call 19 [(.tmp 164), (.tmp 169)] 0), none, true⟩, ⟨(some 171), (.not (.tmp 170)), none, true⟩]) (.cond (.tmp 171) (.seq (.reg none [⟨(some 4), (.mv (.val (.bool false))), none, true⟩]) .ret) .skip))) (.reg none [⟨(some 158), (.mv (.tmp 21)), none, true⟩, ⟨(some 159), (.bin .add (.tmp 158) (.val (.int .i64 1))), none, true⟩, ⟨(some 21), (.mv (.tmp 159)), none, true⟩]))))))) (.reg none [⟨(some 153), (.mv (.tmp 20)), none, true⟩, ⟨(some 154), (.bin .add (.tmp 153) (.val (.int .i64 1))), none, true⟩, ⟨(some 20), (.mv (.tmp 154)), none, true⟩])))))) (.seq (.reg none [⟨(some 4), (.mv (.val (.bool true))), none, true⟩]) .ret))))))))
def R4 : List LRes := [(.tmp 4)]
theorem low4 : Try.f4.body.bind (lowerCode Try.prog 172) = some L4 := by kernel_rfl
theorem res4 : lowerRes Try.prog Try.f4.results.toList = some R4 := by kernel_rfl
set_option maxRecDepth 100000 in
def L5 : LC := (.seq (.reg none [⟨(some 3), (.box (.tmp 0)), none, true⟩, ⟨(some 6), (.mv (.val (.bool false))), none, true⟩]) (.seq (.seq (.reg none [⟨(some 15), (.call 13 [] 0), none, true⟩, ⟨(some 16), (.not (.tmp 15)), none, true⟩]) (.cond (.tmp 16) (.seq (.reg none [⟨(some 6), (.mv (.val (.bool false))), none, true⟩]) .ret) .skip)) (.seq (.reg none [⟨(some 18), (.load 3 true (.tmp 3)), none, true⟩, ⟨(some 19), (.mv (.tmp 1)), none, true⟩, ⟨(some 20), (.call 6 [(.tmp 18), (.tmp 19)] 0), none, true⟩, ⟨(some 17), (.mv (.tmp 20)), none, true⟩, ⟨(some 21), (.ext 0 (.tmp 17)), none, true⟩, ⟨(some 22), (.ext 1 (.tmp 17)), none, true⟩, ⟨(some 23), (.ext 2 (.tmp 17)), none, true⟩, ⟨(some 7), (.alloc [(.int .i64 0), .nilsl, .nilsl]), none, true⟩, ⟨none, (.store 3 (.tmp 7) (.tmp 21)), none, true⟩, ⟨(some 8), (.mv (.tmp 22)), none, true⟩, ⟨(some 9), (.mv (.tmp 23)), none, true⟩]) (.seq (.seq (.reg none [⟨(some 24), (.mv (.tmp 9)), none, true⟩, ⟨(some 25), (.bin .eql (.tmp 24) (.val (.int .i64 0))), none, true⟩]) (.cond (.tmp 25) (.seq (.seq (.reg none [⟨(some 10), (.mv (.val (.int .i64 0))), none, true⟩]) (.block 0 (.loop (.seq (.seq (.reg none [⟨(some 26), (.mv (.tmp 10)), none, true⟩, ⟨(some 27), (.addr 1 (.tmp 3)), none, true⟩, ⟨(some 28), (.load 1 false (.tmp 27)), none, true⟩, ⟨(some 29), (.len false (.tmp 28)), none, true⟩, ⟨(some 30), (.bin .lss (.tmp 26) (.tmp 29)), none, true⟩]) (.cond (.tmp 30) .skip (.exit 0))) (.seq (.block 1 (.seq (.reg none [⟨(some 33), (.addr 1 (.tmp 3)), none, true⟩, ⟨(some 34), (.load 1 false (.tmp 33)), none, true⟩, ⟨(some 35), (.mv (.tmp 10)), none, true⟩, ⟨(some 36), (.iaddrS 3 (.tmp 34) (.tmp 35)), none, true⟩, ⟨(some 37), (.addr 1 (.tmp 36)), none, true⟩, ⟨(some 38), (.load 1 false (.tmp 37)), none, true⟩, ⟨(some 39), (.mv (.tmp 8)), none, true⟩, ⟨(some 40), (.bin .geq (.tmp 38) (.tmp 39)), none, true⟩]) (.cond (.tmp 40) (.seq (.reg none [⟨(some 6), (.mv (.val (.bool false))), none, true⟩]) .ret) .skip))) (.reg none [⟨(some 31), (.mv (.tmp 10)), none, true⟩, ⟨(some 32), (.bin .add (.tmp 31) (.val (.int .i64 1))), none, true⟩, ⟨(some 10), (.mv (.tmp 32)), none, true⟩])))))) (.seq (.reg none [⟨(some 42), (.load 3 true (.tmp 7)), none, true⟩, ⟨(some 43), (.mv (.tmp 1)), none, true⟩, ⟨(some 44), (.mv (.tmp 8)), none, true⟩, ⟨(some 45), (.call 7 [(.tmp 42), (.tmp 43), (.tmp 44)] 0), none, true⟩, ⟨(some 41), (.mv (.tmp 45)), none, true⟩, ⟨(some 46), (.ext 0 (.tmp 41)), none, true⟩, ⟨(some 47), (.ext 1 (.tmp 41)), none, true⟩, ⟨(some 11), (.alloc [(.int .i64 0), .nilsl, .nilsl]), none, true⟩, ⟨none, (.store 3 (.tmp 11) (.tmp 46)), none, true⟩, ⟨(some 12), (.mv (.tmp 47)), none, true⟩]) (.seq (.seq (.reg none [⟨(some 48), (.mv (.tmp 12)), none, true⟩, ⟨(some 49), (.bin .eql (.tmp 48) (.val (.int .i64 0))), none, true⟩, ⟨(some 50), (.mv (.tmp 49)), none, true⟩, ⟨(some 51), (.addr 1 (.tmp 3)), (some (50, true)), true⟩, ⟨(some 52), (.load 1 false (.tmp 51)), (some (50, true)), true⟩, ⟨(some 53), (.len false (.tmp 52)), (some (50, true)), true⟩, ⟨(some 54), (.bin .eql (.tmp 53) (.val (.int .i64 0))), (some (50, true)), true⟩, ⟨(some 55), (.pick (.tmp 50) (.tmp 54) (.val (.bool false))), none, true⟩, ⟨(some 56), (.mv (.tmp 55)), none, true⟩, ⟨(some 57), (.addr 1 (.tmp 11)), (some (56, true)), true⟩, ⟨(some 58), (.load 1 false (.tmp 57)), (some (56, true)), true⟩, ⟨(some 59), (.len false (.tmp 58)), (some (56, true)), true⟩, ⟨(some 60), (.bin .gtr (.tmp 59) (.val (.int .i64 0))), (some (56, true)), true⟩, ⟨(some 61), (.mv (.tmp 60)), (some (56, true)), true⟩, ⟨(some 62), (.addr 2 (.tmp 11)), (some (61, false)), true⟩, ⟨(some 63), (.load 1 false (.tmp 62)), (some (61, false)), true⟩, ⟨(some 64), (.len false (.tmp 63)), (some (61, false)), true⟩, ⟨(some 65), (.addr 2 (.tmp 3)), (some (61, false)), true⟩, ⟨(some 66), (.load 1 false (.tmp 65)), (some (61, false)), true⟩, ⟨(some 67), (.len false (.tmp 66)), (some (61, false)), true⟩, ⟨(some 68), (.bin .add (.tmp 67) (.val (.int .i64 1))), (some (61, false)), true⟩, ⟨(some 69), (.bin .neq (.tmp 64) (.tmp 68)), (some (61, false)), true⟩, ⟨(some 70), (.pick (.tmp 61) (.val (.bool true)) (.tmp 69)), (some (56, true)), true⟩, ⟨(some 71), (.pick (.tmp 56) (.tmp 70) (.val (.bool false))), none, true⟩]) (.cond (.tmp 71) (.seq (.reg none [⟨(some 6), (.mv (.val (.bool false))), none, true⟩]) .ret) .skip)) (.seq (.reg none [⟨(some 72), (.mv (.tmp 12)), none, true⟩, ⟨(some 73), (.bin .neq (.tmp 72) (.val (.int .i64 0))), none, true⟩, ⟨(some 74), (.mv (.tmp 73)), none, true⟩, ⟨(some 75), (.mv (.tmp 12)), (some (74, true)), true⟩, ⟨(some 76), (.bin .neq (.tmp 75) (.val (.int .i64 2))), (some (74, true)), true⟩, ⟨(some 77), (.pick (.tmp 74) (.tmp 76) (.val (.bool false))), none, true⟩]) (.cond (.tmp 77) (.seq (.reg none [⟨(some 6), (.mv (.val (.bool false))), none, true⟩]) .ret) .skip))))) .skip)) (.seq (.reg none [⟨(some 79), (.load 3 true (.tmp 3)), none, true⟩, ⟨(some 80), (.mv (.tmp 1)), none, true⟩, ⟨(some 81), (.mv (.tmp 2)), none, true⟩, ⟨(some 82), (.call 7 [(.tmp 79), (.tmp 80), (.tmp 81)] 0), none, true⟩, ⟨(some 78), (.mv (.tmp 82)), none, true⟩, ⟨(some 83), (.ext 0 (.tmp 78)), none, true⟩, ⟨(some 84), (.ext 1 (.tmp 78)), none, true⟩, ⟨(some 13), (.alloc [(.int .i64 0), .nilsl, .nilsl]), none, true⟩, ⟨none, (.store 3 (.tmp 13) (.tmp 83)), none, true⟩, ⟨(some 9), (.mv (.tmp 84)), none, true⟩]) (.seq (.seq (.reg none [⟨(some 85), (.mv (.tmp 9)), none, true⟩, ⟨(some 86), (.bin .neq (.tmp 85) (.val (.int .i64 0))), none, true⟩]) (.cond (.tmp 86) (.seq (.reg none [⟨(some 87), (.addr 1 (.tmp 13)), none, true⟩, ⟨(some 88), (.load 1 false (.tmp 87)), none, true⟩, ⟨(some 89), (.len false (.tmp 88)), none, true⟩, ⟨(some 90), (.addr 2 (.tmp 13)), none, true⟩, ⟨(some 91), (.load 1 false (.tmp 90)), none, true⟩, ⟨(some 92), (.len false (.tmp 91)), none, true⟩, ⟨(some 93), (.bin .add (.tmp 89) (.tmp 92)), none, true⟩, ⟨(some 94), (.bin .eql (.tmp 93) (.val (.int .i64 0))), none, true⟩, ⟨(some 6), (.mv (.tmp 94)), none, true⟩]) .ret) .skip)) (.seq (.seq (.reg none [⟨(some 95), (.addr 2 (.tmp 13)), none, true⟩, ⟨(some 96), (.load 1 false (.tmp 95)), none, true⟩, ⟨(some 97), (.len false (.tmp 96)), none, true⟩, ⟨(some 98), (.addr 2 (.tmp 3)), none, true⟩, ⟨(some 99), (.load 1 false (.tmp 98)), none, true⟩, ⟨(some 100), (.len false (.tmp 99)), none, true⟩, ⟨(some 101), (.bin .lss (.tmp 97) (.tmp 100)), none, true⟩, ⟨(some 102), (.mv (.tmp 101)), none, true⟩, ⟨(some 103), (.addr 0 (.tmp 13)), (some (102, false)), true⟩, ⟨(some 104), (.load 1 false (.tmp 103)), (some (102, false)), true⟩, ⟨(some 105), (.addr 0 (.tmp 3)), (some (102, false)), true⟩, ⟨(some 106), (.load 1 false (.tmp 105)), (some (102, false)), true⟩, ⟨(some 107), (.bin .lss (.tmp 104) (.tmp 106)), (some (102, false)), true⟩, ⟨(some 108), (.pick (.tmp 102) (.val (.bool true)) (.tmp 107)), none, true⟩, ⟨(some 109), (.mv (.tmp 108)), none, true⟩, ⟨(some 110), (.load 3 true (.tmp 13)), (some (109, false)), true⟩, ⟨(some 111), (.call 14 [(.tmp 110)] 0), (some (109, false)), true⟩, ⟨(some 112), (.bin .neq (.tmp 111) (.val (.int .i64 0))), (some (109, false)), true⟩, ⟨(some 113), (.pick (.tmp 109) (.val (.bool true)) (.tmp 112)), none, true⟩]) (.cond (.tmp 113) (.seq (.reg none [⟨(some 6), (.mv (.val (.bool false))), none, true⟩]) .ret) .skip)) (.seq (.seq (.reg none [⟨(some 14), (.mv (.val (.int .i64 0))), none, true⟩]) (.block 2 (.loop (.seq (.seq (.reg none [⟨(some 114), (.mv (.tmp 14)), none, true⟩, ⟨(some 115), (.addr 2 (.tmp 3)), none, true⟩, ⟨(some 116), (.load 1 false (.tmp 115)), none, true⟩, ⟨(some 117), (.len false (.tmp 116)), none, true⟩, ⟨(some 118), (.bin .lss (.tmp 114) (.tmp 117)), none, true⟩]) (.cond (.tmp 118) .skip (.exit 2))) (.seq (.block 3 (.seq (.reg (some []) [⟨(some 121), (.addr 2 (.tmp 13)), none, false⟩, ⟨(some 122), (.load 1 false (.tmp 121)), none, false⟩, ⟨(some 123), (.mv (.tmp 14)), none, true⟩, ⟨(some 124), (.iaddrS 1 (.tmp 122) (.tmp 123)), none, false⟩, ⟨(some 125), (.load 1 false (.tmp 124)), none, false⟩, ⟨(some 126), (.addr 2 (.tmp 3)), none, false⟩, ⟨(some 127), (.load 1 false (.tmp 126)), none, false⟩, ⟨(some 128), (.mv (.tmp 14)), none, true⟩, ⟨(some 129), (.iaddrS 1 (.tmp 127) (.tmp 128)), none, false⟩, ⟨(some 130), (.load 1 false (.tmp 129)), none, false⟩, ⟨(some 131), (.bin .neq (.tmp 125) (.tmp 130)), none, true⟩]) (.cond (.tmp 131) (.seq (.reg none [⟨(some 6), (.mv (.val (.bool false))), none, true⟩]) .ret) .skip))) (.reg none [⟨(some 119), (.mv (.tmp 14)), none, true⟩, ⟨(some 120), (.bin .add (.tmp 119) (.val (.int .i64 1))), none, true⟩, ⟨(some 14), (.mv (.tmp 120)), none, true⟩])))))) (.seq (.reg none [⟨(some 132), (.addr 2 (.tmp 13)), none, true⟩, ⟨(some 133), (.load 1 false (.tmp 132)), none, true⟩, ⟨(some 134), (.len false (.tmp 133)), none, true⟩, ⟨(some 135), (.addr 1 (.tmp 13)), none, true⟩, ⟨(some 136), (.load 1 false (.tmp 135)), none, true⟩, ⟨(some 137), (.len false (.tmp 136)), none, true⟩, ⟨(some 138), (.bin .add (.tmp 134) (.tmp 137)), none, true⟩, ⟨(some 139), (.addr 2 (.tmp 3)), none, true⟩, ⟨(some 140), (.load 1 false (.tmp 139)), none, true⟩, ⟨(some 141), (.len false (.tmp 140)), none, true⟩, ⟨(some 142), (.addr 1 (.tmp 3)), none, true⟩, ⟨(some 143), (.load 1 false (.tmp 142)), none, true⟩, ⟨(some 144), (.len false (.tmp 143)), none, true⟩, ⟨(some 145), (.bin .add (.tmp 141) (.tmp 144)), none, true⟩, ⟨(some 146), (.bin .eql (.tmp 138) (.tmp 145)), none, true⟩, ⟨(some 6), (.mv (.tmp 146)), none, true⟩]) .ret)))))))))
def R5 : List LRes := [(.tmp 6)]
theorem low5 : Try.f5.body.bind (lowerCode Try.prog 147) = some L5 := by kernel_rfl
theorem res5 : lowerRes Try.prog Try.f5.results.toList = some R5 := by kernel_rfl
set_option maxRecDepth 100000 in
def L6 : LC := (.seq (.reg none [⟨(some 2), (.box (.tmp 0)), none, true⟩, ⟨(some 4), (.alloc [(.int .i64 0), .nilsl, .nilsl]), none, true⟩, ⟨(some 5), (.mv (.val (.int .i64 0))), none, true⟩, ⟨(some 6), (.mv (.val (.int .i64 0))), none, true⟩]) (.seq (.reg none [⟨(some 9), (.load 3 true (.tmp 2)), none, true⟩, ⟨(some 10), (.call 14 [(.tmp 9)] 0), none, true⟩, ⟨(some 7), (.mv (.tmp 10)), none, true⟩]) (.seq (.reg none [⟨(some 11), (.load 3 true (.tmp 2)), none, true⟩, ⟨(some 12), (.call 20 [(.tmp 11)] 0), none, true⟩, ⟨(some 8), (.mv (.tmp 12)), none, true⟩]) (.seq (.seq (.reg none [⟨(some 13), (.mv (.tmp 7)), none, true⟩, ⟨(some 14), (.bin .eql (.tmp 13) (.val (.int .i64 0))), none, true⟩]) (.cond (.tmp 14) (.reg none [⟨(some 15), (.mv (.tmp 8)), none, true⟩, ⟨(some 16), (.mv (.tmp 1)), none, true⟩, ⟨(some 17), (.call 21 [(.tmp 15), (.tmp 16)] 0), none, true⟩, ⟨(some 7), (.mv (.tmp 17)), none, true⟩]) .skip)) (.seq (.seq (.reg none [⟨(some 18), (.mv (.tmp 7)), none, true⟩, ⟨(some 19), (.bin .neq (.tmp 18) (.val (.int .i64 0))), none, true⟩]) (.cond (.tmp 19) (.seq (.reg none [⟨(some 20), (.build [(.int .i64 0), .nilsl, .nilsl] []), none, true⟩, ⟨(some 21), (.mv (.tmp 7)), none, true⟩, ⟨none, (.store 3 (.tmp 4) (.tmp 20)), none, true⟩, ⟨(some 5), (.mv (.val (.int .i64 0))), none, true⟩, ⟨(some 6), (.mv (.tmp 21)), none, true⟩]) .ret) .skip)) (.seq (.reg (some [(5, 9), (6, 9), (7, 9), (8, 9)]) [⟨(some 22), (.mv (.tmp 8)), none, true⟩, ⟨(some 23), (.nilchk (.tmp 22)), none, false⟩, ⟨(some 24), (.addr 0 (.tmp 23)), none, false⟩, ⟨(some 25), (.load 3 true (.tmp 24)), none, false⟩, ⟨(some 26), (.mv (.tmp 8)), none, true⟩, ⟨(some 27), (.nilchk (.tmp 26)), none, false⟩, ⟨(some 28), (.addr 0 (.tmp 27)), none, false⟩, ⟨(some 29), (.addr 0 (.tmp 28)), none, false⟩, ⟨(some 30), (.load 1 false (.tmp 29)), none, false⟩, ⟨none, (.store 3 (.tmp 4) (.tmp 25)), none, false⟩, ⟨(some 5), (.mv (.tmp 30)), none, true⟩, ⟨(some 6), (.mv (.val (.int .i64 0))), none, true⟩]) .ret))))))
def R6 : List LRes := [(.cell 4 3 true), (.tmp 5), (.tmp 6)]
theorem low6 : Try.f6.body.bind (lowerCode Try.prog 31) = some L6 := by kernel_rfl
theorem res6 : lowerRes Try.prog Try.f6.results.toList = some R6 := by kernel_rfl
set_option maxRecDepth 100000 in
def L7 : LC := (.seq (.reg none [⟨(some 3), (.box (.tmp 0)), none, true⟩, ⟨(some 6), (.alloc [(.int .i64 0), .nilsl, .nilsl]), none, true⟩, ⟨(some 7), (.mv (.val (.int .i64 0))), none, true⟩]) (.seq (.reg none [⟨(some 10), (.load 3 true (.tmp 3)), none, true⟩, ⟨(some 11), (.call 14 [(.tmp 10)] 0), none, true⟩, ⟨(some 8), (.mv (.tmp 11)), none, true⟩]) (.seq (.reg none [⟨(some 12), (.load 3 true (.tmp 3)), none, true⟩, ⟨(some 13), (.call 20 [(.tmp 12)] 0), none, true⟩, ⟨(some 9), (.mv (.tmp 13)), none, true⟩]) (.seq (.seq (.reg none [⟨(some 14), (.mv (.tmp 8)), none, true⟩, ⟨(some 15), (.bin .eql (.tmp 14) (.val (.int .i64 0))), none, true⟩]) (.cond (.tmp 15) (.reg none [⟨(some 16), (.mv (.tmp 9)), none, true⟩, ⟨(some 17), (.mv (.tmp 1)), none, true⟩, ⟨(some 18), (.mv (.tmp 2)), none, true⟩, ⟨(some 19), (.call 22 [(.tmp 16), (.tmp 17), (.tmp 18)] 0), none, true⟩, ⟨(some 8), (.mv (.tmp 19)), none, true⟩]) .skip)) (.seq (.seq (.reg none [⟨(some 20), (.mv (.tmp 8)), none, true⟩, ⟨(some 21), (.bin .neq (.tmp 20) (.val (.int .i64 0))), none, true⟩]) (.cond (.tmp 21) (.seq (.reg none [⟨(some 22), (.build [(.int .i64 0), .nilsl, .nilsl] []), none, true⟩, ⟨(some 23), (.mv (.tmp 8)), none, true⟩, ⟨none, (.store 3 (.tmp 6) (.tmp 22)), none, true⟩, ⟨(some 7), (.mv (.tmp 23)), none, true⟩]) .ret) .skip)) (.seq (.reg none [⟨(some 24), (.mv (.tmp 9)), none, true⟩, ⟨(some 25), (.nilchk (.tmp 24)), none, true⟩, ⟨(some 26), (.addr 0 (.tmp 25)), none, true⟩, ⟨(some 27), (.load 3 true (.tmp 26)), none, true⟩, ⟨none, (.store 3 (.tmp 6) (.tmp 27)), none, true⟩, ⟨(some 7), (.mv (.val (.int .i64 0))), none, true⟩]) .ret))))))
def R7 : List LRes := [(.cell 6 3 true), (.tmp 7)]
theorem low7 : Try.f7.body.bind (lowerCode Try.prog 28) = some L7 := by kernel_rfl
theorem res7 : lowerRes Try.prog Try.f7.results.toList = some R7 := by kernel_rfl
set_option maxRecDepth 100000 in
def L8 : LC := (.seq (.reg none [⟨(some 4), (.box (.tmp 1)), none, true⟩, ⟨(some 6), (.mv (.val .nilsl)), none, true⟩, ⟨(some 7), (.mv (.val (.int .i64 0))), none, true⟩]) (.seq (.seq (.reg none [⟨(some 17), (.mv (.tmp 0)), none, true⟩, ⟨(some 18), (.len false (.tmp 17)), none, true⟩, ⟨(some 19), (.bin .neq (.tmp 18) (.val (.int .i64 3))), none, true⟩]) (.cond (.tmp 19) (.seq (.reg none [⟨(some 6), (.mv (.val .nilsl)), none, true⟩, ⟨(some 7), (.mv (.val (.int .i64 1))), none, true⟩]) .ret) .skip)) (.seq (.reg none [⟨(some 8), (.mv (.val .nilsl)), none, true⟩]) (.seq (.seq (.reg none [⟨(some 20), (.mv (.tmp 0)), none, true⟩, ⟨(some 21), (.len false (.tmp 20)), none, true⟩, ⟨(some 22), (.mv (.val (.int .i64 0))), none, true⟩]) (.block 0 (.loop (.seq (.reg none [⟨(some 23), (.bin .lss (.tmp 22) (.tmp 21)), none, true⟩]) (.seq (.cond (.tmp 23) .skip (.exit 0)) (.seq (.block 1 (.seq (.reg none [⟨(some 24), (.iaddrS 3 (.tmp 20) (.tmp 22)), none, true⟩, ⟨(some 25), (.load 3 true (.tmp 24)), none, true⟩, ⟨(some 10), (.alloc [(.int .i64 0), .nilsl, .nilsl]), none, true⟩, ⟨none, (.store 3 (.tmp 10) (.tmp 25)), none, true⟩]) (.seq (.seq (.reg none [⟨(some 26), (.load 3 true (.tmp 10)), none, true⟩, ⟨(some 27), (.call 14 [(.tmp 26)] 0), none, true⟩, ⟨(some 11), (.mv (.tmp 27)), none, true⟩]) (.seq (.reg none [⟨(some 28), (.mv (.tmp 11)), none, true⟩, ⟨(some 29), (.bin .neq (.tmp 28) (.val (.int .i64 0))), none, true⟩]) (.cond (.tmp 29) (.seq (.reg none [⟨(some 30), (.mv (.tmp 11)), none, true⟩, ⟨(some 6), (.mv (.val .nilsl)), none, true⟩, ⟨(some 7), (.mv (.tmp 30)), none, true⟩]) .ret) .skip))) (.reg none [⟨(some 31), (.mv (.tmp 8)), none, true⟩, ⟨(some 32), (.load 3 true (.tmp 10)), none, true⟩, ⟨(some 33), (.call 20 [(.tmp 32)] 0), none, true⟩, ⟨(some 34), (.mks 1 [.nilp] 1 [(0, (.tmp 33))]), none, true⟩, ⟨(some 35), (.append 50 1 8 (.tmp 31) (.tmp 34)), none, true⟩, ⟨(some 8), (.mv (.tmp 35)), none, true⟩])))) (.reg none [⟨(some 36), (.bin .add (.tmp 22) (.val (.int .i64 1))), none, true⟩, ⟨(some 22), (.mv (.tmp 36)), none, true⟩]))))))) (.seq (.seq (.reg none [⟨(some 37), (.mv (.tmp 2)), none, true⟩, ⟨(some 38), (.call 23 [(.tmp 37)] 0), none, true⟩, ⟨(some 39), (.not (.tmp 38)), none, true⟩]) (.cond (.tmp 39) (.seq (.reg none [⟨(some 6), (.mv (.val .nilsl)), none, true⟩, ⟨(some 7), (.mv (.val (.int .i64 3))), none, true⟩]) .ret) .skip)) (.seq (.reg none [⟨(some 12), (.alloc [(.int .i64 0)]), none, true⟩, ⟨none, (.store 1 (.tmp 12) (.val (.int .i64 0))), none, true⟩]) (.seq (.reg none [⟨(some 40), (.mv (.tmp 8)), none, true⟩, ⟨(some 41), (.mv (.tmp 2)), none, true⟩, ⟨(some 42), (.clo 25 [(.tmp 4), (.tmp 12)]), none, true⟩, ⟨(some 43), (.call 24 [(.tmp 40), (.tmp 41), (.tmp 42)] 0), none, true⟩, ⟨(some 13), (.mv (.tmp 43)), none, true⟩]) (.seq (.seq (.reg none [⟨(some 44), (.mv (.tmp 13)), none, true⟩, ⟨(some 45), (.bin .eql (.tmp 44) (.val (.int .i64 0))), none, true⟩]) (.cond (.tmp 45) (.reg none [⟨(some 46), (.mv (.tmp 8)), none, true⟩, ⟨(some 47), (.mv (.tmp 2)), none, true⟩, ⟨(some 48), (.clo 26 [(.tmp 4), (.tmp 12)]), none, true⟩, ⟨(some 49), (.call 24 [(.tmp 46), (.tmp 47), (.tmp 48)] 0), none, true⟩, ⟨(some 13), (.mv (.tmp 49)), none, true⟩]) .skip)) (.seq (.seq (.reg none [⟨(some 50), (.mv (.tmp 13)), none, true⟩, ⟨(some 51), (.bin .neq (.tmp 50) (.val (.int .i64 0))), none, true⟩]) (.cond (.tmp 51) (.seq (.reg none [⟨(some 52), (.mv (.tmp 13)), none, true⟩, ⟨(some 6), (.mv (.val .nilsl)), none, true⟩, ⟨(some 7), (.mv (.tmp 52)), none, true⟩]) .ret) .skip)) (.seq (.reg none [⟨(some 14), (.mv (.val .nilsl)), none, true⟩]) (.seq (.seq (.reg none [⟨(some 53), (.mv (.tmp 8)), none, true⟩, ⟨(some 54), (.len false (.tmp 53)), none, true⟩, ⟨(some 55), (.mv (.val (.int .i64 0))), none, true⟩]) (.block 2 (.loop (.seq (.reg none [⟨(some 56), (.bin .lss (.tmp 55) (.tmp 54)), none, true⟩]) (.seq (.cond (.tmp 56) .skip (.exit 2)) (.seq (.block 3 (.seq (.reg none [⟨(some 57), (.iaddrS 1 (.tmp 53) (.tmp 55)), none, true⟩, ⟨(some 58), (.load 1 false (.tmp 57)), none, true⟩, ⟨(some 16), (.mv (.tmp 58)), none, true⟩]) (.reg none [⟨(some 59), (.mv (.tmp 14)), none, true⟩, ⟨(some 60), (.mv (.tmp 16)), none, true⟩, ⟨(some 61), (.nilchk (.tmp 60)), none, true⟩, ⟨(some 62), (.addr 0 (.tmp 61)), none, true⟩, ⟨(some 63), (.load 3 true (.tmp 62)), none, true⟩, ⟨(some 64), (.mks 3 [(.int .i64 0), .nilsl, .nilsl] 1 [(0, (.tmp 63))]), none, true⟩, ⟨(some 65), (.append 25 3 56 (.tmp 59) (.tmp 64)), none, true⟩, ⟨(some 14), (.mv (.tmp 65)), none, true⟩]))) (.reg none [⟨(some 66), (.bin .add (.tmp 55) (.val (.int .i64 1))), none, true⟩, ⟨(some 55), (.mv (.tmp 66)), none, true⟩]))))))) (.seq (.reg none [⟨(some 67), (.mv (.tmp 14)), none, true⟩, ⟨(some 6), (.mv (.tmp 67)), none, true⟩, ⟨(some 7), (.mv (.val (.int .i64 0))), none, true⟩]) .ret))))))))))))
def R8 : List LRes := [(.tmp 6), (.tmp 7)]
theorem low8 : Try.f8.body.bind (lowerCode Try.prog 68) = some L8 := by kernel_rfl
theorem res8 : lowerRes Try.prog Try.f8.results.toList = some R8 := by kernel_rfl
set_option maxRecDepth 100000 in
def L9 : LC := (.seq (.reg none [⟨(some 1), (.box (.tmp 0)), none, true⟩, ⟨(some 2), (.mv (.val (.int .i64 0))), none, true⟩]) (.seq (.seq (.reg none [⟨(some 6), (.addr 0 (.tmp 1)), none, true⟩, ⟨(some 7), (.load 1 false (.tmp 6)), none, true⟩, ⟨(some 8), (.call 27 [(.tmp 7), (.val (.int .i64 0)), (.val (.int .i64 999))] 0), none, true⟩, ⟨(some 9), (.not (.tmp 8)), none, true⟩]) (.cond (.tmp 9) (.seq (.reg none [⟨(some 2), (.mv (.val (.int .i64 3))), none, true⟩]) .ret) .skip)) (.seq (.seq (.reg none [⟨(some 10), (.addr 1 (.tmp 1)), none, true⟩, ⟨(some 11), (.load 1 false (.tmp 10)), none, true⟩, ⟨(some 12), (.len false (.tmp 11)), none, true⟩, ⟨(some 13), (.bin .gtr (.tmp 12) (.val (.int .i64 8))), none, true⟩, ⟨(some 14), (.mv (.tmp 13)), none, true⟩, ⟨(some 15), (.addr 2 (.tmp 1)), (some (14, false)), true⟩, ⟨(some 16), (.load 1 false (.tmp 15)), (some (14, false)), true⟩, ⟨(some 17), (.len false (.tmp 16)), (some (14, false)), true⟩, ⟨(some 18), (.bin .gtr (.tmp 17) (.val (.int .i64 30))), (some (14, false)), true⟩, ⟨(some 19), (.pick (.tmp 14) (.val (.bool true)) (.tmp 18)), none, true⟩]) (.cond (.tmp 19) (.seq (.reg none [⟨(some 2), (.mv (.val (.int .i64 2))), none, true⟩]) .ret) .skip)) (.seq (.seq (.reg none [⟨(some 3), (.mv (.val (.int .i64 0))), none, true⟩]) (.block 0 (.loop (.seq (.seq (.reg none [⟨(some 20), (.mv (.tmp 3)), none, true⟩, ⟨(some 21), (.addr 1 (.tmp 1)), none, true⟩, ⟨(some 22), (.load 1 false (.tmp 21)), none, true⟩, ⟨(some 23), (.len false (.tmp 22)), none, true⟩, ⟨(some 24), (.bin .lss (.tmp 20) (.tmp 23)), none, true⟩]) (.cond (.tmp 24) .skip (.exit 0))) (.seq (.block 1 (.seq (.seq (.reg (some []) [⟨(some 27), (.addr 1 (.tmp 1)), none, true⟩, ⟨(some 28), (.load 1 false (.tmp 27)), none, true⟩, ⟨(some 29), (.mv (.tmp 3)), none, true⟩, ⟨(some 30), (.iaddrS 3 (.tmp 28) (.tmp 29)), none, true⟩, ⟨(some 31), (.addr 0 (.tmp 30)), none, true⟩, ⟨(some 32), (.load 1 false (.tmp 31)), none, true⟩, ⟨(some 33), (.call 27 [(.tmp 32), (.val (.int .i64 1)), (.val (.int .i64 20))] 0), none, true⟩, ⟨(some 34), (.not (.tmp 33)), none, true⟩, ⟨(some 35), (.mv (.tmp 34)), none, true⟩, ⟨(some 36), (.addr 1 (.tmp 1)), (some (35, false)), false⟩, ⟨(some 37), (.load 1 false (.tmp 36)), (some (35, false)), false⟩, ⟨(some 38), (.mv (.tmp 3)), (some (35, false)), true⟩, ⟨(some 39), (.iaddrS 3 (.tmp 37) (.tmp 38)), (some (35, false)), false⟩, ⟨(some 40), (.addr 1 (.tmp 39)), (some (35, false)), false⟩, ⟨(some 41), (.load 1 false (.tmp 40)), (some (35, false)), false⟩, ⟨(some 42), (.addr 0 (.tmp 1)), (some (35, false)), false⟩, ⟨(some 43), (.load 1 false (.tmp 42)), (some (35, false)), false⟩, ⟨(some 44), (.call 27 [(.tmp 41), (.val (.int .i64 1)), (.tmp 43)] 0), (some (35, false)), true⟩, ⟨(some 45), (.not (.tmp 44)), (some (35, false)), true⟩, ⟨(some 46), (.pick (.tmp 35) (.val (.bool true)) (.tmp 45)), none, true⟩]) (.cond (.tmp 46) (.seq (.reg none [⟨(some 2), (.mv (.val (.int .i64 3))), none, true⟩]) .ret) .skip)) (.seq (.reg (some []) [⟨(some 47), (.mv (.tmp 3)), none, true⟩, ⟨(some 48), (.bin .gtr (.tmp 47) (.val (.int .i64 0))), none, true⟩, ⟨(some 49), (.mv (.tmp 48)), none, true⟩, ⟨(some 50), (.addr 1 (.tmp 1)), (some (49, true)), false⟩, ⟨(some 51), (.load 1 false (.tmp 50)), (some (49, true)), false⟩, ⟨(some 52), (.mv (.tmp 3)), (some (49, true)), true⟩, ⟨(some 53), (.bin .sub (.tmp 52) (.val (.int .i64 1))), (some (49, true)), true⟩, ⟨(some 54), (.iaddrS 3 (.tmp 51) (.tmp 53)), (some (49, true)), false⟩, ⟨(some 55), (.addr 0 (.tmp 54)), (some (49, true)), false⟩, ⟨(some 56), (.load 1 false (.tmp 55)), (some (49, true)), false⟩, ⟨(some 57), (.addr 1 (.tmp 1)), (some (49, true)), false⟩, ⟨(some 58), (.load 1 false (.tmp 57)), (some (49, true)), false⟩, ⟨(some 59), (.mv (.tmp 3)), (some (49, true)), true⟩, ⟨(some 60), (.iaddrS 3 (.tmp 58) (.tmp 59)), (some (49, true)), false⟩, ⟨(some 61), (.addr 0 (.tmp 60)), (some (49, true)), false⟩, ⟨(some 62), (.load 1 false (.tmp 61)), (some (49, true)), false⟩, ⟨(some 63), (.bin .geq (.tmp 56) (.tmp 62)), (some (49, true)), true⟩, ⟨(some 64), (.pick (.tmp 49) (.tmp 63) (.val (.bool false))), none, true⟩]) (.cond (.tmp 64) (.seq (.reg none [⟨(some 2), (.mv (.val (.int .i64 4))), none, true⟩]) .ret) .skip)))) (.reg none [⟨(some 25), (.mv (.tmp 3)), none, true⟩, ⟨(some 26), (.bin .add (.tmp 25) (.val (.int .i64 1))), none, true⟩, ⟨(some 3), (.mv (.tmp 26)), none, true⟩])))))) (.seq (.seq (.reg none [⟨(some 4), (.mv (.val (.int .i64 0))), none, true⟩]) (.block 2 (.loop (.seq (.seq (.reg none [⟨(some 65), (.mv (.tmp 4)), none, true⟩, ⟨(some 66), (.addr 2 (.tmp 1)), none, true⟩, ⟨(some 67), (.load 1 false (.tmp 66)), none, true⟩, ⟨(some 68), (.len false (.tmp 67)), none, true⟩, ⟨(some 69), (.bin .lss (.tmp 65) (.tmp 68)), none, true⟩]) (.cond (.tmp 69) .skip (.exit 2))) (.seq (.block 3 (.seq (.seq (.reg none [⟨(some 72), (.addr 2 (.tmp 1)), none, true⟩, ⟨(some 73), (.load 1 false (.tmp 72)), none, true⟩, ⟨(some 74), (.mv (.tmp 4)), none, true⟩, ⟨(some 75), (.iaddrS 1 (.tmp 73) (.tmp 74)), none, true⟩, ⟨(some 76), (.load 1 false (.tmp 75)), none, true⟩, ⟨(some 77), (.call 27 [(.tmp 76), (.val (.int .i64 1)), (.val (.int .i64 20))] 0), none, true⟩, ⟨(some 78), (.not (.tmp 77)), none, true⟩]) (.cond (.tmp 78) (.seq (.reg none [⟨(some 2), (.mv (.val (.int .i64 3))), none, true⟩]) .ret) .skip)) (.seq (.reg (some []) [⟨(some 79), (.addr 2 (.tmp 1)), none, false⟩, ⟨(some 80), (.load 1 false (.tmp 79)), none, false⟩, ⟨(some 81), (.mv (.tmp 4)), none, true⟩, ⟨(some 82), (.slc 1 (.tmp 80) none (some (.tmp 81))), none, false⟩, ⟨(some 83), (.addr 2 (.tmp 1)), none, false⟩, ⟨(some 84), (.load 1 false (.tmp 83)), none, false⟩, ⟨(some 85), (.mv (.tmp 4)), none, true⟩, ⟨(some 86), (.iaddrS 1 (.tmp 84) (.tmp 85)), none, false⟩, ⟨(some 87), (.load 1 false (.tmp 86)), none, false⟩, ⟨(some 88), (.call 28 [(.tmp 82), (.tmp 87)] 0), none, true⟩, ⟨(some 89), (.mv (.tmp 88)), none, true⟩, ⟨(some 90), (.load 3 true (.tmp 1)), (some (89, false)), false⟩, ⟨(some 91), (.addr 2 (.tmp 1)), (some (89, false)), false⟩, ⟨(some 92), (.load 1 false (.tmp 91)), (some (89, false)), false⟩, ⟨(some 93), (.mv (.tmp 4)), (some (89, false)), true⟩, ⟨(some 94), (.iaddrS 1 (.tmp 92) (.tmp 93)), (some (89, false)), false⟩, ⟨(some 95), (.load 1 false (.tmp 94)), (some (89, false)), false⟩, ⟨(some 96), (.call 29 [(.tmp 90), (.tmp 95)] 0), (some (89, false)), true⟩, ⟨(some 97), (.bin .geq (.tmp 96) (.val (.int .i64 0))), (some (89, false)), true⟩, ⟨(some 98), (.pick (.tmp 89) (.val (.bool true)) (.tmp 97)), none, true⟩]) (.cond (.tmp 98) (.seq (.reg none [⟨(some 2), (.mv (.val (.int .i64 6))), none, true⟩]) .ret) .skip)))) (.reg none [⟨(some 70), (.mv (.tmp 4)), none, true⟩, ⟨(some 71), (.bin .add (.tmp 70) (.val (.int .i64 1))), none, true⟩, ⟨(some 4), (.mv (.tmp 71)), none, true⟩])))))) (.seq (.reg none [⟨(some 99), (.load 3 true (.tmp 1)), none, true⟩, ⟨(some 100), (.call 30 [(.tmp 99)] 0), none, true⟩, ⟨(some 5), (.mv (.tmp 100)), none, true⟩]) (.seq (.seq (.reg none [⟨(some 101), (.mv (.tmp 5)), none, true⟩, ⟨(some 102), (.bin .geq (.tmp 101) (.val (.int .i64 0))), none, true⟩, ⟨(some 103), (.mv (.tmp 102)), none, true⟩, ⟨(some 104), (.addr 1 (.tmp 1)), (some (103, true)), true⟩, ⟨(some 105), (.load 1 false (.tmp 104)), (some (103, true)), true⟩, ⟨(some 106), (.mv (.tmp 5)), (some (103, true)), true⟩, ⟨(some 107), (.iaddrS 3 (.tmp 105) (.tmp 106)), (some (103, true)), true⟩, ⟨(some 108), (.addr 2 (.tmp 107)), (some (103, true)), true⟩, ⟨(some 109), (.load 1 false (.tmp 108)), (some (103, true)), true⟩, ⟨(some 110), (.pick (.tmp 103) (.tmp 109) (.val (.bool false))), none, true⟩]) (.cond (.tmp 110) (.seq (.reg none [⟨(some 2), (.mv (.val (.int .i64 4))), none, true⟩]) .ret) .skip)) (.seq (.reg none [⟨(some 2), (.mv (.val (.int .i64 0))), none, true⟩]) .ret))))))))
def R9 : List LRes := [(.tmp 2)]
theorem low9 : Try.f9.body.bind (lowerCode Try.prog 111) = some L9 := by kernel_rfl
theorem res9 : lowerRes Try.prog Try.f9.results.toList = some R9 := by kernel_rfl
set_option maxRecDepth 100000 in
def L10 : LC := (.seq (.reg none [⟨(some 2), (.box (.tmp 0)), none, true⟩, ⟨(some 4), (.alloc [(.int .i64 0), .nilsl, .nilsl]), none, true⟩, ⟨(some 5), (.mv (.val (.int .i64 0))), none, true⟩]) (.seq (.block 0 (.seq (.reg none [⟨(some 9), (.mv (.tmp 1)), none, true⟩, ⟨(some 10), (.call 27 [(.tmp 9), (.val (.int .i64 1)), (.val (.int .i64 20))] 0), none, true⟩, ⟨(some 11), (.not (.tmp 10)), none, true⟩, ⟨(some 8), (.mv (.tmp 11)), none, true⟩]) (.cond (.tmp 8) (.seq (.reg none [⟨(some 12), (.build [(.int .i64 0), .nilsl, .nilsl] []), none, true⟩, ⟨none, (.store 3 (.tmp 4) (.tmp 12)), none, true⟩, ⟨(some 5), (.mv (.val (.int .i64 3))), none, true⟩]) .ret) (.seq (.reg none [⟨(some 14), (.load 3 true (.tmp 2)), none, true⟩, ⟨(some 15), (.mv (.tmp 1)), none, true⟩, ⟨(some 16), (.call 29 [(.tmp 14), (.tmp 15)] 0), none, true⟩, ⟨(some 17), (.bin .geq (.tmp 16) (.val (.int .i64 0))), none, true⟩, ⟨(some 18), (.mv (.tmp 17)), none, true⟩, ⟨(some 19), (.addr 2 (.tmp 2)), (some (18, false)), true⟩, ⟨(some 20), (.load 1 false (.tmp 19)), (some (18, false)), true⟩, ⟨(some 21), (.mv (.tmp 1)), (some (18, false)), true⟩, ⟨(some 22), (.call 28 [(.tmp 20), (.tmp 21)] 0), (some (18, false)), true⟩, ⟨(some 23), (.pick (.tmp 18) (.val (.bool true)) (.tmp 22)), none, true⟩, ⟨(some 13), (.mv (.tmp 23)), none, true⟩]) (.cond (.tmp 13) (.seq (.reg none [⟨(some 24), (.build [(.int .i64 0), .nilsl, .nilsl] []), none, true⟩, ⟨none, (.store 3 (.tmp 4) (.tmp 24)), none, true⟩, ⟨(some 5), (.mv (.val (.int .i64 6))), none, true⟩]) .ret) (.seq (.reg none [⟨(some 26), (.addr 1 (.tmp 2)), none, true⟩, ⟨(some 27), (.load 1 false (.tmp 26)), none, true⟩, ⟨(some 28), (.len false (.tmp 27)), none, true⟩, ⟨(some 29), (.bin .eql (.tmp 28) (.val (.int .i64 8))), none, true⟩, ⟨(some 30), (.mv (.tmp 29)), none, true⟩, ⟨(some 31), (.addr 0 (.tmp 2)), (some (30, false)), true⟩, ⟨(some 32), (.load 1 false (.tmp 31)), (some (30, false)), true⟩, ⟨(some 33), (.bin .eql (.tmp 32) (.val (.int .i64 999))), (some (30, false)), true⟩, ⟨(some 34), (.pick (.tmp 30) (.val (.bool true)) (.tmp 33)), none, true⟩, ⟨(some 25), (.mv (.tmp 34)), none, true⟩]) (.cond (.tmp 25) (.seq (.reg none [⟨(some 35), (.build [(.int .i64 0), .nilsl, .nilsl] []), none, true⟩, ⟨none, (.store 3 (.tmp 4) (.tmp 35)), none, true⟩, ⟨(some 5), (.mv (.val (.int .i64 2))), none, true⟩]) .ret) .skip))))))) (.seq (.reg none [⟨(some 36), (.load 3 true (.tmp 2)), none, true⟩, ⟨(some 6), (.alloc [(.int .i64 0), .nilsl, .nilsl]), none, true⟩, ⟨none, (.store 3 (.tmp 6) (.tmp 36)), none, true⟩]) (.seq (.reg none [⟨(some 37), (.addr 0 (.tmp 6)), none, true⟩, ⟨(some 38), (.load 1 false (.tmp 37)), none, true⟩, ⟨(some 39), (.bin .add (.tmp 38) (.val (.int .i64 1))), none, true⟩, ⟨(some 40), (.addr 0 (.tmp 6)), none, true⟩, ⟨none, (.store 1 (.tmp 40) (.tmp 39)), none, true⟩]) (.seq (.reg (some [(0, 1), (0, 2), (0, 5), (3, 5), (0, 6), (3, 6)]) [⟨(some 41), (.mk0 48 3), none, false⟩, ⟨(some 42), (.addr 1 (.tmp 2)), none, false⟩, ⟨(some 43), (.load 1 false (.tmp 42)), none, false⟩, ⟨(some 44), (.append 48 3 24 (.tmp 41) (.tmp 43)), none, false⟩, ⟨(some 45), (.mv (.tmp 1)), none, true⟩, ⟨(some 46), (.addr 0 (.tmp 6)), none, false⟩, ⟨(some 47), (.load 1 false (.tmp 46)), none, false⟩, ⟨(some 48), (.build [(.int .i64 0), (.int .i64 0), (.bool false)] [(0, (1, (.tmp 45))), (1, (1, (.tmp 47)))]), none, true⟩, ⟨(some 49), (.mks 3 [(.int .i64 0), (.int .i64 0), (.bool false)] 1 [(0, (.tmp 48))]), none, true⟩, ⟨(some 50), (.append 48 3 24 (.tmp 44) (.tmp 49)), none, true⟩, ⟨(some 51), (.addr 1 (.tmp 6)), none, true⟩, ⟨none, (.store 1 (.tmp 51) (.tmp 50)), none, true⟩]) (.seq (.seq (.reg none [⟨(some 52), (.addr 1 (.tmp 6)), none, true⟩, ⟨(some 53), (.load 1 false (.tmp 52)), none, true⟩, ⟨(some 54), (.len false (.tmp 53)), none, true⟩, ⟨(some 55), (.bin .sub (.tmp 54) (.val (.int .i64 1))), none, true⟩, ⟨(some 7), (.mv (.tmp 55)), none, true⟩]) (.block 1 (.loop (.seq (.seq (.reg (some []) [⟨(some 56), (.mv (.tmp 7)), none, true⟩, ⟨(some 57), (.bin .gtr (.tmp 56) (.val (.int .i64 0))), none, true⟩, ⟨(some 58), (.mv (.tmp 57)), none, true⟩, ⟨(some 59), (.addr 1 (.tmp 6)), (some (58, true)), false⟩, ⟨(some 60), (.load 1 false (.tmp 59)), (some (58, true)), false⟩, ⟨(some 61), (.mv (.tmp 7)), (some (58, true)), true⟩, ⟨(some 62), (.iaddrS 3 (.tmp 60) (.tmp 61)), (some (58, true)), false⟩, ⟨(some 63), (.addr 0 (.tmp 62)), (some (58, true)), false⟩, ⟨(some 64), (.load 1 false (.tmp 63)), (some (58, true)), false⟩, ⟨(some 65), (.addr 1 (.tmp 6)), (some (58, true)), false⟩, ⟨(some 66), (.load 1 false (.tmp 65)), (some (58, true)), false⟩, ⟨(some 67), (.mv (.tmp 7)), (some (58, true)), true⟩, ⟨(some 68), (.bin .sub (.tmp 67) (.val (.int .i64 1))), (some (58, true)), true⟩, ⟨(some 69), (.iaddrS 3 (.tmp 66) (.tmp 68)), (some (58, true)), false⟩, ⟨(some 70), (.addr 0 (.tmp 69)), (some (58, true)), false⟩, ⟨(some 71), (.load 1 false (.tmp 70)), (some (58, true)), false⟩, ⟨(some 72), (.bin .lss (.tmp 64) (.tmp 71)), (some (58, true)), true⟩, ⟨(some 73), (.pick (.tmp 58) (.tmp 72) (.val (.bool false))), none, true⟩]) (.cond (.tmp 73) .skip (.exit 1))) (.seq (.block 2 (.reg (some [(3, 19), (4, 19)]) [⟨(some 76), (.addr 1 (.tmp 6)), none, false⟩, ⟨(some 77), (.load 1 false (.tmp 76)), none, false⟩, ⟨(some 78), (.mv (.tmp 7)), none, true⟩, ⟨(some 79), (.addr 1 (.tmp 6)), none, false⟩, ⟨(some 80), (.load 1 false (.tmp 79)), none, false⟩, ⟨(some 81), (.mv (.tmp 7)), none, true⟩, ⟨(some 82), (.bin .sub (.tmp 81) (.val (.int .i64 1))), none, true⟩, ⟨(some 83), (.addr 1 (.tmp 6)), none, false⟩, ⟨(some 84), (.load 1 false (.tmp 83)), none, false⟩, ⟨(some 85), (.mv (.tmp 7)), none, true⟩, ⟨(some 86), (.bin .sub (.tmp 85) (.val (.int .i64 1))), none, true⟩, ⟨(some 87), (.iaddrS 3 (.tmp 84) (.tmp 86)), none, false⟩, ⟨(some 88), (.load 3 true (.tmp 87)), none, false⟩, ⟨(some 89), (.addr 1 (.tmp 6)), none, false⟩, ⟨(some 90), (.load 1 false (.tmp 89)), none, false⟩, ⟨(some 91), (.mv (.tmp 7)), none, true⟩, ⟨(some 92), (.iaddrS 3 (.tmp 90) (.tmp 91)), none, false⟩, ⟨(some 93), (.load 3 true (.tmp 92)), none, false⟩, ⟨(some 94), (.iaddrS 3 (.tmp 77) (.tmp 78)), none, false⟩, ⟨none, (.store 3 (.tmp 94) (.tmp 88)), none, false⟩, ⟨(some 95), (.iaddrS 3 (.tmp 80) (.tmp 82)), none, true⟩, ⟨none, (.store 3 (.tmp 95) (.tmp 93)), none, true⟩])) (.reg none [⟨(some 74), (.mv (.tmp 7)), none, true⟩, ⟨(some 75), (.bin .sub (.tmp 74) (.val (.int .i64 1))), none, true⟩, ⟨(some 7), (.mv (.tmp 75)), none, true⟩])))))) (.seq (.reg none [⟨(some 96), (.load 3 true (.tmp 6)), none, true⟩, ⟨none, (.store 3 (.tmp 4) (.tmp 96)), none, true⟩, ⟨(some 5), (.mv (.val (.int .i64 0))), none, true⟩]) .ret)))))))
def R10 : List LRes := [(.cell 4 3 true), (.tmp 5)]
theorem low10 : Try.f10.body.bind (lowerCode Try.prog 97) = some L10 := by kernel_rfl
theorem res10 : lowerRes Try.prog Try.f10.results.toList = some R10 := by kernel_rfl
set_option maxRecDepth 100000 in
def L11 : LC := (.seq (.reg none [⟨(some 3), (.box (.tmp 0)), none, true⟩, ⟨(some 6), (.alloc [(.int .i64 0), .nilsl, .nilsl]), none, true⟩, ⟨(some 7), (.mv (.val (.int .i64 0))), none, true⟩]) (.seq (.seq (.reg none [⟨(some 11), (.mv (.tmp 1)), none, true⟩, ⟨(some 12), (.call 27 [(.tmp 11), (.val (.int .i64 1)), (.val (.int .i64 20))] 0), none, true⟩, ⟨(some 13), (.not (.tmp 12)), none, true⟩, ⟨(some 14), (.mv (.tmp 13)), none, true⟩, ⟨(some 15), (.mv (.tmp 2)), (some (14, false)), true⟩, ⟨(some 16), (.call 27 [(.tmp 15), (.val (.int .i64 1)), (.val (.int .i64 999))] 0), (some (14, false)), true⟩, ⟨(some 17), (.not (.tmp 16)), (some (14, false)), true⟩, ⟨(some 18), (.pick (.tmp 14) (.val (.bool true)) (.tmp 17)), none, true⟩]) (.cond (.tmp 18) (.seq (.reg none [⟨(some 19), (.build [(.int .i64 0), .nilsl, .nilsl] []), none, true⟩, ⟨none, (.store 3 (.tmp 6) (.tmp 19)), none, true⟩, ⟨(some 7), (.mv (.val (.int .i64 3))), none, true⟩]) .ret) .skip)) (.seq (.reg none [⟨(some 20), (.load 3 true (.tmp 3)), none, true⟩, ⟨(some 21), (.mv (.tmp 1)), none, true⟩, ⟨(some 22), (.call 29 [(.tmp 20), (.tmp 21)] 0), none, true⟩, ⟨(some 8), (.mv (.tmp 22)), none, true⟩]) (.seq (.seq (.reg none [⟨(some 23), (.mv (.tmp 8)), none, true⟩, ⟨(some 24), (.bin .lss (.tmp 23) (.val (.int .i64 0))), none, true⟩]) (.cond (.tmp 24) (.seq (.reg none [⟨(some 25), (.build [(.int .i64 0), .nilsl, .nilsl] []), none, true⟩, ⟨none, (.store 3 (.tmp 6) (.tmp 25)), none, true⟩, ⟨(some 7), (.mv (.val (.int .i64 5))), none, true⟩]) .ret) .skip)) (.seq (.seq (.reg none [⟨(some 26), (.addr 1 (.tmp 3)), none, true⟩, ⟨(some 27), (.load 1 false (.tmp 26)), none, true⟩, ⟨(some 28), (.mv (.tmp 8)), none, true⟩, ⟨(some 29), (.iaddrS 3 (.tmp 27) (.tmp 28)), none, true⟩, ⟨(some 30), (.addr 2 (.tmp 29)), none, true⟩, ⟨(some 31), (.load 1 false (.tmp 30)), none, true⟩, ⟨(some 32), (.mv (.tmp 31)), none, true⟩, ⟨(some 33), (.mv (.tmp 2)), (some (32, false)), true⟩, ⟨(some 34), (.addr 1 (.tmp 3)), (some (32, false)), true⟩, ⟨(some 35), (.load 1 false (.tmp 34)), (some (32, false)), true⟩, ⟨(some 36), (.mv (.tmp 8)), (some (32, false)), true⟩, ⟨(some 37), (.iaddrS 3 (.tmp 35) (.tmp 36)), (some (32, false)), true⟩, ⟨(some 38), (.addr 1 (.tmp 37)), (some (32, false)), true⟩, ⟨(some 39), (.load 1 false (.tmp 38)), (some (32, false)), true⟩, ⟨(some 40), (.bin .lss (.tmp 33) (.tmp 39)), (some (32, false)), true⟩, ⟨(some 41), (.pick (.tmp 32) (.val (.bool true)) (.tmp 40)), none, true⟩]) (.cond (.tmp 41) (.seq (.reg none [⟨(some 42), (.build [(.int .i64 0), .nilsl, .nilsl] []), none, true⟩, ⟨none, (.store 3 (.tmp 6) (.tmp 42)), none, true⟩, ⟨(some 7), (.mv (.val (.int .i64 4))), none, true⟩]) .ret) .skip)) (.seq (.reg none [⟨(some 43), (.load 3 true (.tmp 3)), none, true⟩, ⟨(some 9), (.alloc [(.int .i64 0), .nilsl, .nilsl]), none, true⟩, ⟨none, (.store 3 (.tmp 9) (.tmp 43)), none, true⟩]) (.seq (.seq (.reg none [⟨(some 44), (.mv (.tmp 2)), none, true⟩, ⟨(some 45), (.addr 0 (.tmp 3)), none, true⟩, ⟨(some 46), (.load 1 false (.tmp 45)), none, true⟩, ⟨(some 47), (.bin .gtr (.tmp 44) (.tmp 46)), none, true⟩]) (.cond (.tmp 47) (.reg none [⟨(some 48), (.mv (.tmp 2)), none, true⟩, ⟨(some 49), (.addr 0 (.tmp 9)), none, true⟩, ⟨none, (.store 1 (.tmp 49) (.tmp 48)), none, true⟩]) .skip)) (.seq (.regS [(48, 3), (3, 1)] [(0, 1), (0, 2), (0, 4), (1, 4), (2, 4), (3, 4), (0, 5), (3, 5), (4, 5), (0, 6), (3, 6), (4, 6), (4, 8), (7, 8)] [⟨(some 50), (.mk0i 48 3 0), none, false⟩, ⟨(some 51), (.addr 1 (.tmp 3)), none, false⟩, ⟨(some 52), (.load 1 false (.tmp 51)), none, false⟩, ⟨(some 53), (.append 48 3 24 (.tmp 50) (.tmp 52)), none, false⟩, ⟨(some 54), (.mk0i 3 1 1), none, false⟩, ⟨(some 55), (.addr 2 (.tmp 3)), none, false⟩, ⟨(some 56), (.load 1 false (.tmp 55)), none, false⟩, ⟨(some 57), (.append 3 1 8 (.tmp 54) (.tmp 56)), none, false⟩, ⟨(some 58), (.addr 1 (.tmp 9)), none, false⟩, ⟨none, (.store 1 (.tmp 58) (.tmp 53)), none, true⟩, ⟨(some 59), (.addr 2 (.tmp 9)), none, true⟩, ⟨none, (.store 1 (.tmp 59) (.tmp 57)), none, true⟩]) (.seq (.reg none [⟨(some 60), (.addr 1 (.tmp 9)), none, true⟩, ⟨(some 61), (.load 1 false (.tmp 60)), none, true⟩, ⟨(some 62), (.mv (.tmp 8)), none, true⟩, ⟨(some 63), (.mv (.tmp 1)), none, true⟩, ⟨(some 64), (.mv (.tmp 2)), none, true⟩, ⟨(some 65), (.build [(.int .i64 0), (.int .i64 0), (.bool false)] [(0, (1, (.tmp 63))), (1, (1, (.tmp 64))), (2, (1, (.val (.bool true))))]), none, true⟩, ⟨(some 66), (.iaddrS 3 (.tmp 61) (.tmp 62)), none, true⟩, ⟨none, (.store 3 (.tmp 66) (.tmp 65)), none, true⟩]) (.seq (.seq (.reg none [⟨(some 67), (.load 3 true (.tmp 9)), none, true⟩, ⟨(some 68), (.call 30 [(.tmp 67)] 0), none, true⟩, ⟨(some 10), (.mv (.tmp 68)), none, true⟩]) (.block 0 (.loop (.seq (.seq (.reg none [⟨(some 69), (.mv (.tmp 10)), none, true⟩, ⟨(some 70), (.bin .geq (.tmp 69) (.val (.int .i64 0))), none, true⟩, ⟨(some 71), (.mv (.tmp 70)), none, true⟩, ⟨(some 72), (.addr 1 (.tmp 9)), (some (71, true)), true⟩, ⟨(some 73), (.load 1 false (.tmp 72)), (some (71, true)), true⟩, ⟨(some 74), (.mv (.tmp 10)), (some (71, true)), true⟩, ⟨(some 75), (.iaddrS 3 (.tmp 73) (.tmp 74)), (some (71, true)), true⟩, ⟨(some 76), (.addr 2 (.tmp 75)), (some (71, true)), true⟩, ⟨(some 77), (.load 1 false (.tmp 76)), (some (71, true)), true⟩, ⟨(some 78), (.pick (.tmp 71) (.tmp 77) (.val (.bool false))), none, true⟩]) (.cond (.tmp 78) .skip (.exit 0))) (.seq (.block 1 (.seq (.reg (some []) [⟨(some 81), (.addr 2 (.tmp 9)), none, false⟩, ⟨(some 82), (.load 1 false (.tmp 81)), none, false⟩, ⟨(some 83), (.addr 1 (.tmp 9)), none, false⟩, ⟨(some 84), (.load 1 false (.tmp 83)), none, false⟩, ⟨(some 85), (.mv (.tmp 10)), none, true⟩, ⟨(some 86), (.iaddrS 3 (.tmp 84) (.tmp 85)), none, false⟩, ⟨(some 87), (.addr 0 (.tmp 86)), none, false⟩, ⟨(some 88), (.load 1 false (.tmp 87)), none, false⟩, ⟨(some 89), (.mks 1 [(.int .i64 0)] 1 [(0, (.tmp 88))]), none, true⟩, ⟨(some 90), (.append 3 1 8 (.tmp 82) (.tmp 89)), none, true⟩, ⟨(some 91), (.addr 2 (.tmp 9)), none, true⟩, ⟨none, (.store 1 (.tmp 91) (.tmp 90)), none, true⟩]) (.reg (some [(0, 1), (0, 2), (0, 4), (0, 6), (5, 6), (0, 7), (5, 7), (0, 10), (5, 10)]) [⟨(some 92), (.mk0 48 3), none, false⟩, ⟨(some 93), (.addr 1 (.tmp 9)), none, false⟩, ⟨(some 94), (.load 1 false (.tmp 93)), none, false⟩, ⟨(some 95), (.mv (.tmp 10)), none, true⟩, ⟨(some 96), (.slc 3 (.tmp 94) none (some (.tmp 95))), none, false⟩, ⟨(some 97), (.append 48 3 24 (.tmp 92) (.tmp 96)), none, false⟩, ⟨(some 98), (.addr 1 (.tmp 9)), none, false⟩, ⟨(some 99), (.load 1 false (.tmp 98)), none, false⟩, ⟨(some 100), (.mv (.tmp 10)), none, true⟩, ⟨(some 101), (.bin .add (.tmp 100) (.val (.int .i64 1))), none, true⟩, ⟨(some 102), (.slc 3 (.tmp 99) (some (.tmp 101)) none), none, false⟩, ⟨(some 103), (.append 48 3 24 (.tmp 97) (.tmp 102)), none, true⟩, ⟨(some 104), (.addr 1 (.tmp 9)), none, true⟩, ⟨none, (.store 1 (.tmp 104) (.tmp 103)), none, true⟩]))) (.reg none [⟨(some 79), (.load 3 true (.tmp 9)), none, true⟩, ⟨(some 80), (.call 30 [(.tmp 79)] 0), none, true⟩, ⟨(some 10), (.mv (.tmp 80)), none, true⟩])))))) (.seq (.seq (.reg none [⟨(some 105), (.addr 2 (.tmp 9)), none, true⟩, ⟨(some 106), (.load 1 false (.tmp 105)), none, true⟩, ⟨(some 107), (.len false (.tmp 106)), none, true⟩, ⟨(some 108), (.bin .gtr (.tmp 107) (.val (.int .i64 30))), none, true⟩]) (.cond (.tmp 108) (.seq (.reg none [⟨(some 109), (.build [(.int .i64 0), .nilsl, .nilsl] []), none, true⟩, ⟨none, (.store 3 (.tmp 6) (.tmp 109)), none, true⟩, ⟨(some 7), (.mv (.val (.int .i64 2))), none, true⟩]) .ret) .skip)) (.seq (.reg none [⟨(some 110), (.load 3 true (.tmp 9)), none, true⟩, ⟨none, (.store 3 (.tmp 6) (.tmp 110)), none, true⟩, ⟨(some 7), (.mv (.val (.int .i64 0))), none, true⟩]) .ret))))))))))))
def R11 : List LRes := [(.cell 6 3 true), (.tmp 7)]
theorem low11 : Try.f11.body.bind (lowerCode Try.prog 111) = some L11 := by kernel_rfl
theorem res11 : lowerRes Try.prog Try.f11.results.toList = some R11 := by kernel_rfl
set_option maxRecDepth 100000 in
def L12 : LC := (.seq (.reg none [⟨(some 6), (.mv (.val .nilsl)), none, true⟩, ⟨(some 7), (.mv (.val (.int .i64 0))), none, true⟩]) (.seq (.seq (.reg none [⟨(some 18), (.mv (.tmp 0)), none, true⟩, ⟨(some 19), (.len false (.tmp 18)), none, true⟩, ⟨(some 20), (.bin .neq (.tmp 19) (.val (.int .i64 3))), none, true⟩]) (.cond (.tmp 20) (.seq (.reg none [⟨(some 6), (.mv (.val .nilsl)), none, true⟩, ⟨(some 7), (.mv (.val (.int .i64 1))), none, true⟩]) .ret) .skip)) (.seq (.seq (.reg none [⟨(some 8), (.mv (.val (.int .i64 0))), none, true⟩]) (.block 0 (.loop (.seq (.seq (.reg none [⟨(some 21), (.mv (.tmp 8)), none, true⟩, ⟨(some 22), (.bin .lss (.tmp 21) (.val (.int .i64 3))), none, true⟩]) (.cond (.tmp 22) .skip (.exit 0))) (.seq (.block 1 (.seq (.reg none [⟨(some 25), (.mv (.tmp 0)), none, true⟩, ⟨(some 26), (.mv (.tmp 8)), none, true⟩, ⟨(some 27), (.iaddrS 3 (.tmp 25) (.tmp 26)), none, true⟩, ⟨(some 28), (.load 3 true (.tmp 27)), none, true⟩, ⟨(some 29), (.call 9 [(.tmp 28)] 0), none, true⟩, ⟨(some 9), (.mv (.tmp 29)), none, true⟩]) (.seq (.reg none [⟨(some 30), (.mv (.tmp 9)), none, true⟩, ⟨(some 31), (.bin .neq (.tmp 30) (.val (.int .i64 0))), none, true⟩]) (.cond (.tmp 31) (.seq (.reg none [⟨(some 32), (.mv (.tmp 9)), none, true⟩, ⟨(some 6), (.mv (.val .nilsl)), none, true⟩, ⟨(some 7), (.mv (.tmp 32)), none, true⟩]) .ret) .skip)))) (.reg none [⟨(some 23), (.mv (.tmp 8)), none, true⟩, ⟨(some 24), (.bin .add (.tmp 23) (.val (.int .i64 1))), none, true⟩, ⟨(some 8), (.mv (.tmp 24)), none, true⟩])))))) (.seq (.seq (.reg none [⟨(some 33), (.mv (.tmp 2)), none, true⟩, ⟨(some 34), (.call 27 [(.tmp 33), (.val (.int .i64 1)), (.val (.int .i64 7))] 0), none, true⟩, ⟨(some 35), (.not (.tmp 34)), none, true⟩]) (.cond (.tmp 35) (.seq (.reg none [⟨(some 6), (.mv (.val .nilsl)), none, true⟩, ⟨(some 7), (.mv (.val (.int .i64 3))), none, true⟩]) .ret) .skip)) (.seq (.reg none [⟨(some 36), (.mk0 25 3), none, true⟩, ⟨(some 37), (.mv (.tmp 0)), none, true⟩, ⟨(some 38), (.append 25 3 56 (.tmp 36) (.tmp 37)), none, true⟩, ⟨(some 10), (.mv (.tmp 38)), none, true⟩]) (.seq (.reg none [⟨(some 11), (.mv (.val (.int .i64 0))), none, true⟩]) (.seq (.seq (.reg none [⟨(some 12), (.mv (.val (.int .i64 0))), none, true⟩]) (.block 2 (.loop (.seq (.seq (.reg none [⟨(some 39), (.mv (.tmp 12)), none, true⟩, ⟨(some 40), (.bin .lss (.tmp 39) (.val (.int .i64 3))), none, true⟩]) (.cond (.tmp 40) .skip (.exit 2))) (.seq (.block 3 (.seq (.reg none [⟨(some 43), (.mv (.tmp 2)), none, true⟩, ⟨(some 44), (.mv (.tmp 12)), none, true⟩, ⟨(some 45), (.call 17 [(.tmp 43), (.tmp 44)] 0), none, true⟩]) (.cond (.tmp 45) (.seq (.reg none [⟨(some 47), (.mv (.tmp 10)), none, true⟩, ⟨(some 48), (.mv (.tmp 12)), none, true⟩, ⟨(some 49), (.iaddrS 3 (.tmp 47) (.tmp 48)), none, true⟩, ⟨(some 50), (.load 3 true (.tmp 49)), none, true⟩, ⟨(some 51), (.mv (.tmp 1)), none, true⟩, ⟨(some 52), (.call 10 [(.tmp 50), (.tmp 51)] 0), none, true⟩, ⟨(some 46), (.mv (.tmp 52)), none, true⟩, ⟨(some 53), (.ext 0 (.tmp 46)), none, true⟩, ⟨(some 54), (.ext 1 (.tmp 46)), none, true⟩, ⟨(some 13), (.alloc [(.int .i64 0), .nilsl, .nilsl]), none, true⟩, ⟨none, (.store 3 (.tmp 13) (.tmp 53)), none, true⟩, ⟨(some 14), (.mv (.tmp 54)), none, true⟩]) (.seq (.seq (.reg none [⟨(some 55), (.mv (.tmp 14)), none, true⟩, ⟨(some 56), (.bin .neq (.tmp 55) (.val (.int .i64 0))), none, true⟩]) (.cond (.tmp 56) (.seq (.reg none [⟨(some 57), (.mv (.tmp 14)), none, true⟩, ⟨(some 6), (.mv (.val .nilsl)), none, true⟩, ⟨(some 7), (.mv (.tmp 57)), none, true⟩]) .ret) .skip)) (.seq (.reg none [⟨(some 58), (.mv (.tmp 10)), none, true⟩, ⟨(some 59), (.mv (.tmp 12)), none, true⟩, ⟨(some 60), (.load 3 true (.tmp 13)), none, true⟩, ⟨(some 61), (.iaddrS 3 (.tmp 58) (.tmp 59)), none, true⟩, ⟨none, (.store 3 (.tmp 61) (.tmp 60)), none, true⟩]) (.seq (.reg none [⟨(some 62), (.addr 0 (.tmp 13)), none, true⟩, ⟨(some 63), (.load 1 false (.tmp 62)), none, true⟩, ⟨(some 64), (.mv (.tmp 11)), none, true⟩, ⟨(some 65), (.bin .gtr (.tmp 63) (.tmp 64)), none, true⟩]) (.cond (.tmp 65) (.reg none [⟨(some 66), (.addr 0 (.tmp 13)), none, true⟩, ⟨(some 67), (.load 1 false (.tmp 66)), none, true⟩, ⟨(some 11), (.mv (.tmp 67)), none, true⟩]) .skip))))) .skip))) (.reg none [⟨(some 41), (.mv (.tmp 12)), none, true⟩, ⟨(some 42), (.bin .add (.tmp 41) (.val (.int .i64 1))), none, true⟩, ⟨(some 12), (.mv (.tmp 42)), none, true⟩])))))) (.seq (.seq (.reg none [⟨(some 15), (.mv (.val (.int .i64 0))), none, true⟩]) (.block 4 (.loop (.seq (.seq (.reg none [⟨(some 68), (.mv (.tmp 15)), none, true⟩, ⟨(some 69), (.bin .lss (.tmp 68) (.val (.int .i64 3))), none, true⟩]) (.cond (.tmp 69) .skip (.exit 4))) (.seq (.block 5 (.seq (.reg none [⟨(some 72), (.mv (.tmp 2)), none, true⟩, ⟨(some 73), (.mv (.tmp 15)), none, true⟩, ⟨(some 74), (.call 17 [(.tmp 72), (.tmp 73)] 0), none, true⟩]) (.cond (.tmp 74) (.seq (.reg none [⟨(some 76), (.mv (.tmp 10)), none, true⟩, ⟨(some 77), (.mv (.tmp 15)), none, true⟩, ⟨(some 78), (.iaddrS 3 (.tmp 76) (.tmp 77)), none, true⟩, ⟨(some 79), (.load 3 true (.tmp 78)), none, true⟩, ⟨(some 80), (.mv (.tmp 1)), none, true⟩, ⟨(some 81), (.mv (.tmp 11)), none, true⟩, ⟨(some 82), (.call 11 [(.tmp 79), (.tmp 80), (.tmp 81)] 0), none, true⟩, ⟨(some 75), (.mv (.tmp 82)), none, true⟩, ⟨(some 83), (.ext 0 (.tmp 75)), none, true⟩, ⟨(some 84), (.ext 1 (.tmp 75)), none, true⟩, ⟨(some 16), (.alloc [(.int .i64 0), .nilsl, .nilsl]), none, true⟩, ⟨none, (.store 3 (.tmp 16) (.tmp 83)), none, true⟩, ⟨(some 17), (.mv (.tmp 84)), none, true⟩]) (.seq (.seq (.reg none [⟨(some 85), (.mv (.tmp 17)), none, true⟩, ⟨(some 86), (.bin .neq (.tmp 85) (.val (.int .i64 0))), none, true⟩]) (.cond (.tmp 86) (.seq (.reg none [⟨(some 87), (.mv (.tmp 17)), none, true⟩, ⟨(some 6), (.mv (.val .nilsl)), none, true⟩, ⟨(some 7), (.mv (.tmp 87)), none, true⟩]) .ret) .skip)) (.reg none [⟨(some 88), (.mv (.tmp 10)), none, true⟩, ⟨(some 89), (.mv (.tmp 15)), none, true⟩, ⟨(some 90), (.load 3 true (.tmp 16)), none, true⟩, ⟨(some 91), (.iaddrS 3 (.tmp 88) (.tmp 89)), none, true⟩, ⟨none, (.store 3 (.tmp 91) (.tmp 90)), none, true⟩]))) .skip))) (.reg none [⟨(some 70), (.mv (.tmp 15)), none, true⟩, ⟨(some 71), (.bin .add (.tmp 70) (.val (.int .i64 1))), none, true⟩, ⟨(some 15), (.mv (.tmp 71)), none, true⟩])))))) (.seq (.reg none [⟨(some 92), (.mv (.tmp 10)), none, true⟩, ⟨(some 6), (.mv (.tmp 92)), none, true⟩, ⟨(some 7), (.mv (.val (.int .i64 0))), none, true⟩]) .ret)))))))))
def R12 : List LRes := [(.tmp 6), (.tmp 7)]
theorem low12 : Try.f12.body.bind (lowerCode Try.prog 93) = some L12 := by kernel_rfl
theorem res12 : lowerRes Try.prog Try.f12.results.toList = some R12 := by kernel_rfl
set_option maxRecDepth 100000 in
def L13 : LC := (.seq (.reg none [⟨(some 0), (.mv (.val (.bool false))), none, true⟩]) (.seq (.reg none [⟨(some 9), (.build [(.int .i64 0), .nilsl, .nilsl] [(0, (1, (.val (.int .i64 4))))]), none, true⟩, ⟨(some 10), (.call 6 [(.tmp 9), (.val (.int .i64 7))] 0), none, true⟩, ⟨(some 8), (.mv (.tmp 10)), none, true⟩, ⟨(some 11), (.ext 0 (.tmp 8)), none, true⟩, ⟨(some 12), (.ext 1 (.tmp 8)), none, true⟩, ⟨(some 13), (.ext 2 (.tmp 8)), none, true⟩, ⟨(some 1), (.alloc [(.int .i64 0), .nilsl, .nilsl]), none, true⟩, ⟨none, (.store 3 (.tmp 1) (.tmp 11)), none, true⟩, ⟨(some 2), (.mv (.tmp 12)), none, true⟩, ⟨(some 3), (.mv (.tmp 13)), none, true⟩]) (.seq (.reg none [⟨(some 15), (.load 3 true (.tmp 1)), none, true⟩, ⟨(some 16), (.call 7 [(.tmp 15), (.val (.int .i64 7)), (.val (.int .i64 9))] 0), none, true⟩, ⟨(some 14), (.mv (.tmp 16)), none, true⟩, ⟨(some 17), (.ext 0 (.tmp 14)), none, true⟩, ⟨(some 18), (.ext 1 (.tmp 14)), none, true⟩, ⟨(some 4), (.alloc [(.int .i64 0), .nilsl, .nilsl]), none, true⟩, ⟨none, (.store 3 (.tmp 4) (.tmp 17)), none, true⟩, ⟨(some 5), (.mv (.tmp 18)), none, true⟩]) (.seq (.reg none [⟨(some 20), (.build [(.int .i64 0), .nilsl, .nilsl] [(0, (1, (.val (.int .i64 3))))]), none, true⟩, ⟨(some 21), (.build [(.int .i64 0), .nilsl, .nilsl] []), none, true⟩, ⟨(some 22), (.build [(.int .i64 0), .nilsl, .nilsl] [(0, (1, (.val (.int .i64 1))))]), none, true⟩, ⟨(some 23), (.mks 3 [(.int .i64 0), .nilsl, .nilsl] 3 [(0, (.tmp 20)), (1, (.tmp 21)), (2, (.tmp 22))]), none, true⟩, ⟨(some 24), (.call 8 [(.tmp 23), (.val (.int .i64 2)), (.val (.int .i64 5))] 0), none, true⟩, ⟨(some 19), (.mv (.tmp 24)), none, true⟩, ⟨(some 25), (.ext 0 (.tmp 19)), none, true⟩, ⟨(some 26), (.ext 1 (.tmp 19)), none, true⟩, ⟨(some 6), (.mv (.tmp 25)), none, true⟩, ⟨(some 7), (.mv (.tmp 26)), none, true⟩]) (.seq (.reg none [⟨(some 27), (.load 3 true (.tmp 1)), none, true⟩, ⟨(some 28), (.call 14 [(.tmp 27)] 0), none, true⟩, ⟨(some 29), (.bin .eql (.tmp 28) (.val (.int .i64 0))), none, true⟩, ⟨(some 30), (.mv (.tmp 29)), none, true⟩, ⟨(some 31), (.mv (.tmp 3)), (some (30, true)), true⟩, ⟨(some 32), (.bin .eql (.tmp 31) (.val (.int .i64 0))), (some (30, true)), true⟩, ⟨(some 33), (.pick (.tmp 30) (.tmp 32) (.val (.bool false))), none, true⟩, ⟨(some 34), (.mv (.tmp 33)), none, true⟩, ⟨(some 35), (.mv (.tmp 5)), (some (34, true)), true⟩, ⟨(some 36), (.bin .eql (.tmp 35) (.val (.int .i64 0))), (some (34, true)), true⟩, ⟨(some 37), (.pick (.tmp 34) (.tmp 36) (.val (.bool false))), none, true⟩, ⟨(some 38), (.mv (.tmp 37)), none, true⟩, ⟨(some 39), (.mv (.tmp 7)), (some (38, true)), true⟩, ⟨(some 40), (.bin .eql (.tmp 39) (.val (.int .i64 0))), (some (38, true)), true⟩, ⟨(some 41), (.pick (.tmp 38) (.tmp 40) (.val (.bool false))), none, true⟩, ⟨(some 42), (.mv (.tmp 41)), none, true⟩, ⟨(some 43), (.mv (.tmp 2)), (some (42, true)), true⟩, ⟨(some 44), (.bin .eql (.tmp 43) (.val (.int .i64 5))), (some (42, true)), true⟩, ⟨(some 45), (.pick (.tmp 42) (.tmp 44) (.val (.bool false))), none, true⟩, ⟨(some 46), (.mv (.tmp 45)), none, true⟩, ⟨(some 47), (.addr 0 (.tmp 4)), (some (46, true)), true⟩, ⟨(some 48), (.load 1 false (.tmp 47)), (some (46, true)), true⟩, ⟨(some 49), (.bin .eql (.tmp 48) (.val (.int .i64 9))), (some (46, true)), true⟩, ⟨(some 50), (.pick (.tmp 46) (.tmp 49) (.val (.bool false))), none, true⟩, ⟨(some 51), (.mv (.tmp 50)), none, true⟩, ⟨(some 52), (.addr 2 (.tmp 4)), (some (51, true)), true⟩, ⟨(some 53), (.load 1 false (.tmp 52)), (some (51, true)), true⟩, ⟨(some 54), (.len false (.tmp 53)), (some (51, true)), true⟩, ⟨(some 55), (.bin .eql (.tmp 54) (.val (.int .i64 1))), (some (51, true)), true⟩, ⟨(some 56), (.pick (.tmp 51) (.tmp 55) (.val (.bool false))), none, true⟩, ⟨(some 57), (.mv (.tmp 56)), none, true⟩, ⟨(some 58), (.addr 1 (.tmp 4)), (some (57, true)), true⟩, ⟨(some 59), (.load 1 false (.tmp 58)), (some (57, true)), true⟩, ⟨(some 60), (.len false (.tmp 59)), (some (57, true)), true⟩, ⟨(some 61), (.bin .eql (.tmp 60) (.val (.int .i64 0))), (some (57, true)), true⟩, ⟨(some 62), (.pick (.tmp 57) (.tmp 61) (.val (.bool false))), none, true⟩, ⟨(some 63), (.mv (.tmp 62)), none, true⟩, ⟨(some 64), (.mv (.tmp 6)), (some (63, true)), true⟩, ⟨(some 65), (.len false (.tmp 64)), (some (63, true)), true⟩, ⟨(some 66), (.bin .eql (.tmp 65) (.val (.int .i64 3))), (some (63, true)), true⟩, ⟨(some 67), (.pick (.tmp 63) (.tmp 66) (.val (.bool false))), none, true⟩, ⟨(some 68), (.mv (.tmp 67)), none, true⟩, ⟨(some 69), (.mv (.tmp 6)), (some (68, true)), true⟩, ⟨(some 70), (.iaddrS 3 (.tmp 69) (.val (.int .i64 0))), (some (68, true)), true⟩, ⟨(some 71), (.addr 0 (.tmp 70)), (some (68, true)), true⟩, ⟨(some 72), (.load 1 false (.tmp 71)), (some (68, true)), true⟩, ⟨(some 73), (.bin .eql (.tmp 72) (.val (.int .i64 4))), (some (68, true)), true⟩, ⟨(some 74), (.pick (.tmp 68) (.tmp 73) (.val (.bool false))), none, true⟩, ⟨(some 75), (.mv (.tmp 74)), none, true⟩, ⟨(some 76), (.mv (.tmp 6)), (some (75, true)), true⟩, ⟨(some 77), (.iaddrS 3 (.tmp 76) (.val (.int .i64 2))), (some (75, true)), true⟩, ⟨(some 78), (.addr 0 (.tmp 77)), (some (75, true)), true⟩, ⟨(some 79), (.load 1 false (.tmp 78)), (some (75, true)), true⟩, ⟨(some 80), (.bin .eql (.tmp 79) (.val (.int .i64 4))), (some (75, true)), true⟩, ⟨(some 81), (.pick (.tmp 75) (.tmp 80) (.val (.bool false))), none, true⟩, ⟨(some 82), (.mv (.tmp 81)), none, true⟩, ⟨(some 83), (.mv (.tmp 6)), (some (82, true)), true⟩, ⟨(some 84), (.iaddrS 3 (.tmp 83) (.val (.int .i64 1))), (some (82, true)), true⟩, ⟨(some 85), (.addr 2 (.tmp 84)), (some (82, true)), true⟩, ⟨(some 86), (.load 1 false (.tmp 85)), (some (82, true)), true⟩, ⟨(some 87), (.len false (.tmp 86)), (some (82, true)), true⟩, ⟨(some 88), (.bin .eql (.tmp 87) (.val (.int .i64 0))), (some (82, true)), true⟩, ⟨(some 89), (.pick (.tmp 82) (.tmp 88) (.val (.bool false))), none, true⟩, ⟨(some 90), (.mv (.tmp 89)), none, true⟩, ⟨(some 91), (.mv (.tmp 6)), (some (90, true)), true⟩, ⟨(some 92), (.iaddrS 3 (.tmp 91) (.val (.int .i64 2))), (some (90, true)), true⟩, ⟨(some 93), (.addr 2 (.tmp 92)), (some (90, true)), true⟩, ⟨(some 94), (.load 1 false (.tmp 93)), (some (90, true)), true⟩, ⟨(some 95), (.len false (.tmp 94)), (some (90, true)), true⟩, ⟨(some 96), (.bin .eql (.tmp 95) (.val (.int .i64 1))), (some (90, true)), true⟩, ⟨(some 97), (.pick (.tmp 90) (.tmp 96) (.val (.bool false))), none, true⟩, ⟨(some 0), (.mv (.tmp 97)), none, true⟩]) .ret)))))
def R13 : List LRes := [(.tmp 0)]
theorem low13 : Try.f13.body.bind (lowerCode Try.prog 98) = some L13 := by kernel_rfl
theorem res13 : lowerRes Try.prog Try.f13.results.toList = some R13 := by kernel_rfl
set_option maxRecDepth 100000 in
def L14 : LC := (.seq (.reg none [⟨(some 1), (.box (.tmp 0)), none, true⟩, ⟨(some 2), (.mv (.val (.int .i64 0))), none, true⟩]) (.seq (.block 0 (.seq (.reg none [⟨(some 8), (.addr 0 (.tmp 1)), none, true⟩, ⟨(some 9), (.load 1 false (.tmp 8)), none, true⟩, ⟨(some 10), (.call 31 [(.tmp 9), (.val (.int .i64 0)), (.val (.int .i64 999))] 0), none, true⟩, ⟨(some 11), (.not (.tmp 10)), none, true⟩, ⟨(some 7), (.mv (.tmp 11)), none, true⟩]) (.cond (.tmp 7) (.seq (.reg none [⟨(some 2), (.mv (.val (.int .i64 3))), none, true⟩]) .ret) (.seq (.reg none [⟨(some 13), (.addr 1 (.tmp 1)), none, true⟩, ⟨(some 14), (.load 1 false (.tmp 13)), none, true⟩, ⟨(some 15), (.len false (.tmp 14)), none, true⟩, ⟨(some 16), (.bin .gtr (.tmp 15) (.val (.int .i64 8))), none, true⟩, ⟨(some 17), (.mv (.tmp 16)), none, true⟩, ⟨(some 18), (.addr 2 (.tmp 1)), (some (17, false)), true⟩, ⟨(some 19), (.load 1 false (.tmp 18)), (some (17, false)), true⟩, ⟨(some 20), (.len false (.tmp 19)), (some (17, false)), true⟩, ⟨(some 21), (.bin .gtr (.tmp 20) (.val (.int .i64 30))), (some (17, false)), true⟩, ⟨(some 22), (.pick (.tmp 17) (.val (.bool true)) (.tmp 21)), none, true⟩, ⟨(some 12), (.mv (.tmp 22)), none, true⟩]) (.cond (.tmp 12) (.seq (.reg none [⟨(some 2), (.mv (.val (.int .i64 2))), none, true⟩]) .ret) .skip))))) (.seq (.seq (.reg none [⟨(some 23), (.addr 1 (.tmp 1)), none, true⟩, ⟨(some 24), (.load 1 false (.tmp 23)), none, true⟩, ⟨(some 25), (.len false (.tmp 24)), none, true⟩, ⟨(some 26), (.mv (.val (.int .i64 0))), none, true⟩]) (.block 1 (.loop (.seq (.reg none [⟨(some 27), (.bin .lss (.tmp 26) (.tmp 25)), none, true⟩]) (.seq (.cond (.tmp 27) .skip (.exit 1)) (.seq (.block 2 (.seq (.reg none [⟨(some 28), (.mv (.tmp 26)), none, true⟩, ⟨(some 29), (.iaddrS 3 (.tmp 24) (.tmp 26)), none, true⟩, ⟨(some 30), (.load 3 true (.tmp 29)), none, true⟩, ⟨(some 4), (.alloc [(.int .i64 0), (.int .i64 0), (.bool false)]), none, true⟩, ⟨(some 3), (.mv (.tmp 28)), none, true⟩, ⟨none, (.store 3 (.tmp 4) (.tmp 30)), none, true⟩]) (.block 3 (.seq (.reg none [⟨(some 32), (.addr 0 (.tmp 4)), none, true⟩, ⟨(some 33), (.load 1 false (.tmp 32)), none, true⟩, ⟨(some 34), (.call 32 [(.tmp 33)] 0), none, true⟩, ⟨(some 35), (.not (.tmp 34)), none, true⟩, ⟨(some 36), (.mv (.tmp 35)), none, true⟩, ⟨(some 37), (.addr 1 (.tmp 4)), (some (36, false)), true⟩, ⟨(some 38), (.load 1 false (.tmp 37)), (some (36, false)), true⟩, ⟨(some 39), (.addr 0 (.tmp 1)), (some (36, false)), true⟩, ⟨(some 40), (.load 1 false (.tmp 39)), (some (36, false)), true⟩, ⟨(some 41), (.call 31 [(.tmp 38), (.val (.int .i64 1)), (.tmp 40)] 0), (some (36, false)), true⟩, ⟨(some 42), (.not (.tmp 41)), (some (36, false)), true⟩, ⟨(some 43), (.pick (.tmp 36) (.val (.bool true)) (.tmp 42)), none, true⟩, ⟨(some 31), (.mv (.tmp 43)), none, true⟩]) (.cond (.tmp 31) (.seq (.reg none [⟨(some 2), (.mv (.val (.int .i64 3))), none, true⟩]) .ret) (.seq (.reg (some []) [⟨(some 45), (.mv (.tmp 3)), none, true⟩, ⟨(some 46), (.bin .gtr (.tmp 45) (.val (.int .i64 0))), none, true⟩, ⟨(some 47), (.mv (.tmp 46)), none, true⟩, ⟨(some 48), (.addr 1 (.tmp 1)), (some (47, true)), false⟩, ⟨(some 49), (.load 1 false (.tmp 48)), (some (47, true)), false⟩, ⟨(some 50), (.mv (.tmp 3)), (some (47, true)), true⟩, ⟨(some 51), (.bin .sub (.tmp 50) (.val (.int .i64 1))), (some (47, true)), true⟩, ⟨(some 52), (.iaddrS 3 (.tmp 49) (.tmp 51)), (some (47, true)), false⟩, ⟨(some 53), (.addr 0 (.tmp 52)), (some (47, true)), false⟩, ⟨(some 54), (.load 1 false (.tmp 53)), (some (47, true)), false⟩, ⟨(some 55), (.addr 0 (.tmp 4)), (some (47, true)), false⟩, ⟨(some 56), (.load 1 false (.tmp 55)), (some (47, true)), false⟩, ⟨(some 57), (.bin .geq (.tmp 54) (.tmp 56)), (some (47, true)), true⟩, ⟨(some 58), (.pick (.tmp 47) (.tmp 57) (.val (.bool false))), none, true⟩, ⟨(some 44), (.mv (.tmp 58)), none, true⟩]) (.cond (.tmp 44) (.seq (.reg none [⟨(some 2), (.mv (.val (.int .i64 4))), none, true⟩]) .ret) .skip))))))) (.reg none [⟨(some 59), (.bin .add (.tmp 26) (.val (.int .i64 1))), none, true⟩, ⟨(some 26), (.mv (.tmp 59)), none, true⟩]))))))) (.seq (.seq (.reg none [⟨(some 60), (.load 3 true (.tmp 1)), none, true⟩, ⟨(some 61), (.call 33 [(.tmp 60)] 0), none, true⟩, ⟨(some 5), (.mv (.tmp 61)), none, true⟩]) (.seq (.reg none [⟨(some 62), (.mv (.tmp 5)), none, true⟩, ⟨(some 63), (.bin .neq (.tmp 62) (.val (.int .i64 0))), none, true⟩]) (.cond (.tmp 63) (.seq (.reg none [⟨(some 64), (.mv (.tmp 5)), none, true⟩, ⟨(some 2), (.mv (.tmp 64)), none, true⟩]) .ret) .skip))) (.seq (.seq (.reg none [⟨(some 65), (.addr 1 (.tmp 1)), none, true⟩, ⟨(some 66), (.load 1 false (.tmp 65)), none, true⟩, ⟨(some 67), (.call 34 [(.tmp 66)] 0), none, true⟩, ⟨(some 6), (.mv (.tmp 67)), none, true⟩]) (.seq (.reg none [⟨(some 68), (.mv (.tmp 6)), none, true⟩, ⟨(some 69), (.bin .geq (.tmp 68) (.val (.int .i64 0))), none, true⟩, ⟨(some 70), (.mv (.tmp 69)), none, true⟩, ⟨(some 71), (.addr 1 (.tmp 1)), (some (70, true)), true⟩, ⟨(some 72), (.load 1 false (.tmp 71)), (some (70, true)), true⟩, ⟨(some 73), (.mv (.tmp 6)), (some (70, true)), true⟩, ⟨(some 74), (.iaddrS 3 (.tmp 72) (.tmp 73)), (some (70, true)), true⟩, ⟨(some 75), (.addr 2 (.tmp 74)), (some (70, true)), true⟩, ⟨(some 76), (.load 1 false (.tmp 75)), (some (70, true)), true⟩, ⟨(some 77), (.pick (.tmp 70) (.tmp 76) (.val (.bool false))), none, true⟩]) (.cond (.tmp 77) (.seq (.reg none [⟨(some 2), (.mv (.val (.int .i64 4))), none, true⟩]) .ret) .skip))) (.seq (.reg none [⟨(some 2), (.mv (.val (.int .i64 0))), none, true⟩]) .ret))))))
def R14 : List LRes := [(.tmp 2)]
theorem low14 : Try.f14.body.bind (lowerCode Try.prog 78) = some L14 := by kernel_rfl
theorem res14 : lowerRes Try.prog Try.f14.results.toList = some R14 := by kernel_rfl
set_option maxRecDepth 100000 in
def L15 : LC := (.seq (.reg none [⟨(some 4), (.box (.tmp 0)), none, true⟩, ⟨(some 7), (.box (.tmp 3)), none, true⟩, ⟨(some 8), (.mv (.val (.bool false))), none, true⟩]) (.seq (.seq (.reg none [⟨(some 9), (.mv (.tmp 2)), none, true⟩, ⟨(some 10), (.bin .neq (.tmp 9) (.val (.int .i64 0))), none, true⟩]) (.cond (.tmp 10) (.reg none [⟨(some 11), (.build [(.int .i64 0), .nilsl, .nilsl] []), none, true⟩, ⟨none, (.store 3 (.tmp 7) (.tmp 11)), none, true⟩]) .skip)) (.seq (.reg none [⟨(some 12), (.mv (.tmp 1)), none, true⟩, ⟨(some 13), (.mv (.tmp 2)), none, true⟩, ⟨(some 14), (.bin .eql (.tmp 12) (.tmp 13)), none, true⟩, ⟨(some 15), (.mv (.tmp 14)), none, true⟩, ⟨(some 16), (.load 3 true (.tmp 4)), (some (15, true)), true⟩, ⟨(some 17), (.load 3 true (.tmp 7)), (some (15, true)), true⟩, ⟨(some 18), (.call 35 [(.tmp 16), (.tmp 17)] 0), (some (15, true)), true⟩, ⟨(some 19), (.pick (.tmp 15) (.tmp 18) (.val (.bool false))), none, true⟩, ⟨(some 8), (.mv (.tmp 19)), none, true⟩]) .ret)))
def R15 : List LRes := [(.tmp 8)]
theorem low15 : Try.f15.body.bind (lowerCode Try.prog 20) = some L15 := by kernel_rfl
theorem res15 : lowerRes Try.prog Try.f15.results.toList = some R15 := by kernel_rfl
set_option maxRecDepth 100000 in
def L16 : LC := (.seq (.reg none [⟨(some 4), (.mv (.val (.bool false))), none, true⟩]) (.seq (.seq (.reg none [⟨(some 6), (.mv (.tmp 0)), none, true⟩, ⟨(some 7), (.len false (.tmp 6)), none, true⟩, ⟨(some 8), (.mv (.tmp 1)), none, true⟩, ⟨(some 9), (.len false (.tmp 8)), none, true⟩, ⟨(some 10), (.bin .neq (.tmp 7) (.tmp 9)), none, true⟩]) (.cond (.tmp 10) (.seq (.reg none [⟨(some 4), (.mv (.val (.bool false))), none, true⟩]) .ret) .skip)) (.seq (.seq (.reg none [⟨(some 5), (.mv (.val (.int .i64 0))), none, true⟩]) (.block 0 (.loop (.seq (.seq (.reg none [⟨(some 11), (.mv (.tmp 5)), none, true⟩, ⟨(some 12), (.mv (.tmp 0)), none, true⟩, ⟨(some 13), (.len false (.tmp 12)), none, true⟩, ⟨(some 14), (.bin .lss (.tmp 11) (.tmp 13)), none, true⟩]) (.cond (.tmp 14) .skip (.exit 0))) (.seq (.block 1 (.seq (.reg (some []) [⟨(some 17), (.mv (.tmp 0)), none, true⟩, ⟨(some 18), (.mv (.tmp 5)), none, true⟩, ⟨(some 19), (.iaddrS 3 (.tmp 17) (.tmp 18)), none, false⟩, ⟨(some 20), (.load 3 true (.tmp 19)), none, false⟩, ⟨(some 21), (.mv (.tmp 1)), none, true⟩, ⟨(some 22), (.mv (.tmp 5)), none, true⟩, ⟨(some 23), (.iaddrS 3 (.tmp 21) (.tmp 22)), none, false⟩, ⟨(some 24), (.load 3 true (.tmp 23)), none, false⟩, ⟨(some 25), (.call 35 [(.tmp 20), (.tmp 24)] 0), none, true⟩, ⟨(some 26), (.not (.tmp 25)), none, true⟩]) (.cond (.tmp 26) (.seq (.reg none [⟨(some 4), (.mv (.val (.bool false))), none, true⟩]) .ret) .skip))) (.reg none [⟨(some 15), (.mv (.tmp 5)), none, true⟩, ⟨(some 16), (.bin .add (.tmp 15) (.val (.int .i64 1))), none, true⟩, ⟨(some 5), (.mv (.tmp 16)), none, true⟩])))))) (.seq (.reg none [⟨(some 4), (.mv (.val (.bool true))), none, true⟩]) .ret))))
def R16 : List LRes := [(.tmp 4)]
theorem low16 : Try.f16.body.bind (lowerCode Try.prog 27) = some L16 := by kernel_rfl
theorem res16 : lowerRes Try.prog Try.f16.results.toList = some R16 := by kernel_rfl
set_option maxRecDepth 100000 in
def L17 : LC := (.seq (.reg none [⟨(some 4), (.mv (.val (.bool false))), none, true⟩]) (.seq (.reg none [⟨(some 6), (.mks 1 [(.int .i64 0)] 3 [(0, (.val (.int .i64 1))), (1, (.val (.int .i64 2))), (2, (.val (.int .i64 4)))]), none, true⟩, ⟨(some 5), (.mv (.tmp 6)), none, true⟩]) (.seq (.reg none [⟨(some 7), (.mv (.tmp 0)), none, true⟩, ⟨(some 8), (.mv (.tmp 5)), none, true⟩, ⟨(some 9), (.mv (.tmp 1)), none, true⟩, ⟨(some 10), (.iaddrS 1 (.tmp 8) (.tmp 9)), none, true⟩, ⟨(some 11), (.load 1 false (.tmp 10)), none, true⟩, ⟨(some 12), (.bin .quo (.tmp 7) (.tmp 11)), none, true⟩, ⟨(some 13), (.bin .rem (.tmp 12) (.val (.int .i64 2))), none, true⟩, ⟨(some 14), (.bin .eql (.tmp 13) (.val (.int .i64 1))), none, true⟩, ⟨(some 4), (.mv (.tmp 14)), none, true⟩]) .ret)))
def R17 : List LRes := [(.tmp 4)]
theorem low17 : Try.f17.body.bind (lowerCode Try.prog 15) = some L17 := by kernel_rfl
theorem res17 : lowerRes Try.prog Try.f17.results.toList = some R17 := by kernel_rfl
set_option maxRecDepth 100000 in
def L18 : LC := (.seq (.reg none [⟨(some 6), (.mv (.val (.int .i64 0))), none, true⟩, ⟨(some 7), (.mv (.val (.bool false))), none, true⟩]) (.seq (.reg none [⟨(some 8), (.mv (.val (.int .i64 0))), none, true⟩]) (.seq (.seq (.reg none [⟨(some 9), (.mv (.val (.int .i64 0))), none, true⟩]) (.block 0 (.loop (.seq (.seq (.reg none [⟨(some 10), (.mv (.tmp 9)), none, true⟩, ⟨(some 11), (.bin .lss (.tmp 10) (.val (.int .i64 3))), none, true⟩]) (.cond (.tmp 11) .skip (.exit 0))) (.seq (.block 1 (.seq (.reg none [⟨(some 14), (.mv (.tmp 2)), none, true⟩, ⟨(some 15), (.mv (.tmp 9)), none, true⟩, ⟨(some 16), (.call 17 [(.tmp 14), (.tmp 15)] 0), none, true⟩]) (.cond (.tmp 16) (.seq (.seq (.reg none [⟨(some 17), (.mv (.tmp 0)), none, true⟩, ⟨(some 18), (.mv (.tmp 1)), none, true⟩, ⟨(some 19), (.mv (.tmp 9)), none, true⟩, ⟨(some 20), (.nilchk (.tmp 17)), none, true⟩, ⟨(some 21), (.iaddrA 3 8 (.tmp 20) (.tmp 18)), none, true⟩, ⟨(some 22), (.iaddrA 1 3 (.tmp 21) (.tmp 19)), none, true⟩, ⟨(some 23), (.load 1 false (.tmp 22)), none, true⟩, ⟨(some 24), (.bin .eql (.tmp 23) (.val (.int .i64 0))), none, true⟩]) (.cond (.tmp 24) (.seq (.reg none [⟨(some 6), (.mv (.val (.int .i64 0))), none, true⟩, ⟨(some 7), (.mv (.val (.bool false))), none, true⟩]) .ret) .skip)) (.seq (.reg none [⟨(some 25), (.mv (.tmp 0)), none, true⟩, ⟨(some 26), (.mv (.tmp 1)), none, true⟩, ⟨(some 27), (.mv (.tmp 9)), none, true⟩, ⟨(some 28), (.nilchk (.tmp 25)), none, true⟩, ⟨(some 29), (.iaddrA 3 8 (.tmp 28) (.tmp 26)), none, true⟩, ⟨(some 30), (.iaddrA 1 3 (.tmp 29) (.tmp 27)), none, true⟩, ⟨(some 31), (.load 1 false (.tmp 30)), none, true⟩, ⟨(some 32), (.mv (.tmp 8)), none, true⟩, ⟨(some 33), (.bin .gtr (.tmp 31) (.tmp 32)), none, true⟩]) (.cond (.tmp 33) (.reg none [⟨(some 34), (.mv (.tmp 0)), none, true⟩, ⟨(some 35), (.mv (.tmp 1)), none, true⟩, ⟨(some 36), (.mv (.tmp 9)), none, true⟩, ⟨(some 37), (.nilchk (.tmp 34)), none, true⟩, ⟨(some 38), (.iaddrA 3 8 (.tmp 37) (.tmp 35)), none, true⟩, ⟨(some 39), (.iaddrA 1 3 (.tmp 38) (.tmp 36)), none, true⟩, ⟨(some 40), (.load 1 false (.tmp 39)), none, true⟩, ⟨(some 8), (.mv (.tmp 40)), none, true⟩]) .skip))) .skip))) (.reg none [⟨(some 12), (.mv (.tmp 9)), none, true⟩, ⟨(some 13), (.bin .add (.tmp 12) (.val (.int .i64 1))), none, true⟩, ⟨(some 9), (.mv (.tmp 13)), none, true⟩])))))) (.seq (.reg none [⟨(some 41), (.mv (.tmp 8)), none, true⟩, ⟨(some 6), (.mv (.tmp 41)), none, true⟩, ⟨(some 7), (.mv (.val (.bool true))), none, true⟩]) .ret))))
def R18 : List LRes := [(.tmp 6), (.tmp 7)]
theorem low18 : Try.f18.body.bind (lowerCode Try.prog 42) = some L18 := by kernel_rfl
theorem res18 : lowerRes Try.prog Try.f18.results.toList = some R18 := by kernel_rfl
set_option maxRecDepth 100000 in
def L19 : LC := (.seq (.reg none [⟨(some 4), (.mv (.val (.bool false))), none, true⟩]) (.seq (.reg none [⟨(some 5), (.mv (.val .nilsl)), none, true⟩, ⟨(some 6), (.mv (.val .nilsl)), none, true⟩]) (.seq (.seq (.reg none [⟨(some 7), (.mv (.val (.int .i64 0))), none, true⟩]) (.block 0 (.loop (.seq (.seq (.reg none [⟨(some 10), (.mv (.tmp 7)), none, true⟩, ⟨(some 11), (.mv (.tmp 0)), none, true⟩, ⟨(some 12), (.len false (.tmp 11)), none, true⟩, ⟨(some 13), (.bin .lss (.tmp 10) (.tmp 12)), none, true⟩]) (.cond (.tmp 13) .skip (.exit 0))) (.seq (.block 1 (.seq (.reg none [⟨(some 16), (.mv (.tmp 1)), none, true⟩, ⟨(some 17), (.mv (.tmp 0)), none, true⟩, ⟨(some 18), (.mv (.tmp 7)), none, true⟩, ⟨(some 19), (.iaddrS 1 (.tmp 17) (.tmp 18)), none, true⟩, ⟨(some 20), (.load 1 false (.tmp 19)), none, true⟩, ⟨(some 21), (.call 28 [(.tmp 16), (.tmp 20)] 0), none, true⟩]) (.cond (.tmp 21) (.reg none [⟨(some 22), (.mv (.tmp 5)), none, true⟩, ⟨(some 23), (.mv (.tmp 0)), none, true⟩, ⟨(some 24), (.mv (.tmp 7)), none, true⟩, ⟨(some 25), (.iaddrS 1 (.tmp 23) (.tmp 24)), none, true⟩, ⟨(some 26), (.load 1 false (.tmp 25)), none, true⟩, ⟨(some 27), (.mks 1 [(.int .i64 0)] 1 [(0, (.tmp 26))]), none, true⟩, ⟨(some 28), (.append 3 1 8 (.tmp 22) (.tmp 27)), none, true⟩, ⟨(some 5), (.mv (.tmp 28)), none, true⟩]) .skip))) (.reg none [⟨(some 14), (.mv (.tmp 7)), none, true⟩, ⟨(some 15), (.bin .add (.tmp 14) (.val (.int .i64 1))), none, true⟩, ⟨(some 7), (.mv (.tmp 15)), none, true⟩])))))) (.seq (.seq (.reg none [⟨(some 8), (.mv (.val (.int .i64 0))), none, true⟩]) (.block 2 (.loop (.seq (.seq (.reg none [⟨(some 29), (.mv (.tmp 8)), none, true⟩, ⟨(some 30), (.mv (.tmp 1)), none, true⟩, ⟨(some 31), (.len false (.tmp 30)), none, true⟩, ⟨(some 32), (.bin .lss (.tmp 29) (.tmp 31)), none, true⟩]) (.cond (.tmp 32) .skip (.exit 2))) (.seq (.block 3 (.seq (.reg none [⟨(some 35), (.mv (.tmp 0)), none, true⟩, ⟨(some 36), (.mv (.tmp 1)), none, true⟩, ⟨(some 37), (.mv (.tmp 8)), none, true⟩, ⟨(some 38), (.iaddrS 1 (.tmp 36) (.tmp 37)), none, true⟩, ⟨(some 39), (.load 1 false (.tmp 38)), none, true⟩, ⟨(some 40), (.call 28 [(.tmp 35), (.tmp 39)] 0), none, true⟩]) (.cond (.tmp 40) (.reg none [⟨(some 41), (.mv (.tmp 6)), none, true⟩, ⟨(some 42), (.mv (.tmp 1)), none, true⟩, ⟨(some 43), (.mv (.tmp 8)), none, true⟩, ⟨(some 44), (.iaddrS 1 (.tmp 42) (.tmp 43)), none, true⟩, ⟨(some 45), (.load 1 false (.tmp 44)), none, true⟩, ⟨(some 46), (.mks 1 [(.int .i64 0)] 1 [(0, (.tmp 45))]), none, true⟩, ⟨(some 47), (.append 3 1 8 (.tmp 41) (.tmp 46)), none, true⟩, ⟨(some 6), (.mv (.tmp 47)), none, true⟩]) .skip))) (.reg none [⟨(some 33), (.mv (.tmp 8)), none, true⟩, ⟨(some 34), (.bin .add (.tmp 33) (.val (.int .i64 1))), none, true⟩, ⟨(some 8), (.mv (.tmp 34)), none, true⟩])))))) (.seq (.seq (.reg none [⟨(some 9), (.mv (.val (.int .i64 0))), none, true⟩]) (.block 4 (.loop (.seq (.seq (.reg none [⟨(some 48), (.mv (.tmp 9)), none, true⟩, ⟨(some 49), (.mv (.tmp 5)), none, true⟩, ⟨(some 50), (.len false (.tmp 49)), none, true⟩, ⟨(some 51), (.bin .lss (.tmp 48) (.tmp 50)), none, true⟩]) (.cond (.tmp 51) .skip (.exit 4))) (.seq (.block 5 (.seq (.reg (some []) [⟨(some 54), (.mv (.tmp 5)), none, true⟩, ⟨(some 55), (.mv (.tmp 9)), none, true⟩, ⟨(some 56), (.iaddrS 1 (.tmp 54) (.tmp 55)), none, false⟩, ⟨(some 57), (.load 1 false (.tmp 56)), none, false⟩, ⟨(some 58), (.mv (.tmp 6)), none, true⟩, ⟨(some 59), (.mv (.tmp 9)), none, true⟩, ⟨(some 60), (.iaddrS 1 (.tmp 58) (.tmp 59)), none, false⟩, ⟨(some 61), (.load 1 false (.tmp 60)), none, false⟩, ⟨(some 62), (.bin .neq (.tmp 57) (.tmp 61)), none, true⟩]) (.cond (.tmp 62) (.seq (.reg none [⟨(some 4), (.mv (.val (.bool false))), none, true⟩]) .ret) .skip))) (.reg none [⟨(some 52), (.mv (.tmp 9)), none, true⟩, ⟨(some 53), (.bin .add (.tmp 52) (.val (.int .i64 1))), none, true⟩, ⟨(some 9), (.mv (.tmp 53)), none, true⟩])))))) (.seq (.reg none [⟨(some 4), (.mv (.val (.bool true))), none, true⟩]) .ret))))))
def R19 : List LRes := [(.tmp 4)]
theorem low19 : Try.f19.body.bind (lowerCode Try.prog 63) = some L19 := by kernel_rfl
theorem res19 : lowerRes Try.prog Try.f19.results.toList = some R19 := by kernel_rfl
set_option maxRecDepth 100000 in
def L20 : LC := (.seq (.reg none [⟨(some 1), (.box (.tmp 0)), none, true⟩, ⟨(some 2), (.mv (.val .nilp)), none, true⟩]) (.seq (.reg (some [(2, 3), (2, 4), (5, 6)]) [⟨(some 3), (.addr 1 (.tmp 1)), none, false⟩, ⟨(some 4), (.load 1 false (.tmp 3)), none, false⟩, ⟨(some 5), (.call 36 [(.tmp 4)] 2), none, false⟩, ⟨(some 6), (.addr 2 (.tmp 1)), none, false⟩, ⟨(some 7), (.load 1 false (.tmp 6)), none, false⟩, ⟨(some 8), (.call 37 [(.tmp 7)] 2), none, false⟩, ⟨(some 9), (.addr 1 (.tmp 1)), none, false⟩, ⟨none, (.store 1 (.tmp 9) (.tmp 5)), none, true⟩, ⟨(some 10), (.addr 2 (.tmp 1)), none, true⟩, ⟨none, (.store 1 (.tmp 10) (.tmp 8)), none, true⟩]) (.seq (.reg none [⟨(some 11), (.load 3 true (.tmp 1)), none, true⟩, ⟨(some 12), (.build [(.int .i64 0), .nilsl, .nilsl] [(0, (3, (.tmp 11)))]), none, true⟩, ⟨(some 13), (.box (.tmp 12)), none, true⟩, ⟨(some 2), (.mv (.tmp 13)), none, true⟩]) .ret)))
def R20 : List LRes := [(.tmp 2)]
theorem low20 : Try.f20.body.bind (lowerCode Try.prog 14) = some L20 := by kernel_rfl
theorem res20 : lowerRes Try.prog Try.f20.results.toList = some R20 := by kernel_rfl
set_option maxRecDepth 100000 in
def L21 : LC := (.seq (.reg none [⟨(some 4), (.mv (.val (.int .i64 0))), none, true⟩]) (.seq (.reg none [⟨(some 8), (.mv (.tmp 0)), none, true⟩, ⟨(some 9), (.nilchk (.tmp 8)), none, true⟩, ⟨(some 10), (.addr 0 (.tmp 9)), none, true⟩, ⟨(some 11), (.addr 1 (.tmp 10)), none, true⟩, ⟨(some 12), (.load 1 false (.tmp 11)), none, true⟩, ⟨(some 13), (.mv (.tmp 1)), none, true⟩, ⟨(some 14), (.call 38 [(.tmp 12), (.tmp 13)] 0), none, true⟩, ⟨(some 7), (.mv (.tmp 14)), none, true⟩, ⟨(some 15), (.ext 0 (.tmp 7)), none, true⟩, ⟨(some 16), (.ext 1 (.tmp 7)), none, true⟩, ⟨(some 5), (.mv (.tmp 15)), none, true⟩, ⟨(some 6), (.mv (.tmp 16)), none, true⟩]) (.seq (.block 0 (.seq (.reg none [⟨(some 18), (.mv (.tmp 1)), none, true⟩, ⟨(some 19), (.call 32 [(.tmp 18)] 0), none, true⟩, ⟨(some 20), (.not (.tmp 19)), none, true⟩, ⟨(some 17), (.mv (.tmp 20)), none, true⟩]) (.cond (.tmp 17) (.seq (.reg none [⟨(some 4), (.mv (.val (.int .i64 3))), none, true⟩]) .ret) (.seq (.reg none [⟨(some 22), (.mv (.tmp 6)), none, true⟩, ⟨(some 23), (.mv (.tmp 22)), none, true⟩, ⟨(some 24), (.mv (.tmp 0)), (some (23, false)), true⟩, ⟨(some 25), (.nilchk (.tmp 24)), (some (23, false)), true⟩, ⟨(some 26), (.addr 0 (.tmp 25)), (some (23, false)), true⟩, ⟨(some 27), (.addr 2 (.tmp 26)), (some (23, false)), true⟩, ⟨(some 28), (.load 1 false (.tmp 27)), (some (23, false)), true⟩, ⟨(some 29), (.mv (.tmp 1)), (some (23, false)), true⟩, ⟨(some 30), (.call 39 [(.tmp 28), (.tmp 29)] 0), (some (23, false)), true⟩, ⟨(some 31), (.pick (.tmp 23) (.val (.bool true)) (.tmp 30)), none, true⟩, ⟨(some 21), (.mv (.tmp 31)), none, true⟩]) (.cond (.tmp 21) (.seq (.reg none [⟨(some 4), (.mv (.val (.int .i64 6))), none, true⟩]) .ret) (.seq (.reg none [⟨(some 33), (.mv (.tmp 0)), none, true⟩, ⟨(some 34), (.nilchk (.tmp 33)), none, true⟩, ⟨(some 35), (.addr 0 (.tmp 34)), none, true⟩, ⟨(some 36), (.addr 1 (.tmp 35)), none, true⟩, ⟨(some 37), (.load 1 false (.tmp 36)), none, true⟩, ⟨(some 38), (.len false (.tmp 37)), none, true⟩, ⟨(some 39), (.bin .eql (.tmp 38) (.val (.int .i64 8))), none, true⟩, ⟨(some 40), (.mv (.tmp 39)), none, true⟩, ⟨(some 41), (.mv (.tmp 0)), (some (40, false)), true⟩, ⟨(some 42), (.nilchk (.tmp 41)), (some (40, false)), true⟩, ⟨(some 43), (.addr 0 (.tmp 42)), (some (40, false)), true⟩, ⟨(some 44), (.addr 0 (.tmp 43)), (some (40, false)), true⟩, ⟨(some 45), (.load 1 false (.tmp 44)), (some (40, false)), true⟩, ⟨(some 46), (.bin .eql (.tmp 45) (.val (.int .i64 999))), (some (40, false)), true⟩, ⟨(some 47), (.pick (.tmp 40) (.val (.bool true)) (.tmp 46)), none, true⟩, ⟨(some 32), (.mv (.tmp 47)), none, true⟩]) (.cond (.tmp 32) (.seq (.reg none [⟨(some 4), (.mv (.val (.int .i64 2))), none, true⟩]) .ret) .skip))))))) (.seq (.reg none [⟨(some 48), (.mv (.tmp 0)), none, true⟩, ⟨(some 49), (.nilchk (.tmp 48)), none, true⟩, ⟨(some 50), (.addr 0 (.tmp 49)), none, true⟩, ⟨(some 51), (.addr 0 (.tmp 50)), none, true⟩, ⟨(some 52), (.load 1 false (.tmp 51)), none, true⟩, ⟨(some 53), (.bin .add (.tmp 52) (.val (.int .i64 1))), none, true⟩, ⟨(some 54), (.nilchk (.tmp 48)), none, true⟩, ⟨(some 55), (.addr 0 (.tmp 54)), none, true⟩, ⟨(some 56), (.addr 0 (.tmp 55)), none, true⟩, ⟨none, (.store 1 (.tmp 56) (.tmp 53)), none, true⟩]) (.seq (.reg (some []) [⟨(some 57), (.mv (.tmp 0)), none, true⟩, ⟨(some 58), (.mv (.tmp 0)), none, true⟩, ⟨(some 59), (.nilchk (.tmp 58)), none, false⟩, ⟨(some 60), (.addr 0 (.tmp 59)), none, false⟩, ⟨(some 61), (.addr 1 (.tmp 60)), none, false⟩, ⟨(some 62), (.load 1 false (.tmp 61)), none, false⟩, ⟨(some 63), (.mv (.tmp 5)), none, true⟩, ⟨(some 64), (.mv (.tmp 1)), none, true⟩, ⟨(some 65), (.mv (.tmp 0)), none, true⟩, ⟨(some 66), (.nilchk (.tmp 65)), none, false⟩, ⟨(some 67), (.addr 0 (.tmp 66)), none, false⟩, ⟨(some 68), (.addr 0 (.tmp 67)), none, false⟩, ⟨(some 69), (.load 1 false (.tmp 68)), none, false⟩, ⟨(some 70), (.build [(.int .i64 0), (.int .i64 0), (.bool false)] [(0, (1, (.tmp 64))), (1, (1, (.tmp 69)))]), none, true⟩, ⟨(some 71), (.mks 3 [(.int .i64 0), (.int .i64 0), (.bool false)] 1 [(0, (.tmp 70))]), none, true⟩, ⟨(some 72), (.call 40 [(.tmp 62), (.tmp 63), (.tmp 71)] 1), none, true⟩, ⟨(some 73), (.nilchk (.tmp 57)), none, true⟩, ⟨(some 74), (.addr 0 (.tmp 73)), none, true⟩, ⟨(some 75), (.addr 1 (.tmp 74)), none, true⟩, ⟨none, (.store 1 (.tmp 75) (.tmp 72)), none, true⟩]) (.seq (.reg none [⟨(some 4), (.mv (.val (.int .i64 0))), none, true⟩]) .ret))))))
def R21 : List LRes := [(.tmp 4)]
theorem low21 : Try.f21.body.bind (lowerCode Try.prog 76) = some L21 := by kernel_rfl
theorem res21 : lowerRes Try.prog Try.f21.results.toList = some R21 := by kernel_rfl
set_option maxRecDepth 100000 in
def L22 : LC := (.seq (.reg none [⟨(some 6), (.mv (.val (.int .i64 0))), none, true⟩]) (.seq (.seq (.reg none [⟨(some 10), (.mv (.tmp 1)), none, true⟩, ⟨(some 11), (.call 32 [(.tmp 10)] 0), none, true⟩, ⟨(some 12), (.not (.tmp 11)), none, true⟩, ⟨(some 13), (.mv (.tmp 12)), none, true⟩, ⟨(some 14), (.mv (.tmp 2)), (some (13, false)), true⟩, ⟨(some 15), (.call 31 [(.tmp 14), (.val (.int .i64 1)), (.val (.int .i64 999))] 0), (some (13, false)), true⟩, ⟨(some 16), (.not (.tmp 15)), (some (13, false)), true⟩, ⟨(some 17), (.pick (.tmp 13) (.val (.bool true)) (.tmp 16)), none, true⟩]) (.cond (.tmp 17) (.seq (.reg none [⟨(some 6), (.mv (.val (.int .i64 3))), none, true⟩]) .ret) .skip)) (.seq (.reg none [⟨(some 19), (.mv (.tmp 0)), none, true⟩, ⟨(some 20), (.nilchk (.tmp 19)), none, true⟩, ⟨(some 21), (.addr 0 (.tmp 20)), none, true⟩, ⟨(some 22), (.addr 1 (.tmp 21)), none, true⟩, ⟨(some 23), (.load 1 false (.tmp 22)), none, true⟩, ⟨(some 24), (.mv (.tmp 1)), none, true⟩, ⟨(some 25), (.call 38 [(.tmp 23), (.tmp 24)] 0), none, true⟩, ⟨(some 18), (.mv (.tmp 25)), none, true⟩, ⟨(some 26), (.ext 0 (.tmp 18)), none, true⟩, ⟨(some 27), (.ext 1 (.tmp 18)), none, true⟩, ⟨(some 7), (.mv (.tmp 26)), none, true⟩, ⟨(some 8), (.mv (.tmp 27)), none, true⟩]) (.seq (.block 0 (.seq (.reg none [⟨(some 29), (.mv (.tmp 8)), none, true⟩, ⟨(some 30), (.not (.tmp 29)), none, true⟩, ⟨(some 28), (.mv (.tmp 30)), none, true⟩]) (.cond (.tmp 28) (.seq (.reg none [⟨(some 6), (.mv (.val (.int .i64 5))), none, true⟩]) .ret) (.seq (.reg none [⟨(some 32), (.mv (.tmp 0)), none, true⟩, ⟨(some 33), (.nilchk (.tmp 32)), none, true⟩, ⟨(some 34), (.addr 0 (.tmp 33)), none, true⟩, ⟨(some 35), (.addr 1 (.tmp 34)), none, true⟩, ⟨(some 36), (.load 1 false (.tmp 35)), none, true⟩, ⟨(some 37), (.mv (.tmp 7)), none, true⟩, ⟨(some 38), (.iaddrS 3 (.tmp 36) (.tmp 37)), none, true⟩, ⟨(some 39), (.addr 2 (.tmp 38)), none, true⟩, ⟨(some 40), (.load 1 false (.tmp 39)), none, true⟩, ⟨(some 41), (.mv (.tmp 40)), none, true⟩, ⟨(some 42), (.mv (.tmp 2)), (some (41, false)), true⟩, ⟨(some 43), (.mv (.tmp 0)), (some (41, false)), true⟩, ⟨(some 44), (.nilchk (.tmp 43)), (some (41, false)), true⟩, ⟨(some 45), (.addr 0 (.tmp 44)), (some (41, false)), true⟩, ⟨(some 46), (.addr 1 (.tmp 45)), (some (41, false)), true⟩, ⟨(some 47), (.load 1 false (.tmp 46)), (some (41, false)), true⟩, ⟨(some 48), (.mv (.tmp 7)), (some (41, false)), true⟩, ⟨(some 49), (.iaddrS 3 (.tmp 47) (.tmp 48)), (some (41, false)), true⟩, ⟨(some 50), (.addr 1 (.tmp 49)), (some (41, false)), true⟩, ⟨(some 51), (.load 1 false (.tmp 50)), (some (41, false)), true⟩, ⟨(some 52), (.bin .lss (.tmp 42) (.tmp 51)), (some (41, false)), true⟩, ⟨(some 53), (.pick (.tmp 41) (.val (.bool true)) (.tmp 52)), none, true⟩, ⟨(some 31), (.mv (.tmp 53)), none, true⟩]) (.cond (.tmp 31) (.seq (.reg none [⟨(some 6), (.mv (.val (.int .i64 4))), none, true⟩]) .ret) .skip))))) (.seq (.reg none [⟨(some 54), (.mv (.tmp 0)), none, true⟩, ⟨(some 55), (.mv (.tmp 0)), none, true⟩, ⟨(some 56), (.nilchk (.tmp 55)), none, true⟩, ⟨(some 57), (.addr 0 (.tmp 56)), none, true⟩, ⟨(some 58), (.addr 0 (.tmp 57)), none, true⟩, ⟨(some 59), (.load 1 false (.tmp 58)), none, true⟩, ⟨(some 60), (.mv (.tmp 2)), none, true⟩, ⟨(some 61), (.mm true (.tmp 59) (.tmp 60)), none, true⟩, ⟨(some 62), (.nilchk (.tmp 54)), none, true⟩, ⟨(some 63), (.addr 0 (.tmp 62)), none, true⟩, ⟨(some 64), (.addr 0 (.tmp 63)), none, true⟩, ⟨none, (.store 1 (.tmp 64) (.tmp 61)), none, true⟩]) (.seq (.reg (some []) [⟨(some 65), (.mv (.tmp 0)), none, true⟩, ⟨(some 66), (.nilchk (.tmp 65)), none, false⟩, ⟨(some 67), (.addr 0 (.tmp 66)), none, false⟩, ⟨(some 68), (.addr 1 (.tmp 67)), none, false⟩, ⟨(some 69), (.load 1 false (.tmp 68)), none, false⟩, ⟨(some 70), (.mv (.tmp 7)), none, true⟩, ⟨(some 71), (.mv (.tmp 0)), none, true⟩, ⟨(some 72), (.nilchk (.tmp 71)), none, false⟩, ⟨(some 73), (.addr 0 (.tmp 72)), none, false⟩, ⟨(some 74), (.addr 1 (.tmp 73)), none, false⟩, ⟨(some 75), (.load 1 false (.tmp 74)), none, false⟩, ⟨(some 76), (.mv (.tmp 7)), none, true⟩, ⟨(some 77), (.mv (.tmp 2)), none, true⟩, ⟨(some 78), (.iaddrS 3 (.tmp 69) (.tmp 70)), none, true⟩, ⟨(some 79), (.addr 1 (.tmp 78)), none, true⟩, ⟨none, (.store 1 (.tmp 79) (.tmp 77)), none, true⟩, ⟨(some 80), (.iaddrS 3 (.tmp 75) (.tmp 76)), none, true⟩, ⟨(some 81), (.addr 2 (.tmp 80)), none, true⟩, ⟨none, (.store 1 (.tmp 81) (.val (.bool true))), none, true⟩]) (.seq (.seq (.reg none [⟨(some 82), (.mv (.tmp 0)), none, true⟩, ⟨(some 83), (.nilchk (.tmp 82)), none, true⟩, ⟨(some 84), (.addr 0 (.tmp 83)), none, true⟩, ⟨(some 85), (.addr 1 (.tmp 84)), none, true⟩, ⟨(some 86), (.load 1 false (.tmp 85)), none, true⟩, ⟨(some 87), (.call 34 [(.tmp 86)] 0), none, true⟩, ⟨(some 9), (.mv (.tmp 87)), none, true⟩]) (.block 1 (.loop (.seq (.seq (.reg none [⟨(some 88), (.mv (.tmp 9)), none, true⟩, ⟨(some 89), (.bin .geq (.tmp 88) (.val (.int .i64 0))), none, true⟩, ⟨(some 90), (.mv (.tmp 89)), none, true⟩, ⟨(some 91), (.mv (.tmp 0)), (some (90, true)), true⟩, ⟨(some 92), (.nilchk (.tmp 91)), (some (90, true)), true⟩, ⟨(some 93), (.addr 0 (.tmp 92)), (some (90, true)), true⟩, ⟨(some 94), (.addr 1 (.tmp 93)), (some (90, true)), true⟩, ⟨(some 95), (.load 1 false (.tmp 94)), (some (90, true)), true⟩, ⟨(some 96), (.mv (.tmp 9)), (some (90, true)), true⟩, ⟨(some 97), (.iaddrS 3 (.tmp 95) (.tmp 96)), (some (90, true)), true⟩, ⟨(some 98), (.addr 2 (.tmp 97)), (some (90, true)), true⟩, ⟨(some 99), (.load 1 false (.tmp 98)), (some (90, true)), true⟩, ⟨(some 100), (.pick (.tmp 90) (.tmp 99) (.val (.bool false))), none, true⟩]) (.cond (.tmp 100) .skip (.exit 1))) (.seq (.block 2 (.seq (.reg (some []) [⟨(some 107), (.mv (.tmp 0)), none, true⟩, ⟨(some 108), (.mv (.tmp 0)), none, true⟩, ⟨(some 109), (.nilchk (.tmp 108)), none, false⟩, ⟨(some 110), (.addr 0 (.tmp 109)), none, false⟩, ⟨(some 111), (.addr 2 (.tmp 110)), none, false⟩, ⟨(some 112), (.load 1 false (.tmp 111)), none, false⟩, ⟨(some 113), (.mv (.tmp 0)), none, true⟩, ⟨(some 114), (.nilchk (.tmp 113)), none, false⟩, ⟨(some 115), (.addr 0 (.tmp 114)), none, false⟩, ⟨(some 116), (.addr 1 (.tmp 115)), none, false⟩, ⟨(some 117), (.load 1 false (.tmp 116)), none, false⟩, ⟨(some 118), (.mv (.tmp 9)), none, true⟩, ⟨(some 119), (.iaddrS 3 (.tmp 117) (.tmp 118)), none, false⟩, ⟨(some 120), (.addr 0 (.tmp 119)), none, false⟩, ⟨(some 121), (.load 1 false (.tmp 120)), none, false⟩, ⟨(some 122), (.mks 1 [(.int .i64 0)] 1 [(0, (.tmp 121))]), none, true⟩, ⟨(some 123), (.append 3 1 8 (.tmp 112) (.tmp 122)), none, true⟩, ⟨(some 124), (.nilchk (.tmp 107)), none, true⟩, ⟨(some 125), (.addr 0 (.tmp 124)), none, true⟩, ⟨(some 126), (.addr 2 (.tmp 125)), none, true⟩, ⟨none, (.store 1 (.tmp 126) (.tmp 123)), none, true⟩]) (.reg none [⟨(some 127), (.mv (.tmp 0)), none, true⟩, ⟨(some 128), (.mv (.tmp 0)), none, true⟩, ⟨(some 129), (.nilchk (.tmp 128)), none, true⟩, ⟨(some 130), (.addr 0 (.tmp 129)), none, true⟩, ⟨(some 131), (.addr 1 (.tmp 130)), none, true⟩, ⟨(some 132), (.load 1 false (.tmp 131)), none, true⟩, ⟨(some 133), (.mv (.tmp 9)), none, true⟩, ⟨(some 134), (.mv (.tmp 9)), none, true⟩, ⟨(some 135), (.bin .add (.tmp 134) (.val (.int .i64 1))), none, true⟩, ⟨(some 136), (.call 41 [(.tmp 132), (.tmp 133), (.tmp 135)] 1), none, true⟩, ⟨(some 137), (.nilchk (.tmp 127)), none, true⟩, ⟨(some 138), (.addr 0 (.tmp 137)), none, true⟩, ⟨(some 139), (.addr 1 (.tmp 138)), none, true⟩, ⟨none, (.store 1 (.tmp 139) (.tmp 136)), none, true⟩]))) (.reg none [⟨(some 101), (.mv (.tmp 0)), none, true⟩, ⟨(some 102), (.nilchk (.tmp 101)), none, true⟩, ⟨(some 103), (.addr 0 (.tmp 102)), none, true⟩, ⟨(some 104), (.addr 1 (.tmp 103)), none, true⟩, ⟨(some 105), (.load 1 false (.tmp 104)), none, true⟩, ⟨(some 106), (.call 34 [(.tmp 105)] 0), none, true⟩, ⟨(some 9), (.mv (.tmp 106)), none, true⟩])))))) (.seq (.seq (.reg none [⟨(some 140), (.mv (.tmp 0)), none, true⟩, ⟨(some 141), (.nilchk (.tmp 140)), none, true⟩, ⟨(some 142), (.addr 0 (.tmp 141)), none, true⟩, ⟨(some 143), (.addr 2 (.tmp 142)), none, true⟩, ⟨(some 144), (.load 1 false (.tmp 143)), none, true⟩, ⟨(some 145), (.len false (.tmp 144)), none, true⟩, ⟨(some 146), (.bin .gtr (.tmp 145) (.val (.int .i64 30))), none, true⟩]) (.cond (.tmp 146) (.seq (.reg none [⟨(some 6), (.mv (.val (.int .i64 2))), none, true⟩]) .ret) .skip)) (.seq (.reg none [⟨(some 6), (.mv (.val (.int .i64 0))), none, true⟩]) .ret)))))))))
def R22 : List LRes := [(.tmp 6)]
theorem low22 : Try.f22.body.bind (lowerCode Try.prog 147) = some L22 := by kernel_rfl
theorem res22 : lowerRes Try.prog Try.f22.results.toList = some R22 := by kernel_rfl
set_option maxRecDepth 100000 in
def L23 : LC := (.seq (.reg none [⟨(some 2), (.mv (.val (.bool false))), none, true⟩]) (.seq (.reg none [⟨(some 3), (.mv (.tmp 0)), none, true⟩, ⟨(some 4), (.call 42 [(.tmp 3), (.val (.int .i64 1)), (.val (.int .i64 7))] 0), none, true⟩, ⟨(some 2), (.mv (.tmp 4)), none, true⟩]) .ret))
def R23 : List LRes := [(.tmp 2)]
theorem low23 : Try.f23.body.bind (lowerCode Try.prog 5) = some L23 := by kernel_rfl
theorem res23 : lowerRes Try.prog Try.f23.results.toList = some R23 := by kernel_rfl
set_option maxRecDepth 100000 in
def L24 : LC := (.seq (.reg none [⟨(some 6), (.mv (.val (.int .i64 0))), none, true⟩]) (.seq (.seq (.reg none [⟨(some 10), (.mv (.tmp 0)), none, true⟩, ⟨(some 11), (.len false (.tmp 10)), none, true⟩, ⟨(some 12), (.mv (.val (.int .i64 0))), none, true⟩]) (.block 0 (.loop (.seq (.reg none [⟨(some 13), (.bin .lss (.tmp 12) (.tmp 11)), none, true⟩]) (.seq (.cond (.tmp 13) .skip (.exit 0)) (.seq (.block 1 (.seq (.reg none [⟨(some 14), (.mv (.tmp 12)), none, true⟩, ⟨(some 15), (.iaddrS 1 (.tmp 10) (.tmp 12)), none, true⟩, ⟨(some 16), (.load 1 false (.tmp 15)), none, true⟩, ⟨(some 7), (.mv (.tmp 14)), none, true⟩, ⟨(some 8), (.mv (.tmp 16)), none, true⟩]) (.seq (.seq (.reg none [⟨(some 17), (.mv (.tmp 1)), none, true⟩, ⟨(some 18), (.mv (.tmp 7)), none, true⟩, ⟨(some 19), (.bin .shr (.tmp 17) (.tmp 18)), none, true⟩, ⟨(some 20), (.bin .and (.tmp 19) (.val (.int .i64 1))), none, true⟩, ⟨(some 21), (.bin .eql (.tmp 20) (.val (.int .i64 0))), none, true⟩]) (.cond (.tmp 21) (.exit 1) .skip)) (.seq (.reg none [⟨(some 22), (.mv (.tmp 2)), none, true⟩, ⟨(some 23), (.mv (.tmp 8)), none, true⟩, ⟨(some 24), (.callv (.tmp 22) [(.tmp 23)]), none, true⟩, ⟨(some 9), (.mv (.tmp 24)), none, true⟩]) (.seq (.reg none [⟨(some 25), (.mv (.tmp 9)), none, true⟩, ⟨(some 26), (.bin .neq (.tmp 25) (.val (.int .i64 0))), none, true⟩]) (.cond (.tmp 26) (.seq (.reg none [⟨(some 27), (.mv (.tmp 9)), none, true⟩, ⟨(some 6), (.mv (.tmp 27)), none, true⟩]) .ret) .skip)))))) (.reg none [⟨(some 28), (.bin .add (.tmp 12) (.val (.int .i64 1))), none, true⟩, ⟨(some 12), (.mv (.tmp 28)), none, true⟩]))))))) (.seq (.reg none [⟨(some 6), (.mv (.val (.int .i64 0))), none, true⟩]) .ret)))
def R24 : List LRes := [(.tmp 6)]
theorem low24 : Try.f24.body.bind (lowerCode Try.prog 29) = some L24 := by kernel_rfl
theorem res24 : lowerRes Try.prog Try.f24.results.toList = some R24 := by kernel_rfl
set_option maxRecDepth 100000 in
def L25 : LC := (.seq (.reg none [⟨(some 4), (.mv (.val (.int .i64 0))), none, true⟩]) (.seq (.reg none [⟨(some 6), (.mv (.tmp 0)), none, true⟩, ⟨(some 7), (.load 1 false (.tmp 1)), none, true⟩, ⟨(some 8), (.call 21 [(.tmp 6), (.tmp 7)] 0), none, true⟩, ⟨(some 5), (.mv (.tmp 8)), none, true⟩]) (.seq (.reg (some []) [⟨(some 9), (.load 1 false (.tmp 2)), none, false⟩, ⟨(some 10), (.mv (.tmp 0)), none, true⟩, ⟨(some 11), (.nilchk (.tmp 10)), none, false⟩, ⟨(some 12), (.addr 0 (.tmp 11)), none, false⟩, ⟨(some 13), (.addr 0 (.tmp 12)), none, false⟩, ⟨(some 14), (.load 1 false (.tmp 13)), none, false⟩, ⟨(some 15), (.mm true (.tmp 9) (.tmp 14)), none, true⟩, ⟨none, (.store 1 (.tmp 2) (.tmp 15)), none, true⟩]) (.seq (.reg none [⟨(some 16), (.mv (.tmp 5)), none, true⟩, ⟨(some 4), (.mv (.tmp 16)), none, true⟩]) .ret))))
def R25 : List LRes := [(.tmp 4)]
theorem low25 : Try.f25.body.bind (lowerCode Try.prog 17) = some L25 := by kernel_rfl
theorem res25 : lowerRes Try.prog Try.f25.results.toList = some R25 := by kernel_rfl
set_option maxRecDepth 100000 in
def L26 : LC := (.seq (.reg none [⟨(some 4), (.mv (.val (.int .i64 0))), none, true⟩]) (.seq (.reg none [⟨(some 5), (.mv (.tmp 0)), none, true⟩, ⟨(some 6), (.load 1 false (.tmp 1)), none, true⟩, ⟨(some 7), (.load 1 false (.tmp 2)), none, true⟩, ⟨(some 8), (.call 22 [(.tmp 5), (.tmp 6), (.tmp 7)] 0), none, true⟩, ⟨(some 4), (.mv (.tmp 8)), none, true⟩]) .ret))
def R26 : List LRes := [(.tmp 4)]
theorem low26 : Try.f26.body.bind (lowerCode Try.prog 9) = some L26 := by kernel_rfl
theorem res26 : lowerRes Try.prog Try.f26.results.toList = some R26 := by kernel_rfl
set_option maxRecDepth 100000 in
def L27 : LC := (.seq (.reg none [⟨(some 6), (.mv (.val (.bool false))), none, true⟩]) (.seq (.reg none [⟨(some 7), (.mv (.tmp 0)), none, true⟩, ⟨(some 8), (.mv (.tmp 1)), none, true⟩, ⟨(some 9), (.bin .geq (.tmp 7) (.tmp 8)), none, true⟩, ⟨(some 10), (.mv (.tmp 9)), none, true⟩, ⟨(some 11), (.mv (.tmp 0)), (some (10, true)), true⟩, ⟨(some 12), (.mv (.tmp 2)), (some (10, true)), true⟩, ⟨(some 13), (.bin .leq (.tmp 11) (.tmp 12)), (some (10, true)), true⟩, ⟨(some 14), (.pick (.tmp 10) (.tmp 13) (.val (.bool false))), none, true⟩, ⟨(some 6), (.mv (.tmp 14)), none, true⟩]) .ret))
def R27 : List LRes := [(.tmp 6)]
theorem low27 : Try.f27.body.bind (lowerCode Try.prog 15) = some L27 := by kernel_rfl
theorem res27 : lowerRes Try.prog Try.f27.results.toList = some R27 := by kernel_rfl
set_option maxRecDepth 100000 in
def L28 : LC := (.seq (.reg none [⟨(some 4), (.mv (.val (.bool false))), none, true⟩]) (.seq (.seq (.reg none [⟨(some 5), (.mv (.val (.int .i64 0))), none, true⟩]) (.block 0 (.loop (.seq (.seq (.reg none [⟨(some 6), (.mv (.tmp 5)), none, true⟩, ⟨(some 7), (.mv (.tmp 0)), none, true⟩, ⟨(some 8), (.len false (.tmp 7)), none, true⟩, ⟨(some 9), (.bin .lss (.tmp 6) (.tmp 8)), none, true⟩]) (.cond (.tmp 9) .skip (.exit 0))) (.seq (.block 1 (.seq (.reg none [⟨(some 12), (.mv (.tmp 0)), none, true⟩, ⟨(some 13), (.mv (.tmp 5)), none, true⟩, ⟨(some 14), (.iaddrS 1 (.tmp 12) (.tmp 13)), none, true⟩, ⟨(some 15), (.load 1 false (.tmp 14)), none, true⟩, ⟨(some 16), (.mv (.tmp 1)), none, true⟩, ⟨(some 17), (.bin .eql (.tmp 15) (.tmp 16)), none, true⟩]) (.cond (.tmp 17) (.seq (.reg none [⟨(some 4), (.mv (.val (.bool true))), none, true⟩]) .ret) .skip))) (.reg none [⟨(some 10), (.mv (.tmp 5)), none, true⟩, ⟨(some 11), (.bin .add (.tmp 10) (.val (.int .i64 1))), none, true⟩, ⟨(some 5), (.mv (.tmp 11)), none, true⟩])))))) (.seq (.reg none [⟨(some 4), (.mv (.val (.bool false))), none, true⟩]) .ret)))
def R28 : List LRes := [(.tmp 4)]
theorem low28 : Try.f28.body.bind (lowerCode Try.prog 18) = some L28 := by kernel_rfl
theorem res28 : lowerRes Try.prog Try.f28.results.toList = some R28 := by kernel_rfl
set_option maxRecDepth 100000 in
def L29 : LC := (.seq (.reg none [⟨(some 2), (.box (.tmp 0)), none, true⟩, ⟨(some 4), (.mv (.val (.int .i64 0))), none, true⟩]) (.seq (.seq (.reg none [⟨(some 5), (.mv (.val (.int .i64 0))), none, true⟩]) (.block 0 (.loop (.seq (.seq (.reg none [⟨(some 6), (.mv (.tmp 5)), none, true⟩, ⟨(some 7), (.addr 1 (.tmp 2)), none, true⟩, ⟨(some 8), (.load 1 false (.tmp 7)), none, true⟩, ⟨(some 9), (.len false (.tmp 8)), none, true⟩, ⟨(some 10), (.bin .lss (.tmp 6) (.tmp 9)), none, true⟩]) (.cond (.tmp 10) .skip (.exit 0))) (.seq (.block 1 (.seq (.reg none [⟨(some 13), (.addr 1 (.tmp 2)), none, true⟩, ⟨(some 14), (.load 1 false (.tmp 13)), none, true⟩, ⟨(some 15), (.mv (.tmp 5)), none, true⟩, ⟨(some 16), (.iaddrS 3 (.tmp 14) (.tmp 15)), none, true⟩, ⟨(some 17), (.addr 0 (.tmp 16)), none, true⟩, ⟨(some 18), (.load 1 false (.tmp 17)), none, true⟩, ⟨(some 19), (.mv (.tmp 1)), none, true⟩, ⟨(some 20), (.bin .eql (.tmp 18) (.tmp 19)), none, true⟩]) (.cond (.tmp 20) (.seq (.reg none [⟨(some 21), (.mv (.tmp 5)), none, true⟩, ⟨(some 4), (.mv (.tmp 21)), none, true⟩]) .ret) .skip))) (.reg none [⟨(some 11), (.mv (.tmp 5)), none, true⟩, ⟨(some 12), (.bin .add (.tmp 11) (.val (.int .i64 1))), none, true⟩, ⟨(some 5), (.mv (.tmp 12)), none, true⟩])))))) (.seq (.reg none [⟨(some 4), (.mv (.val (.int .i64 (-1)))), none, true⟩]) .ret)))
def R29 : List LRes := [(.tmp 4)]
theorem low29 : Try.f29.body.bind (lowerCode Try.prog 22) = some L29 := by kernel_rfl
theorem res29 : lowerRes Try.prog Try.f29.results.toList = some R29 := by kernel_rfl
set_option maxRecDepth 100000 in
def L30 : LC := (.seq (.reg none [⟨(some 1), (.box (.tmp 0)), none, true⟩, ⟨(some 2), (.mv (.val (.int .i64 0))), none, true⟩]) (.seq (.seq (.reg none [⟨(some 3), (.mv (.val (.int .i64 0))), none, true⟩]) (.block 0 (.loop (.seq (.seq (.reg none [⟨(some 6), (.mv (.tmp 3)), none, true⟩, ⟨(some 7), (.addr 1 (.tmp 1)), none, true⟩, ⟨(some 8), (.load 1 false (.tmp 7)), none, true⟩, ⟨(some 9), (.len false (.tmp 8)), none, true⟩, ⟨(some 10), (.bin .lss (.tmp 6) (.tmp 9)), none, true⟩]) (.cond (.tmp 10) .skip (.exit 0))) (.seq (.block 1 (.seq (.reg none [⟨(some 4), (.mv (.val (.bool true))), none, true⟩]) (.seq (.seq (.reg none [⟨(some 5), (.mv (.val (.int .i64 0))), none, true⟩]) (.block 2 (.loop (.seq (.seq (.reg none [⟨(some 13), (.mv (.tmp 5)), none, true⟩, ⟨(some 14), (.addr 1 (.tmp 1)), none, true⟩, ⟨(some 15), (.load 1 false (.tmp 14)), none, true⟩, ⟨(some 16), (.len false (.tmp 15)), none, true⟩, ⟨(some 17), (.bin .lss (.tmp 13) (.tmp 16)), none, true⟩]) (.cond (.tmp 17) .skip (.exit 2))) (.seq (.block 3 (.seq (.reg (some []) [⟨(some 20), (.addr 1 (.tmp 1)), none, false⟩, ⟨(some 21), (.load 1 false (.tmp 20)), none, false⟩, ⟨(some 22), (.mv (.tmp 5)), none, true⟩, ⟨(some 23), (.iaddrS 3 (.tmp 21) (.tmp 22)), none, false⟩, ⟨(some 24), (.addr 1 (.tmp 23)), none, false⟩, ⟨(some 25), (.load 1 false (.tmp 24)), none, false⟩, ⟨(some 26), (.addr 1 (.tmp 1)), none, false⟩, ⟨(some 27), (.load 1 false (.tmp 26)), none, false⟩, ⟨(some 28), (.mv (.tmp 3)), none, true⟩, ⟨(some 29), (.iaddrS 3 (.tmp 27) (.tmp 28)), none, false⟩, ⟨(some 30), (.addr 1 (.tmp 29)), none, false⟩, ⟨(some 31), (.load 1 false (.tmp 30)), none, false⟩, ⟨(some 32), (.bin .lss (.tmp 25) (.tmp 31)), none, true⟩, ⟨(some 33), (.mv (.tmp 32)), none, true⟩, ⟨(some 34), (.addr 1 (.tmp 1)), (some (33, false)), false⟩, ⟨(some 35), (.load 1 false (.tmp 34)), (some (33, false)), false⟩, ⟨(some 36), (.mv (.tmp 5)), (some (33, false)), true⟩, ⟨(some 37), (.iaddrS 3 (.tmp 35) (.tmp 36)), (some (33, false)), false⟩, ⟨(some 38), (.addr 1 (.tmp 37)), (some (33, false)), false⟩, ⟨(some 39), (.load 1 false (.tmp 38)), (some (33, false)), false⟩, ⟨(some 40), (.addr 1 (.tmp 1)), (some (33, false)), false⟩, ⟨(some 41), (.load 1 false (.tmp 40)), (some (33, false)), false⟩, ⟨(some 42), (.mv (.tmp 3)), (some (33, false)), true⟩, ⟨(some 43), (.iaddrS 3 (.tmp 41) (.tmp 42)), (some (33, false)), false⟩, ⟨(some 44), (.addr 1 (.tmp 43)), (some (33, false)), false⟩, ⟨(some 45), (.load 1 false (.tmp 44)), (some (33, false)), false⟩, ⟨(some 46), (.bin .eql (.tmp 39) (.tmp 45)), (some (33, false)), true⟩, ⟨(some 47), (.mv (.tmp 46)), (some (33, false)), true⟩, ⟨(some 48), (.mv (.tmp 5)), (some (47, true)), true⟩, ⟨(some 49), (.mv (.tmp 3)), (some (47, true)), true⟩, ⟨(some 50), (.bin .lss (.tmp 48) (.tmp 49)), (some (47, true)), true⟩, ⟨(some 51), (.pick (.tmp 47) (.tmp 50) (.val (.bool false))), (some (33, false)), true⟩, ⟨(some 52), (.pick (.tmp 33) (.val (.bool true)) (.tmp 51)), none, true⟩]) (.cond (.tmp 52) (.reg none [⟨(some 4), (.mv (.val (.bool false))), none, true⟩]) .skip))) (.reg none [⟨(some 18), (.mv (.tmp 5)), none, true⟩, ⟨(some 19), (.bin .add (.tmp 18) (.val (.int .i64 1))), none, true⟩, ⟨(some 5), (.mv (.tmp 19)), none, true⟩])))))) (.seq (.reg none [⟨(some 53), (.mv (.tmp 4)), none, true⟩]) (.cond (.tmp 53) (.seq (.reg none [⟨(some 54), (.mv (.tmp 3)), none, true⟩, ⟨(some 2), (.mv (.tmp 54)), none, true⟩]) .ret) .skip))))) (.reg none [⟨(some 11), (.mv (.tmp 3)), none, true⟩, ⟨(some 12), (.bin .add (.tmp 11) (.val (.int .i64 1))), none, true⟩, ⟨(some 3), (.mv (.tmp 12)), none, true⟩])))))) (.seq (.reg none [⟨(some 2), (.mv (.val (.int .i64 (-1)))), none, true⟩]) .ret)))
def R30 : List LRes := [(.tmp 2)]
theorem low30 : Try.f30.body.bind (lowerCode Try.prog 55) = some L30 := by kernel_rfl
theorem res30 : lowerRes Try.prog Try.f30.results.toList = some R30 := by kernel_rfl
set_option maxRecDepth 100000 in
def L31 : LC := (.seq (.reg none [⟨(some 6), (.mv (.val (.bool false))), none, true⟩]) (.seq (.reg none [⟨(some 7), (.mv (.tmp 0)), none, true⟩, ⟨(some 8), (.mv (.tmp 1)), none, true⟩, ⟨(some 9), (.bin .geq (.tmp 7) (.tmp 8)), none, true⟩, ⟨(some 10), (.mv (.tmp 9)), none, true⟩, ⟨(some 11), (.mv (.tmp 0)), (some (10, true)), true⟩, ⟨(some 12), (.mv (.tmp 2)), (some (10, true)), true⟩, ⟨(some 13), (.bin .leq (.tmp 11) (.tmp 12)), (some (10, true)), true⟩, ⟨(some 14), (.pick (.tmp 10) (.tmp 13) (.val (.bool false))), none, true⟩, ⟨(some 6), (.mv (.tmp 14)), none, true⟩]) .ret))
def R31 : List LRes := [(.tmp 6)]
theorem low31 : Try.f31.body.bind (lowerCode Try.prog 15) = some L31 := by kernel_rfl
theorem res31 : lowerRes Try.prog Try.f31.results.toList = some R31 := by kernel_rfl
set_option maxRecDepth 100000 in
def L32 : LC := (.seq (.reg none [⟨(some 2), (.mv (.val (.bool false))), none, true⟩]) (.seq (.reg none [⟨(some 3), (.mv (.tmp 0)), none, true⟩, ⟨(some 4), (.call 31 [(.tmp 3), (.val (.int .i64 1)), (.val (.int .i64 20))] 0), none, true⟩, ⟨(some 2), (.mv (.tmp 4)), none, true⟩]) .ret))
def R32 : List LRes := [(.tmp 2)]
theorem low32 : Try.f32.body.bind (lowerCode Try.prog 5) = some L32 := by kernel_rfl
theorem res32 : lowerRes Try.prog Try.f32.results.toList = some R32 := by kernel_rfl
set_option maxRecDepth 100000 in
def L33 : LC := (.seq (.reg none [⟨(some 1), (.box (.tmp 0)), none, true⟩, ⟨(some 2), (.mv (.val (.int .i64 0))), none, true⟩]) (.seq (.seq (.reg none [⟨(some 7), (.addr 2 (.tmp 1)), none, true⟩, ⟨(some 8), (.load 1 false (.tmp 7)), none, true⟩, ⟨(some 9), (.len false (.tmp 8)), none, true⟩, ⟨(some 10), (.mv (.val (.int .i64 0))), none, true⟩]) (.block 0 (.loop (.seq (.reg none [⟨(some 11), (.bin .lss (.tmp 10) (.tmp 9)), none, true⟩]) (.seq (.cond (.tmp 11) .skip (.exit 0)) (.seq (.block 1 (.seq (.reg none [⟨(some 12), (.mv (.tmp 10)), none, true⟩, ⟨(some 13), (.iaddrS 1 (.tmp 8) (.tmp 10)), none, true⟩, ⟨(some 14), (.load 1 false (.tmp 13)), none, true⟩, ⟨(some 3), (.mv (.tmp 12)), none, true⟩, ⟨(some 4), (.mv (.tmp 14)), none, true⟩]) (.seq (.reg none [⟨(some 16), (.addr 1 (.tmp 1)), none, true⟩, ⟨(some 17), (.load 1 false (.tmp 16)), none, true⟩, ⟨(some 18), (.mv (.tmp 4)), none, true⟩, ⟨(some 19), (.call 38 [(.tmp 17), (.tmp 18)] 0), none, true⟩, ⟨(some 15), (.mv (.tmp 19)), none, true⟩, ⟨(some 20), (.ext 0 (.tmp 15)), none, true⟩, ⟨(some 21), (.ext 1 (.tmp 15)), none, true⟩, ⟨(some 5), (.mv (.tmp 20)), none, true⟩, ⟨(some 6), (.mv (.tmp 21)), none, true⟩]) (.block 2 (.seq (.reg none [⟨(some 23), (.mv (.tmp 4)), none, true⟩, ⟨(some 24), (.call 32 [(.tmp 23)] 0), none, true⟩, ⟨(some 25), (.not (.tmp 24)), none, true⟩, ⟨(some 22), (.mv (.tmp 25)), none, true⟩]) (.cond (.tmp 22) (.seq (.reg none [⟨(some 2), (.mv (.val (.int .i64 3))), none, true⟩]) .ret) (.seq (.reg none [⟨(some 27), (.mv (.tmp 6)), none, true⟩, ⟨(some 28), (.mv (.tmp 27)), none, true⟩, ⟨(some 29), (.addr 2 (.tmp 1)), (some (28, false)), true⟩, ⟨(some 30), (.load 1 false (.tmp 29)), (some (28, false)), true⟩, ⟨(some 31), (.mv (.tmp 3)), (some (28, false)), true⟩, ⟨(some 32), (.slc 1 (.tmp 30) none (some (.tmp 31))), (some (28, false)), true⟩, ⟨(some 33), (.mv (.tmp 4)), (some (28, false)), true⟩, ⟨(some 34), (.call 39 [(.tmp 32), (.tmp 33)] 0), (some (28, false)), true⟩, ⟨(some 35), (.pick (.tmp 28) (.val (.bool true)) (.tmp 34)), none, true⟩, ⟨(some 26), (.mv (.tmp 35)), none, true⟩]) (.cond (.tmp 26) (.seq (.reg none [⟨(some 2), (.mv (.val (.int .i64 6))), none, true⟩]) .ret) .skip)))))))) (.reg none [⟨(some 36), (.bin .add (.tmp 10) (.val (.int .i64 1))), none, true⟩, ⟨(some 10), (.mv (.tmp 36)), none, true⟩]))))))) (.seq (.reg none [⟨(some 2), (.mv (.val (.int .i64 0))), none, true⟩]) .ret)))
def R33 : List LRes := [(.tmp 2)]
theorem low33 : Try.f33.body.bind (lowerCode Try.prog 37) = some L33 := by kernel_rfl
theorem res33 : lowerRes Try.prog Try.f33.results.toList = some R33 := by kernel_rfl
set_option maxRecDepth 100000 in
def L34 : LC := (.seq (.reg none [⟨(some 2), (.mv (.val (.int .i64 0))), none, true⟩]) (.seq (.reg none [⟨(some 3), (.mv (.val (.int .i64 (-1)))), none, true⟩]) (.seq (.seq (.reg none [⟨(some 5), (.mv (.tmp 0)), none, true⟩, ⟨(some 6), (.len false (.tmp 5)), none, true⟩, ⟨(some 7), (.mv (.val (.int .i64 0))), none, true⟩]) (.block 0 (.loop (.seq (.reg none [⟨(some 8), (.bin .lss (.tmp 7) (.tmp 6)), none, true⟩]) (.seq (.cond (.tmp 8) .skip (.exit 0)) (.seq (.block 1 (.seq (.reg none [⟨(some 9), (.mv (.tmp 7)), none, true⟩, ⟨(some 4), (.mv (.tmp 9)), none, true⟩]) (.seq (.reg (some []) [⟨(some 10), (.mv (.tmp 3)), none, true⟩, ⟨(some 11), (.bin .lss (.tmp 10) (.val (.int .i64 0))), none, true⟩, ⟨(some 12), (.mv (.tmp 11)), none, true⟩, ⟨(some 13), (.mv (.tmp 0)), (some (12, false)), true⟩, ⟨(some 14), (.mv (.tmp 4)), (some (12, false)), true⟩, ⟨(some 15), (.iaddrS 3 (.tmp 13) (.tmp 14)), (some (12, false)), false⟩, ⟨(some 16), (.load 3 true (.tmp 15)), (some (12, false)), false⟩, ⟨(some 17), (.mv (.tmp 0)), (some (12, false)), true⟩, ⟨(some 18), (.mv (.tmp 3)), (some (12, false)), true⟩, ⟨(some 19), (.iaddrS 3 (.tmp 17) (.tmp 18)), (some (12, false)), false⟩, ⟨(some 20), (.load 3 true (.tmp 19)), (some (12, false)), false⟩, ⟨(some 21), (.call 43 [(.tmp 16), (.tmp 20)] 0), (some (12, false)), true⟩, ⟨(some 22), (.bin .lss (.tmp 21) (.val (.int .i64 0))), (some (12, false)), true⟩, ⟨(some 23), (.pick (.tmp 12) (.val (.bool true)) (.tmp 22)), none, true⟩]) (.cond (.tmp 23) (.reg none [⟨(some 24), (.mv (.tmp 4)), none, true⟩, ⟨(some 3), (.mv (.tmp 24)), none, true⟩]) .skip)))) (.reg none [⟨(some 25), (.bin .add (.tmp 7) (.val (.int .i64 1))), none, true⟩, ⟨(some 7), (.mv (.tmp 25)), none, true⟩]))))))) (.seq (.reg none [⟨(some 26), (.mv (.tmp 3)), none, true⟩, ⟨(some 2), (.mv (.tmp 26)), none, true⟩]) .ret))))
def R34 : List LRes := [(.tmp 2)]
theorem low34 : Try.f34.body.bind (lowerCode Try.prog 27) = some L34 := by kernel_rfl
theorem res34 : lowerRes Try.prog Try.f34.results.toList = some R34 := by kernel_rfl
set_option maxRecDepth 100000 in
def L35 : LC := (.seq (.reg none [⟨(some 2), (.box (.tmp 0)), none, true⟩, ⟨(some 3), (.box (.tmp 1)), none, true⟩, ⟨(some 4), (.mv (.val (.bool false))), none, true⟩]) (.seq (.seq (.reg none [⟨(some 7), (.addr 0 (.tmp 2)), none, true⟩, ⟨(some 8), (.load 1 false (.tmp 7)), none, true⟩, ⟨(some 9), (.addr 0 (.tmp 3)), none, true⟩, ⟨(some 10), (.load 1 false (.tmp 9)), none, true⟩, ⟨(some 11), (.bin .neq (.tmp 8) (.tmp 10)), none, true⟩, ⟨(some 12), (.mv (.tmp 11)), none, true⟩, ⟨(some 13), (.addr 1 (.tmp 2)), (some (12, false)), true⟩, ⟨(some 14), (.load 1 false (.tmp 13)), (some (12, false)), true⟩, ⟨(some 15), (.len false (.tmp 14)), (some (12, false)), true⟩, ⟨(some 16), (.addr 1 (.tmp 3)), (some (12, false)), true⟩, ⟨(some 17), (.load 1 false (.tmp 16)), (some (12, false)), true⟩, ⟨(some 18), (.len false (.tmp 17)), (some (12, false)), true⟩, ⟨(some 19), (.bin .neq (.tmp 15) (.tmp 18)), (some (12, false)), true⟩, ⟨(some 20), (.pick (.tmp 12) (.val (.bool true)) (.tmp 19)), none, true⟩, ⟨(some 21), (.mv (.tmp 20)), none, true⟩, ⟨(some 22), (.addr 2 (.tmp 2)), (some (21, false)), true⟩, ⟨(some 23), (.load 1 false (.tmp 22)), (some (21, false)), true⟩, ⟨(some 24), (.len false (.tmp 23)), (some (21, false)), true⟩, ⟨(some 25), (.addr 2 (.tmp 3)), (some (21, false)), true⟩, ⟨(some 26), (.load 1 false (.tmp 25)), (some (21, false)), true⟩, ⟨(some 27), (.len false (.tmp 26)), (some (21, false)), true⟩, ⟨(some 28), (.bin .neq (.tmp 24) (.tmp 27)), (some (21, false)), true⟩, ⟨(some 29), (.pick (.tmp 21) (.val (.bool true)) (.tmp 28)), none, true⟩]) (.cond (.tmp 29) (.seq (.reg none [⟨(some 4), (.mv (.val (.bool false))), none, true⟩]) .ret) .skip)) (.seq (.seq (.reg none [⟨(some 5), (.mv (.val (.int .i64 0))), none, true⟩]) (.block 0 (.loop (.seq (.seq (.reg none [⟨(some 30), (.mv (.tmp 5)), none, true⟩, ⟨(some 31), (.addr 1 (.tmp 2)), none, true⟩, ⟨(some 32), (.load 1 false (.tmp 31)), none, true⟩, ⟨(some 33), (.len false (.tmp 32)), none, true⟩, ⟨(some 34), (.bin .lss (.tmp 30) (.tmp 33)), none, true⟩]) (.cond (.tmp 34) .skip (.exit 0))) (.seq (.block 1 (.seq (.reg (some []) [⟨(some 37), (.addr 1 (.tmp 2)), none, false⟩, ⟨(some 38), (.load 1 false (.tmp 37)), none, false⟩, ⟨(some 39), (.mv (.tmp 5)), none, true⟩, ⟨(some 40), (.iaddrS 3 (.tmp 38) (.tmp 39)), none, false⟩, ⟨(some 41), (.load 3 true (.tmp 40)), none, false⟩, ⟨(some 42), (.addr 1 (.tmp 3)), none, false⟩, ⟨(some 43), (.load 1 false (.tmp 42)), none, false⟩, ⟨(some 44), (.mv (.tmp 5)), none, true⟩, ⟨(some 45), (.iaddrS 3 (.tmp 43) (.tmp 44)), none, false⟩, ⟨(some 46), (.load 3 true (.tmp 45)), none, false⟩, ⟨(some 47), (.eqag true [.i, .i, .b] (.tmp 41) (.tmp 46)), none, true⟩]) (.cond (.tmp 47) (.seq (.reg none [⟨(some 4), (.mv (.val (.bool false))), none, true⟩]) .ret) .skip))) (.reg none [⟨(some 35), (.mv (.tmp 5)), none, true⟩, ⟨(some 36), (.bin .add (.tmp 35) (.val (.int .i64 1))), none, true⟩, ⟨(some 5), (.mv (.tmp 36)), none, true⟩])))))) (.seq (.seq (.reg none [⟨(some 6), (.mv (.val (.int .i64 0))), none, true⟩]) (.block 2 (.loop (.seq (.seq (.reg none [⟨(some 48), (.mv (.tmp 6)), none, true⟩, ⟨(some 49), (.addr 2 (.tmp 2)), none, true⟩, ⟨(some 50), (.load 1 false (.tmp 49)), none, true⟩, ⟨(some 51), (.len false (.tmp 50)), none, true⟩, ⟨(some 52), (.bin .lss (.tmp 48) (.tmp 51)), none, true⟩]) (.cond (.tmp 52) .skip (.exit 2))) (.seq (.block 3 (.seq (.reg (some []) [⟨(some 55), (.addr 2 (.tmp 2)), none, false⟩, ⟨(some 56), (.load 1 false (.tmp 55)), none, false⟩, ⟨(some 57), (.mv (.tmp 6)), none, true⟩, ⟨(some 58), (.iaddrS 1 (.tmp 56) (.tmp 57)), none, false⟩, ⟨(some 59), (.load 1 false (.tmp 58)), none, false⟩, ⟨(some 60), (.addr 2 (.tmp 3)), none, false⟩, ⟨(some 61), (.load 1 false (.tmp 60)), none, false⟩, ⟨(some 62), (.mv (.tmp 6)), none, true⟩, ⟨(some 63), (.iaddrS 1 (.tmp 61) (.tmp 62)), none, false⟩, ⟨(some 64), (.load 1 false (.tmp 63)), none, false⟩, ⟨(some 65), (.bin .neq (.tmp 59) (.tmp 64)), none, true⟩]) (.cond (.tmp 65) (.seq (.reg none [⟨(some 4), (.mv (.val (.bool false))), none, true⟩]) .ret) .skip))) (.reg none [⟨(some 53), (.mv (.tmp 6)), none, true⟩, ⟨(some 54), (.bin .add (.tmp 53) (.val (.int .i64 1))), none, true⟩, ⟨(some 6), (.mv (.tmp 54)), none, true⟩])))))) (.seq (.reg none [⟨(some 4), (.mv (.val (.bool true))), none, true⟩]) .ret)))))
def R35 : List LRes := [(.tmp 4)]
theorem low35 : Try.f35.body.bind (lowerCode Try.prog 66) = some L35 := by kernel_rfl
theorem res35 : lowerRes Try.prog Try.f35.results.toList = some R35 := by kernel_rfl
set_option maxRecDepth 100000 in
def L36 : LC := (.seq (.reg none [⟨(some 2), (.mv (.val .nilsl)), none, true⟩]) (.seq (.seq (.reg none [⟨(some 3), (.mv (.tmp 0)), none, true⟩, ⟨(some 4), (.isnil false (.tmp 3)), none, true⟩]) (.cond (.tmp 4) (.seq (.reg none [⟨(some 2), (.mv (.val .nilsl)), none, true⟩]) .ret) .skip)) (.seq (.reg none [⟨(some 5), (.mk0 48 3), none, true⟩, ⟨(some 6), (.mv (.tmp 0)), none, true⟩, ⟨(some 7), (.append 48 3 24 (.tmp 5) (.tmp 6)), none, true⟩, ⟨(some 2), (.mv (.tmp 7)), none, true⟩]) .ret)))
def R36 : List LRes := [(.tmp 2)]
theorem low36 : Try.f36.body.bind (lowerCode Try.prog 8) = some L36 := by kernel_rfl
theorem res36 : lowerRes Try.prog Try.f36.results.toList = some R36 := by kernel_rfl
set_option maxRecDepth 100000 in
def L37 : LC := (.seq (.reg none [⟨(some 2), (.mv (.val .nilsl)), none, true⟩]) (.seq (.seq (.reg none [⟨(some 3), (.mv (.tmp 0)), none, true⟩, ⟨(some 4), (.isnil false (.tmp 3)), none, true⟩]) (.cond (.tmp 4) (.seq (.reg none [⟨(some 2), (.mv (.val .nilsl)), none, true⟩]) .ret) .skip)) (.seq (.reg none [⟨(some 5), (.mk0 3 1), none, true⟩, ⟨(some 6), (.mv (.tmp 0)), none, true⟩, ⟨(some 7), (.append 3 1 8 (.tmp 5) (.tmp 6)), none, true⟩, ⟨(some 2), (.mv (.tmp 7)), none, true⟩]) .ret)))
def R37 : List LRes := [(.tmp 2)]
theorem low37 : Try.f37.body.bind (lowerCode Try.prog 8) = some L37 := by kernel_rfl
theorem res37 : lowerRes Try.prog Try.f37.results.toList = some R37 := by kernel_rfl
set_option maxRecDepth 100000 in
def L38 : LC := (.seq (.reg none [⟨(some 4), (.mv (.val (.int .i64 0))), none, true⟩, ⟨(some 5), (.mv (.val (.bool false))), none, true⟩]) (.seq (.reg none [⟨(some 6), (.mv (.tmp 0)), none, true⟩, ⟨(some 7), (.mv (.tmp 1)), none, true⟩, ⟨(some 8), (.call 44 [(.tmp 6), (.tmp 7), (.val (.clo 45 []))] 0), none, true⟩, ⟨(some 9), (.ext 0 (.tmp 8)), none, true⟩, ⟨(some 10), (.ext 1 (.tmp 8)), none, true⟩, ⟨(some 4), (.mv (.tmp 9)), none, true⟩, ⟨(some 5), (.mv (.tmp 10)), none, true⟩]) .ret))
def R38 : List LRes := [(.tmp 4), (.tmp 5)]
theorem low38 : Try.f38.body.bind (lowerCode Try.prog 11) = some L38 := by kernel_rfl
theorem res38 : lowerRes Try.prog Try.f38.results.toList = some R38 := by kernel_rfl
set_option maxRecDepth 100000 in
def L39 : LC := (.seq (.reg none [⟨(some 4), (.mv (.val (.bool false))), none, true⟩]) (.seq (.reg none [⟨(some 5), (.mv (.tmp 0)), none, true⟩, ⟨(some 6), (.mv (.tmp 1)), none, true⟩, ⟨(some 7), (.call 46 [(.tmp 5), (.tmp 6)] 0), none, true⟩, ⟨(some 8), (.bin .geq (.tmp 7) (.val (.int .i64 0))), none, true⟩, ⟨(some 4), (.mv (.tmp 8)), none, true⟩]) .ret))
def R39 : List LRes := [(.tmp 4)]
theorem low39 : Try.f39.body.bind (lowerCode Try.prog 9) = some L39 := by kernel_rfl
theorem res39 : lowerRes Try.prog Try.f39.results.toList = some R39 := by kernel_rfl
set_option maxRecDepth 100000 in
def L42 : LC := (.seq (.reg none [⟨(some 6), (.mv (.val (.bool false))), none, true⟩]) (.seq (.reg none [⟨(some 7), (.mv (.tmp 0)), none, true⟩, ⟨(some 8), (.mv (.tmp 1)), none, true⟩, ⟨(some 9), (.bin .geq (.tmp 7) (.tmp 8)), none, true⟩, ⟨(some 10), (.mv (.tmp 9)), none, true⟩, ⟨(some 11), (.mv (.tmp 0)), (some (10, true)), true⟩, ⟨(some 12), (.mv (.tmp 2)), (some (10, true)), true⟩, ⟨(some 13), (.bin .leq (.tmp 11) (.tmp 12)), (some (10, true)), true⟩, ⟨(some 14), (.pick (.tmp 10) (.tmp 13) (.val (.bool false))), none, true⟩, ⟨(some 6), (.mv (.tmp 14)), none, true⟩]) .ret))
def R42 : List LRes := [(.tmp 6)]
theorem low42 : Try.f42.body.bind (lowerCode Try.prog 15) = some L42 := by kernel_rfl
theorem res42 : lowerRes Try.prog Try.f42.results.toList = some R42 := by kernel_rfl
set_option maxRecDepth 100000 in
def L43 : LC := (.seq (.reg none [⟨(some 2), (.box (.tmp 0)), none, true⟩, ⟨(some 3), (.box (.tmp 1)), none, true⟩, ⟨(some 4), (.mv (.val (.int .i64 0))), none, true⟩]) (.seq (.seq (.reg none [⟨(some 5), (.addr 1 (.tmp 2)), none, true⟩, ⟨(some 6), (.load 1 false (.tmp 5)), none, true⟩, ⟨(some 7), (.addr 1 (.tmp 3)), none, true⟩, ⟨(some 8), (.load 1 false (.tmp 7)), none, true⟩, ⟨(some 9), (.bin .neq (.tmp 6) (.tmp 8)), none, true⟩]) (.cond (.tmp 9) (.seq (.reg none [⟨(some 10), (.addr 1 (.tmp 2)), none, true⟩, ⟨(some 11), (.load 1 false (.tmp 10)), none, true⟩, ⟨(some 12), (.addr 1 (.tmp 3)), none, true⟩, ⟨(some 13), (.load 1 false (.tmp 12)), none, true⟩, ⟨(some 14), (.bin .sub (.tmp 11) (.tmp 13)), none, true⟩, ⟨(some 4), (.mv (.tmp 14)), none, true⟩]) .ret) .skip)) (.seq (.reg none [⟨(some 15), (.addr 0 (.tmp 2)), none, true⟩, ⟨(some 16), (.load 1 false (.tmp 15)), none, true⟩, ⟨(some 17), (.addr 0 (.tmp 3)), none, true⟩, ⟨(some 18), (.load 1 false (.tmp 17)), none, true⟩, ⟨(some 19), (.bin .sub (.tmp 16) (.tmp 18)), none, true⟩, ⟨(some 4), (.mv (.tmp 19)), none, true⟩]) .ret)))
def R43 : List LRes := [(.tmp 4)]
theorem low43 : Try.f43.body.bind (lowerCode Try.prog 20) = some L43 := by kernel_rfl
theorem res43 : lowerRes Try.prog Try.f43.results.toList = some R43 := by kernel_rfl
set_option maxRecDepth 100000 in
def L44 : LC := (.seq (.reg none [⟨(some 6), (.mv (.val (.int .i64 0))), none, true⟩, ⟨(some 7), (.mv (.val (.bool false))), none, true⟩]) (.seq (.reg none [⟨(some 12), (.mv (.tmp 0)), none, true⟩, ⟨(some 13), (.len false (.tmp 12)), none, true⟩, ⟨(some 8), (.mv (.tmp 13)), none, true⟩]) (.seq (.reg none [⟨(some 14), (.mv (.tmp 8)), none, true⟩, ⟨(some 9), (.mv (.val (.int .i64 0))), none, true⟩, ⟨(some 10), (.mv (.tmp 14)), none, true⟩]) (.seq (.block 0 (.loop (.seq (.seq (.reg none [⟨(some 15), (.mv (.tmp 9)), none, true⟩, ⟨(some 16), (.mv (.tmp 10)), none, true⟩, ⟨(some 17), (.bin .lss (.tmp 15) (.tmp 16)), none, true⟩]) (.cond (.tmp 17) .skip (.exit 0))) (.block 1 (.seq (.reg none [⟨(some 18), (.mv (.tmp 9)), none, true⟩, ⟨(some 19), (.mv (.tmp 10)), none, true⟩, ⟨(some 20), (.bin .add (.tmp 18) (.tmp 19)), none, true⟩, ⟨(some 21), (.conv .u64 (.tmp 20)), none, true⟩, ⟨(some 22), (.bin .shr (.tmp 21) (.val (.int .u64 1))), none, true⟩, ⟨(some 23), (.conv .i64 (.tmp 22)), none, true⟩, ⟨(some 11), (.mv (.tmp 23)), none, true⟩]) (.seq (.reg none [⟨(some 24), (.mv (.tmp 2)), none, true⟩, ⟨(some 25), (.mv (.tmp 0)), none, true⟩, ⟨(some 26), (.mv (.tmp 11)), none, true⟩, ⟨(some 27), (.iaddrS 3 (.tmp 25) (.tmp 26)), none, true⟩, ⟨(some 28), (.load 3 true (.tmp 27)), none, true⟩, ⟨(some 29), (.mv (.tmp 1)), none, true⟩, ⟨(some 30), (.callv (.tmp 24) [(.tmp 28), (.tmp 29)]), none, true⟩, ⟨(some 31), (.bin .lss (.tmp 30) (.val (.int .i64 0))), none, true⟩]) (.cond (.tmp 31) (.reg none [⟨(some 32), (.mv (.tmp 11)), none, true⟩, ⟨(some 33), (.bin .add (.tmp 32) (.val (.int .i64 1))), none, true⟩, ⟨(some 9), (.mv (.tmp 33)), none, true⟩]) (.reg none [⟨(some 34), (.mv (.tmp 11)), none, true⟩, ⟨(some 10), (.mv (.tmp 34)), none, true⟩])))))))) (.seq (.reg none [⟨(some 35), (.mv (.tmp 9)), none, true⟩, ⟨(some 36), (.mv (.tmp 9)), none, true⟩, ⟨(some 37), (.mv (.tmp 8)), none, true⟩, ⟨(some 38), (.bin .lss (.tmp 36) (.tmp 37)), none, true⟩, ⟨(some 39), (.mv (.tmp 38)), none, true⟩, ⟨(some 40), (.mv (.tmp 2)), (some (39, true)), true⟩, ⟨(some 41), (.mv (.tmp 0)), (some (39, true)), true⟩, ⟨(some 42), (.mv (.tmp 9)), (some (39, true)), true⟩, ⟨(some 43), (.iaddrS 3 (.tmp 41) (.tmp 42)), (some (39, true)), true⟩, ⟨(some 44), (.load 3 true (.tmp 43)), (some (39, true)), true⟩, ⟨(some 45), (.mv (.tmp 1)), (some (39, true)), true⟩, ⟨(some 46), (.callv (.tmp 40) [(.tmp 44), (.tmp 45)]), (some (39, true)), true⟩, ⟨(some 47), (.bin .eql (.tmp 46) (.val (.int .i64 0))), (some (39, true)), true⟩, ⟨(some 48), (.pick (.tmp 39) (.tmp 47) (.val (.bool false))), none, true⟩, ⟨(some 6), (.mv (.tmp 35)), none, true⟩, ⟨(some 7), (.mv (.tmp 48)), none, true⟩]) .ret)))))
def R44 : List LRes := [(.tmp 6), (.tmp 7)]
theorem low44 : Try.f44.body.bind (lowerCode Try.prog 49) = some L44 := by kernel_rfl
theorem res44 : lowerRes Try.prog Try.f44.results.toList = some R44 := by kernel_rfl
set_option maxRecDepth 100000 in
def L45 : LC := (.seq (.reg none [⟨(some 2), (.box (.tmp 0)), none, true⟩, ⟨(some 4), (.mv (.val (.int .i64 0))), none, true⟩]) (.seq (.block 0 (.seq (.reg none [⟨(some 6), (.addr 0 (.tmp 2)), none, true⟩, ⟨(some 7), (.load 1 false (.tmp 6)), none, true⟩, ⟨(some 8), (.mv (.tmp 1)), none, true⟩, ⟨(some 9), (.bin .lss (.tmp 7) (.tmp 8)), none, true⟩, ⟨(some 5), (.mv (.tmp 9)), none, true⟩]) (.cond (.tmp 5) (.seq (.reg none [⟨(some 4), (.mv (.val (.int .i64 (-1)))), none, true⟩]) .ret) (.seq (.reg none [⟨(some 11), (.addr 0 (.tmp 2)), none, true⟩, ⟨(some 12), (.load 1 false (.tmp 11)), none, true⟩, ⟨(some 13), (.mv (.tmp 1)), none, true⟩, ⟨(some 14), (.bin .gtr (.tmp 12) (.tmp 13)), none, true⟩, ⟨(some 10), (.mv (.tmp 14)), none, true⟩]) (.cond (.tmp 10) (.seq (.reg none [⟨(some 4), (.mv (.val (.int .i64 1))), none, true⟩]) .ret) .skip))))) (.seq (.reg none [⟨(some 4), (.mv (.val (.int .i64 0))), none, true⟩]) .ret)))
def R45 : List LRes := [(.tmp 4)]
theorem low45 : Try.f45.body.bind (lowerCode Try.prog 15) = some L45 := by kernel_rfl
theorem res45 : lowerRes Try.prog Try.f45.results.toList = some R45 := by kernel_rfl
set_option maxRecDepth 100000 in
def L46 : LC := (.seq (.reg none [⟨(some 4), (.mv (.val (.int .i64 0))), none, true⟩]) (.seq (.seq (.reg none [⟨(some 6), (.mv (.tmp 0)), none, true⟩, ⟨(some 7), (.len false (.tmp 6)), none, true⟩, ⟨(some 8), (.mv (.val (.int .i64 0))), none, true⟩]) (.block 0 (.loop (.seq (.reg none [⟨(some 9), (.bin .lss (.tmp 8) (.tmp 7)), none, true⟩]) (.seq (.cond (.tmp 9) .skip (.exit 0)) (.seq (.block 1 (.seq (.reg none [⟨(some 10), (.mv (.tmp 8)), none, true⟩, ⟨(some 5), (.mv (.tmp 10)), none, true⟩]) (.seq (.reg none [⟨(some 11), (.mv (.tmp 1)), none, true⟩, ⟨(some 12), (.mv (.tmp 0)), none, true⟩, ⟨(some 13), (.mv (.tmp 5)), none, true⟩, ⟨(some 14), (.iaddrS 1 (.tmp 12) (.tmp 13)), none, true⟩, ⟨(some 15), (.load 1 false (.tmp 14)), none, true⟩, ⟨(some 16), (.bin .eql (.tmp 11) (.tmp 15)), none, true⟩]) (.cond (.tmp 16) (.seq (.reg none [⟨(some 17), (.mv (.tmp 5)), none, true⟩, ⟨(some 4), (.mv (.tmp 17)), none, true⟩]) .ret) .skip)))) (.reg none [⟨(some 18), (.bin .add (.tmp 8) (.val (.int .i64 1))), none, true⟩, ⟨(some 8), (.mv (.tmp 18)), none, true⟩]))))))) (.seq (.reg none [⟨(some 4), (.mv (.val (.int .i64 (-1)))), none, true⟩]) .ret)))
def R46 : List LRes := [(.tmp 4)]
theorem low46 : Try.f46.body.bind (lowerCode Try.prog 19) = some L46 := by kernel_rfl
theorem res46 : lowerRes Try.prog Try.f46.results.toList = some R46 := by kernel_rfl
end Go.Proofs.Ytocglfkflpkafaa
namespace Go.Proofs.Ytocglfkflpkafaa
set_option linter.unusedSimpArgs false
set_option linter.unusedVariables false
open Go.RowKit
theorem within_meets (n a b : Int) : Meets Try.prog 42 [.int .i64 n, .int .i64 a, .int .i64 b] [] (.bool (wthn n a b)) [] := by
  refine Meets.of_walk Try.func42 Try.ntmps42 low42 res42 (by simp) fun x hx => ?_
  by_cases h : a ≤ n
  all_goals
    simp only [go_sem, Nat.reduceLT, Nat.reduceAdd, Nat.reduceEqDiff, Nat.reduceLeDiff, Nat.reduceSub, Nat.reduceMul, Int.reduceEq, eq_self, reduceIte, L42, R42, h, decide_true, decide_false]
    refine ret_pure hx ?_
    simp only [go_sem, Nat.reduceLT, Nat.reduceAdd, Nat.reduceEqDiff, Nat.reduceLeDiff, Nat.reduceSub, Nat.reduceMul, Int.reduceEq, eq_self, reduceIte, L42, R42, wthn, h, decide_false, true_and, false_and]
end Go.Proofs.Ytocglfkflpkafaa
namespace Go.Proofs.Ytocglfkflpkafaa
set_option linter.unusedSimpArgs false
set_option linter.unusedVariables false
open Go.RowKit
def cId (x : Id) : List PV := [.int .i64 x.r, .int .i64 x.n]
theorem colors_meets (n : Int) : Meets Try.prog 23 [.int .i64 n] [] (.bool (wthn n 1 7)) [] := by
  refine Meets.of_walk Try.func23 Try.ntmps23 low23 res23 (by simp) fun x hx => ?_
  simp only [go_sem, Nat.reduceLT, Nat.reduceAdd, Nat.reduceEqDiff, Nat.reduceLeDiff, Nat.reduceSub, Nat.reduceMul, Int.reduceEq, eq_self, reduceIte, L23, R23]
  refine ops_call (.pure (within_meets _ _ _)) ?_
  simp only [go_sem, Nat.reduceLT, Nat.reduceAdd, Nat.reduceEqDiff, Nat.reduceLeDiff, Nat.reduceSub, Nat.reduceMul, Int.reduceEq, eq_self, reduceIte]
  refine ret_pure hx ?_
  simp only [go_sem, Nat.reduceLT, Nat.reduceAdd, Nat.reduceEqDiff, Nat.reduceLeDiff, Nat.reduceSub, Nat.reduceMul, Int.reduceEq, eq_self, reduceIte, L23, R23]
end Go.Proofs.Ytocglfkflpkafaa
namespace Go.Proofs.Ytocglfkflpkafaa
set_option linter.unusedSimpArgs false
set_option linter.unusedVariables false
open Go.RowKit
def cE (e : Entry) : List PV := [.int .i64 e.id.r, .int .i64 e.id.n, .int .i64 e.c, .str e.t, .list (e.ls.map cId)]
end Go.Proofs.Ytocglfkflpkafaa
/- What the law texts say of entries, in words of their own: contracts. -/
namespace Go.Proofs.Ytocglfkflpkafaa
set_option linter.unusedSimpArgs false
set_option linter.unusedVariables false
open Go.RowKit
theorem between_meets (n a b : Int) : Meets Try.prog 27 [.int .i64 n, .int .i64 a, .int .i64 b] [] (.bool (wthn n a b)) [] := by
  refine Meets.of_walk Try.func27 Try.ntmps27 low27 res27 (by simp) fun x hx => ?_
  by_cases h : a ≤ n
  all_goals
    simp only [go_sem, Nat.reduceLT, Nat.reduceAdd, Nat.reduceEqDiff, Nat.reduceLeDiff, Nat.reduceSub, Nat.reduceMul, Int.reduceEq, eq_self, reduceIte, L27, R27, h, decide_true, decide_false]
    refine ret_pure hx ?_
    simp only [go_sem, Nat.reduceLT, Nat.reduceAdd, Nat.reduceEqDiff, Nat.reduceLeDiff, Nat.reduceSub, Nat.reduceMul, Int.reduceEq, eq_self, reduceIte, L27, R27, wthn, h, decide_false, true_and, false_and]
end Go.Proofs.Ytocglfkflpkafaa
/- Ids and entries that are the same. -/
namespace Go.Proofs.Ytocglfkflpkafaa
set_option linter.unusedSimpArgs false
set_option linter.unusedVariables false
open Go.RowKit
theorem ids_ext' {x y : List Id} (hl : x.length = y.length) (h : ∀ k, k < x.length → nth x k = nth y k) : x = y := by
  refine List.ext_getElem hl fun k h1 h2 => ?_
  have := h k h1
  rwa [nth_eq _ _ h1, nth_eq _ _ h2] at this
theorem i64_up {k : Nat} (h : k < 9223372036854775807) : IntKind.i64.wrap ((k : Int) + 1) = ((k + 1 : Nat) : Int) := by
  rw [IntWalk.i64_in _ (by omega)]; omega
theorem beqId (a b : Id) : (decide (a.r = b.r) && decide (a.n = b.n)) = decide (a = b) := by
  rw [Bool.eq_iff_iff]; simp [Id.eq_iff]
end Go.Proofs.Ytocglfkflpkafaa
/- Entries that are the same; what is wrong with an entry, in the law text's words. -/
namespace Go.Proofs.Ytocglfkflpkafaa
set_option linter.unusedSimpArgs false
set_option linter.unusedVariables false
open Go.RowKit
def sameE (a b : Entry) : Bool := decide (a.id = b.id) && decide (a.c = b.c) && decide (a.t = b.t) && decide (a.ls = b.ls)
end Go.Proofs.Ytocglfkflpkafaa
/- slices.Compact at ids: in memory. -/
namespace Go.Proofs.Ytocglfkflpkafaa
open Go.RowKit Go.Lib Go.Sort
open Go.Shelf

def eId (x : Id) : List Value := [.int .i64 x.r, .int .i64 x.n]
theorem setMany_flat {α : Type} [Inhabited α] (enc : α → List Value) (k : Nat) (hk : ∀ x, (enc x).length = k) (d : Array α) (i : Nat) (hi : i < d.size) (x : α) : setMany (flatK enc k d) (i * k) (enc x) = flatK enc k (d.setIfInBounds i x) := by
  refine ext_get! (by simp) fun t ht => ?_
  have ht' : t < d.size * k := by simpa using ht
  have k0 : 0 < k := by rcases Nat.eq_zero_or_pos k with h | h; · subst h; simp at ht'
                        · exact h
  rw [get_setMany _ _ _ t (by simpa using ht'), get_flatK _ _ _ t ht', get_flatK _ _ _ t (by simpa using ht'), hk]
  by_cases a : t / k = i
  · have m : t - i * k = t % k := by subst a; rw [Nat.mod_eq_sub_div_mul]
    rw [if_pos ((blk_iff k i t k0).2 a), m, a, getElem!_set_same d i x hi]
  · rw [if_neg (fun h => a ((blk_iff k i t k0).1 h)), getElem!_set_other d i _ x a]

/-- 'clear(s)' at elements of k cells -/
theorem run_clear_cells {P : Program} (w : World) (t e ty : TypeId) (z : Value) (ht : P.underlying t = some (.slice e)) (hv : ∀ w, (zeroValue e).run P w = .ok z w) (h1 : ∀ v ∈ z.cells, v.oneCell' = true) (b o n c : Nat) (hn : 0 < n)
    (hc : ∀ j, j < n * z.cells.size → (w.cell? ⟨b, o + j, none⟩).isSome = true) (hf : ∀ j, j < n * z.cells.size → w.frozen? ⟨b, o + j, none⟩ = false) :
    ∃ zs : List Value, zs.length = n * z.cells.size ∧ (Builtin.clear_ #[t] ty #[.slice (some ⟨b, o, none⟩) n c]).run P w = .ok (.tuple #[]) (w.setCells b o zs) := by
  refine ⟨(Builtin.zeroCells z.cells n).toList, by simp [Builtin.zeroCells, Nat.mul_comm], ?_⟩
  have hst := run_storeCells_cells (P := P) b o (Builtin.zeroCells z.cells n).toList 0 w (by simpa [Builtin.zeroCells, Nat.mul_comm] using hc) (by simpa [Builtin.zeroCells, Nat.mul_comm] using hf) (by
    intro v hv'
    obtain ⟨i, hi, rfl⟩ := List.mem_iff_getElem.1 hv'
    simp only [Builtin.zeroCells, Array.getElem_toList, Array.getElem_map, Array.getElem_range]
    have hs : 0 < z.cells.size := by
      rcases Nat.eq_zero_or_pos z.cells.size with h | h
      · simp [Builtin.zeroCells, h] at hi
      · exact h
    have := Nat.mod_lt i hs
    exact h1 _ (by simp [getElem!_pos, this]))
  simp only [Nat.add_zero] at hst
  obtain ⟨m, rfl⟩ : ∃ m, n = m + 1 := ⟨n - 1, by omega⟩
  simp [Builtin.clear_, run_underlying ht, hv, hst]
theorem eId_len (x : Id) : (eId x).length = 2 := rfl
theorem eId_one (x : Id) : ∀ v ∈ eId x, v.oneCell' = true := by
  intro v hv; simp [eId] at hv; rcases hv with rfl | rfl <;> rfl
theorem holdsK_two {w : World} {blk off : Nat} {d : Array Id} (h : HoldsK eId 2 w blk off d) {i : Nat} (hi : i < d.size) :
    w.cell? ⟨blk, off + i * 2, none⟩ = some (.int .i64 d[i]!.r) ∧ w.cell? ⟨blk, off + i * 2 + 1, none⟩ = some (.int .i64 d[i]!.n) ∧ w.frozen? ⟨blk, off + i * 2, none⟩ = false ∧ w.frozen? ⟨blk, off + i * 2 + 1, none⟩ = false :=
  ⟨(h.cell hi (c := 0) (by omega)).1, (h.cell hi (c := 1) (by omega)).1, (h.cell hi (c := 0) (by omega)).2, (h.cell hi (c := 1) (by omega)).2⟩
theorem store_world_id {w wr : World} {n blk off : Nat} {dk : Array Id} {i : Nat} (hi : i < dk.size) (hwr : wr = putRowK eId 2 (Sort.ahead w n) blk off dk) (x : Id) :
    wr.setCells blk (off + i * 2) (eId x) = putRowK eId 2 (Sort.ahead w n) blk off (dk.setIfInBounds i x) := by
  subst hwr
  unfold putRowK
  rw [setCells_putRow _ _ _ _ _ _ (by rw [size_flatK, eId_len]; omega), setMany_flat eId 2 eId_len dk i hi x]

/-- what a row holds behind Compact -/
def CompOut (w : World) (blk off : Nat) (d : Array Id) (w' : World) : Prop :=
  ∃ (q : Nat) (F : Array Value), F.size = d.size * 2 ∧ (∀ t, t < (compactUpTo d d.size).length * 2 → F[t]! = (flatK eId 2 (compactUpTo d d.size).toArray)[t]!) ∧ w' = putRow id (Sort.ahead w q) blk off F
theorem compOut_same {w : World} {blk off : Nat} {d : Array Id} (hH : HoldsK eId 2 w blk off d) (q : Nat) (hall : ∀ j, j < d.size → keeps d j = true) : (compactUpTo d d.size).length = d.size ∧ CompOut w blk off d (w.drewN q) := by
  have e : compactUpTo d d.size = d.toList := by rw [compactUpTo_all d _ hall, range_map_get]
  refine ⟨by rw [e]; simp, q, flatK eId 2 d, size_flatK _ _ _, fun t _ => by rw [e], ?_⟩
  exact (putRow_self id (Sort.ahead w q) blk off _ (holdsK_ahead eId 2 w q blk off d hH)).symm

end Go.Proofs.Ytocglfkflpkafaa
/- slices.Compact at ids: as a contract: an array becomes a list. -/
namespace Go.Proofs.Ytocglfkflpkafaa
open Go.RowKit
open Go.Sort (flatK putRowK HoldsK size_flatK get_flatK putCells mapBlock onCells)

theorem flat_id : Flat cId eId 2 where
  k0 := by omega
  len := fun _ => rfl
  lenp := fun _ => rfl
  one := eId_one
  fit := fun S w a j p h => by
    rcases j with _ | _ | j
    · cases h; exact .int _ _
    · cases h; exact .int _ _
    · simp [cId] at h
  back := fun S w a j p u h hr => by
    rcases j with _ | _ | j
    · cases h; cases hr; rfl
    · cases h; cases hr; rfl
    · simp [cId] at h

section
variable {x : Cx} {C : Conc} {H : List AObj} {w w' : World}
theorem HR.dropNil (hr : HR x C H w) {id v T sz : Nat} {sto ipu : Bool} (hid : H[id]? = some (.arr v sto ipu T sz [])) :
    HR x C (H.set id .gone) w ∧ (∀ p u, RepV (Stab x C H w) w C p u → RepV (Stab x C (H.set id .gone) w) w C p u) :=
  hr.change (C' := C) hid (ob' := .gone) (step_refl w) rfl (fun _ => rfl) (fun _ _ => ⟨rfl, rfl⟩) (.inl ⟨rfl, rfl⟩) (fun b o hb hf => trivial) (fun b o hb hf => rfl) (fun b hb => hb.elim) (fun _ _ => trivial)

theorem row_worldF (w : World) (g m : Nat) (F : Array Value) {cur : Array Value} {T : TypeId} {fr : Nat × Nat} (hc : w.heap[g]? = some (.cells cur T fr)) :
    ∃ cur' : Array Value, (Go.Sort.putRow id (Go.Sort.ahead w m) g 0 F).heap[g]? = some (.cells cur' T fr) ∧ cur'.size = cur.size ∧
      (∀ t y, t < F.size → cur'[t]? = some y → y = F[t]!) ∧ Step w (Go.Sort.putRow id (Go.Sort.ahead w m) g 0 F) (fun b => b = g) := by
  have hlt : g < w.heap.size := (Array.getElem?_eq_some_iff.1 hc).1
  have hh : (Go.Sort.putRow id (Go.Sort.ahead w m) g 0 F).heap = w.heap.modify g (onCells (putCells id 0 F)) := rfl
  refine ⟨putCells id 0 F cur, ?_, by simp [putCells], fun t y ht hy => ?_, ?_⟩
  · rw [hh, Array.getElem?_modify, if_pos rfl, hc]
    rfl
  · rw [putCells, Array.getElem?_mapIdx] at hy
    cases hcu : cur[t]? with
    | none => rw [hcu] at hy; cases hy
    | some z =>
      rw [hcu, Option.map_some, if_pos ⟨Nat.zero_le _, by omega⟩] at hy
      exact (Option.some.inj hy).symm
  · refine ⟨by rw [hh]; simp, rfl, rfl, rfl, fun b hb hne => ?_⟩
    rw [hh, Array.getElem?_modify, if_neg (fun e => hne e.symm)]
end

theorem one_arg {vs : Array Value} (h : vs.toList.length = 1) : ∃ a, vs = #[a] ∧ vs.toList[0]? = some a := by
  obtain ⟨l⟩ := vs
  obtain ⟨a, rfl⟩ := List.length_eq_one_iff.1 h
  exact ⟨a, rfl, rfl⟩
theorem two_args {vs : Array Value} (h : vs.toList.length = 2) : ∃ a b, vs = #[a, b] ∧ vs.toList[0]? = some a ∧ vs.toList[1]? = some b := by
  obtain ⟨l⟩ := vs
  match l, h with
  | [a, b], _ => exact ⟨a, b, rfl, rfl, rfl⟩

/-- neighbours that are one are one -/
def compI (l : List Id) : List Id := Lib.compact l

end Go.Proofs.Ytocglfkflpkafaa
/- slices.Delete of one element of k cells: in memory, and as a contract. -/
namespace Go.Proofs.Ytocglfkflpkafaa
open Go.RowKit Go.Lib Go.Sort
open Go.Shelf

/-- cells of a row whose element i went away -/
def DelF (k n i : Nat) (cs F : Array Value) : Prop := F.size = cs.size ∧ ∀ t, t < (n - 1) * k → F[t]! = if t < i * k then cs[t]! else cs[t + k]!
def DelOut (k n i : Nat) (w : World) (blk : Nat) (cs : Array Value) (w' : World) : Prop := ∃ (q : Nat) (F : Array Value), DelF k n i cs F ∧ w' = putRow id (Sort.ahead w q) blk 0 F

theorem delF_of {k n i : Nat} {cs : Array Value} (hz : n * k ≤ cs.size) (hi : i < n) (news zs : List Value) (hn : news.length = (n - (i + 1)) * k) (hnew : ∀ t, t < news.length → news[t]! = cs[(i + 1) * k + t]!) :
    DelF k n i cs (setMany (setMany cs (i * k) news) ((n - 1) * k) zs) := by
  refine ⟨by simp, fun t ht => ?_⟩
  obtain ⟨m, rfl⟩ : ∃ m, n = i + 1 + m := ⟨n - (i + 1), by omega⟩
  have e1 : i + 1 + m - (i + 1) = m := by omega
  have e2 : i + 1 + m - 1 = i + m := by omega
  rw [e1] at hn
  rw [e2] at ht ⊢
  have e3 : (i + 1 + m) * k = i * k + k + m * k := by rw [Nat.add_mul, Nat.add_mul, Nat.one_mul]
  have e4 : (i + m) * k = i * k + m * k := Nat.add_mul _ _ _
  have e5 : (i + 1) * k = i * k + k := by rw [Nat.add_mul, Nat.one_mul]
  rw [e3] at hz
  rw [e4] at ht ⊢
  rw [e5] at hnew
  rw [get_setMany _ _ _ t (by simp; omega), if_neg (by omega), get_setMany _ _ _ t (by omega)]
  by_cases h : t < i * k
  · rw [if_neg (by omega), if_pos h]
  · rw [if_pos (by omega), if_neg h, hnew _ (by omega), show i * k + k + (t - i * k) = t + k by omega]

theorem three_args {vs : Array Value} (h : vs.toList.length = 3) : ∃ a b c, vs = #[a, b, c] ∧ vs.toList[0]? = some a ∧ vs.toList[1]? = some b ∧ vs.toList[2]? = some c := by
  obtain ⟨l⟩ := vs
  match l, h with
  | [a, b, c], _ => exact ⟨a, b, c, rfl, rfl, rfl, rfl⟩
theorem del_rep {S : Nat → Nat → Prop} {w : World} {rows : List (List PV)} {cur cur' F : Array Value} {sz n i : Nat} (hn : rows.length = n) (hi : i < n) (hz : ∀ row ∈ rows, row.length = sz) (hcs : n * sz ≤ cur.size) (hF : DelF sz n i cur F)
    (hc' : ∀ t y, t < F.size → cur'[t]? = some y → y = F[t]!)
    (hrow : ∀ (k : Nat) row (j : Nat) p, rows[k]? = some row → row[j]? = some p → ∃ y, cur[k * sz + j]? = some y ∧ y.oneCell' = true ∧ RepP S w p y) :
    ∀ (k : Nat) row (j : Nat) p u, (rows.eraseIdx i)[k]? = some row → row[j]? = some p → cur'[k * sz + j]? = some u → u.oneCell' = true ∧ RepP S w p u := by
  intro k row j p u a b c
  have hk : k < n - 1 := by
    have := (List.getElem?_eq_some_iff.1 a).1
    rw [List.length_eraseIdx, if_pos (by omega)] at this; omega
  have hj : j < sz := by rw [← hz row (List.mem_of_mem_eraseIdx (List.mem_of_getElem? a))]; exact (List.getElem?_eq_some_iff.1 b).1
  have hle : (k + 1) * sz ≤ (n - 1) * sz := Nat.mul_le_mul_right _ (by omega)
  have hle2 : (n - 1) * sz ≤ n * sz := Nat.mul_le_mul_right _ (by omega)
  rw [Nat.add_mul, Nat.one_mul] at hle
  have hu := hc' _ _ (by rw [hF.1]; omega) c
  rw [hF.2 _ (by omega)] at hu
  rw [List.getElem?_eraseIdx] at a
  by_cases hki : k < i
  · rw [if_pos hki] at a
    have : (k + 1) * sz ≤ i * sz := Nat.mul_le_mul_right _ (by omega)
    rw [Nat.add_mul, Nat.one_mul] at this
    rw [if_pos (by omega)] at hu
    obtain ⟨y, y1, y2, y3⟩ := hrow k row j p a b
    obtain ⟨y4, y5⟩ := Array.getElem?_eq_some_iff.1 y1
    rw [getElem!_pos cur _ y4, y5] at hu
    subst hu
    exact ⟨y2, y3⟩
  · rw [if_neg hki] at a
    have : i * sz ≤ k * sz := Nat.mul_le_mul_right _ (by omega)
    rw [if_neg (by omega)] at hu
    obtain ⟨y, y1, y2, y3⟩ := hrow (k + 1) row j p a b
    rw [show (k + 1) * sz + j = k * sz + j + sz by rw [Nat.add_mul, Nat.one_mul]; omega] at y1
    obtain ⟨y4, y5⟩ := Array.getElem?_eq_some_iff.1 y1
    rw [getElem!_pos cur _ y4, y5] at hu
    subst hu
    exact ⟨y2, y3⟩
theorem holds_cur {w : World} {g T : Nat} {cur : Array Value} (hc : w.heap[g]? = some (.cells cur T (0, 0))) : Holds id w g 0 cur := by
  intro t ht
  refine ⟨?_, ?_⟩
  · simp [World.cell?, hc, getElem!_pos cur t ht, ht]
  · simp [World.frozen?, hc]

set_option maxHeartbeats 4000000 in
set_option maxRecDepth 1000000 in
theorem delW_calls (blk off cap n i j : Nat) (cs : Array Value) (w : World) (h0 : off = 0) (hj : j = i + 1) (hH : Holds id w blk off cs) (hz : cs.size = cap * 3) (h1 : ∀ t, t < n * 3 → (cs[t]!).oneCell' = true) (hn : n ≤ cap) (hm : cap ≤ 9223372036854775807) (hi : i < n) :
    Calls Try.prog 41 #[.slice (some ⟨blk, off, none⟩) n cap, .int .i64 i, .int .i64 j] w fun e w' => e = .returned (.slice (some ⟨blk, off, none⟩) (n - 1) cap) ∧ DelOut 3 n i w blk cs w' := by
  have mixed : Try.prog.follows Departure.mixedOrders = true := rfl
  have hcz : n * 3 ≤ cs.size := by rw [hz]; exact Nat.mul_le_mul_right _ hn
  obtain ⟨news, hnews⟩ : ∃ news : List Value, news = (List.range ((n - j) * 3)).map fun t => cs[j * 3 + t]! := ⟨_, rfl⟩
  have hlen : news.length = (n - j) * 3 := by rw [hnews]; simp
  have hget : ∀ t u, news[t]? = some u → t < (n - j) * 3 ∧ u = cs[j * 3 + t]! := by
    intro t u hu
    have ht : t < news.length := (List.getElem?_eq_some_iff.1 hu).1
    rw [hlen] at ht
    rw [hnews, List.getElem?_map, List.getElem?_range ht] at hu
    exact ⟨ht, (Option.some.inj hu).symm⟩
  obtain ⟨A, hA, hsrc⟩ : ∃ A : Addr, (if cap = j then some (⟨blk, off, none⟩ : Addr) else some ⟨blk, off + j * 3, none⟩) = some A ∧ Hid (∀ t u, news[t]? = some u → w.drew.cell? (A.add t) = some u) := by
    by_cases h : cap = j
    · refine ⟨⟨blk, off, none⟩, by simp [h], fun t u hu => ?_⟩
      have := (hget t u hu).1
      have e : n - j = 0 := by omega
      rw [e] at this; omega
    · refine ⟨⟨blk, off + j * 3, none⟩, by simp [h], fun t u hu => ?_⟩
      obtain ⟨ht, rfl⟩ := hget t u hu
      rw [Addr.add_lit, Nat.add_assoc]
      exact (hH _ (by omega)).1
  have s1 : Hid (news.length = (n - j) * 3) := hlen
  have s2 : Hid (∀ u ∈ news, u.oneCell' = true) := by
    intro u hu
    obtain ⟨t, ht, rfl⟩ := List.getElem_of_mem hu
    obtain ⟨h2, h3⟩ := hget t _ (List.getElem?_eq_getElem ht)
    rw [h3]
    exact h1 _ (by omega)
  have s3 : Hid (∀ t, t < news.length → (w.drew.cell? ⟨blk, off + i * 3 + t, none⟩).isSome = true ∧ w.drew.frozen? ⟨blk, off + i * 3 + t, none⟩ = false) := by
    intro t ht
    rw [hlen] at ht
    rw [Nat.add_assoc]
    exact ⟨by show (w.cell? _).isSome = true; rw [(hH (i * 3 + t) (by omega)).1]; rfl, (hH (i * 3 + t) (by omega)).2⟩
  obtain ⟨W1, hW1⟩ : ∃ W1, W1 = w.drew.setCells blk (off + i * 3) news := ⟨_, rfl⟩
  have hput : W1 = putRow id (Sort.ahead w 1) blk off (setMany cs (i * 3) news) := by
    rw [hW1, ← setCells_putRow _ _ _ _ _ _ (by omega), putRow_self id (Sort.ahead w 1) blk off cs (holds_ahead id w 1 blk off cs hH)]
    rfl
  have hH1 : Holds id W1 blk off (setMany cs (i * 3) news) := by rw [hput]; exact holds_putRow id _ blk off cs _ (holds_ahead id w 1 blk off cs hH) (by simp)
  obtain ⟨zs, hzl, hcl⟩ : ∃ zs : List Value, zs.length = (n - (i + (n - j))) * 3 ∧ ∀ ty, (Builtin.clear_ #[22] ty #[.slice (some ⟨blk, off + (i + (n - j)) * 3, none⟩) (n - (i + (n - j))) (cap - (i + (n - j)))]).run Try.prog W1 = .ok (.tuple #[]) (W1.setCells blk (off + (i + (n - j)) * 3) zs) := by
    obtain ⟨zs, e1, e2⟩ := run_clear_cells (P := Try.prog) W1 22 48 0 (.agg #[.int .i64 0, .int .i64 0, .bool false]) rfl (fun _ => by kernel_rfl) (by intro v hv; simp [Value.cells] at hv; first | (rcases hv with rfl | rfl | rfl <;> rfl) | (rcases hv with rfl | rfl | rfl | rfl | rfl <;> rfl)) blk (off + (i + (n - j)) * 3) (n - (i + (n - j))) (cap - (i + (n - j))) (by omega)
      (fun s hs => by
        have hs' : s < (n - (i + (n - j))) * 3 := hs
        have := (hH1 ((i + (n - j)) * 3 + s) (by rw [size_setMany]; omega)).1
        rw [← Nat.add_assoc] at this
        rw [this]; rfl) (fun s hs => by
        have hs' : s < (n - (i + (n - j))) * 3 := hs
        have := (hH1 ((i + (n - j)) * 3 + s) (by rw [size_setMany]; omega)).2
        rwa [← Nat.add_assoc] at this)
    exact ⟨zs, e1, fun ty => e2⟩
  have fin : Aside (DelOut 3 n i w blk cs (W1.setCells blk (off + (i + (n - j)) * 3) zs)) := by
    subst h0 hj
    refine ⟨1, _, delF_of hcz hi news zs hlen (fun t ht => ?_), ?_⟩
    · rw [getElem!_pos news t ht]
      exact (hget t _ (List.getElem?_eq_getElem ht)).2
    · rw [hput, setCells_putRow _ _ _ _ _ _ (by rw [size_setMany, hzl]; omega), show i + (n - (i + 1)) = n - 1 by omega]
  have hW : Hid (W1 = w.drew.setCells blk (off + i * 3) news) := hW1
  have hic : i ≤ cap := by omega
  have hjc : j ≤ cap := by omega
  obtain ⟨i0, hi0, hz0, hz1, hz2⟩ := info_parts (P := Try.prog) (e := 48) (z := .agg #[.int .i64 0, .int .i64 0, .bool false]) (size := 3) (bytes := 24) (by kernel_rfl)
  clear hput hW1 hH1 hH hget hnews hlen h1 hz hcz h0
  have hij : ¬ i = j := by omega
  have hijle : i ≤ j := by omega
  have hjn : j ≤ n := by omega
  have hA' : Hid (j = i + 1) := hj
  clear hj
  go_enter Try.func41, Try.ntmps41
  go_wp2_with fail
  go_region_law_o (refine step_append_room rfl (.tmp 22) (.tmp 25) 22 rfl 48 i0 3 rfl hi0 hz1 blk off i cap (by simp [Act.eval, Act.put]) A (n - j) (cap - j) news (by simp [Act.eval, Act.put]) s1.out hsrc.out s2.out (by omega) s3.out ?_; rw [← hW.out])
  go_wp2
  go_ret
  have hj := hA'.out
  exact ⟨by rw [show n - 1 = i + (n - j) by omega]; rfl, fin.out⟩

theorem delW_meets (rows : List (List PV)) (v T i : Nat) (hi : i < rows.length) :
    Meets Try.prog 41 [.arr 0 v, .int .i64 i, .int .i64 ((i + 1 : Nat) : Int)] [.arr v true false T 3 rows] (.arr 0 (v + 1)) [.arr (v + 1) true false T 3 (rows.eraseIdx i)] := by
  intro x vs hx h0 hp
  obtain ⟨a, b, c, rfl, p1, p2, p3⟩ := three_args hp.1
  have ha := hp.2 0 _ _ rfl p1
  obtain rfl := (hp.2 1 _ _ rfl p2).int_inv
  obtain rfl := (hp.2 2 _ _ rfl p3).int_inv
  obtain ⟨e1, e2, e3⟩ := h0.row (id := 0) rfl ha
  rcases e3 with ⟨rfl, hnil⟩ | ⟨g, cap, cur, rfl, hc, hcap, hm, hz, hrow⟩
  · subst hnil; simp at hi
  · have hH := holds_cur hc
    have hcs : rows.length * 3 ≤ cur.size := by rw [hz]; exact Nat.mul_le_mul_right _ hcap
    have key := delW_calls g 0 cap rows.length i (i + 1) cur x.w0 rfl rfl hH hz (fun t ht => by
      have hk : t / 3 < rows.length := Nat.div_lt_of_lt_mul (by omega)
      have hj : t % 3 < (rows[t / 3]'hk).length := by rw [e2 _ (List.getElem_mem hk)]; exact Nat.mod_lt _ (by omega)
      obtain ⟨y, y1, y2, -⟩ := hrow (t / 3) _ (t % 3) _ (List.getElem?_eq_getElem hk) (List.getElem?_eq_getElem hj)
      rw [show t / 3 * 3 + t % 3 = t by omega] at y1
      obtain ⟨y4, y5⟩ := Array.getElem?_eq_some_iff.1 y1
      rw [getElem!_pos cur _ y4, y5]; exact y2) hcap (by simp [maxLen] at hm; omega) hi
    refine key.mono ?_
    rintro e w' ⟨rfl, q, F, hF, rfl⟩
    obtain ⟨cur', c1, c2, c3, c4⟩ := row_worldF x.w0 g q F hc
    have hown : (x.C0.sv 0).ownBlock = some g := by rw [← e1]; rfl
    have hlen : (rows.eraseIdx i).length = rows.length - 1 := by rw [List.length_eraseIdx, if_pos hi]
    obtain ⟨C', k1, k2, k3⟩ := h0.rerow (id := 0) (v' := v + 1) (g' := g) (cap' := cap) (rows' := rows.eraseIdx i) (cur' := cur') rfl (by
      refine ⟨c4.size, c4.os, c4.tape, c4.output, fun b hb hne => c4.blk b hb fun e => hne (by rw [hown, e])⟩) (.inl hown) (.inr (by omega)) c1 (by rw [hlen]; omega) hm (by rw [c2, hz])
      (fun row hr => e2 row (List.mem_of_mem_eraseIdx hr)) (del_rep rfl hi e2 hcs hF c3 hrow)
    rw [hlen] at k3
    exact ⟨_, C', rfl, k1, k3⟩
end Go.Proofs.Ytocglfkflpkafaa
/- slices.Insert of one element of k cells: in memory. -/
namespace Go.Proofs.Ytocglfkflpkafaa
open Go.RowKit Go.Lib Go.Sort
open Go.Shelf

/-- cells of a row, an element laid in at i -/
def InsF (k n i : Nat) (cs : Array Value) (vs : List Value) (F : Array Value) : Prop := ∀ t, t < (n + 1) * k → F[t]! = if t < i * k then cs[t]! else if t < i * k + k then vs[t - i * k]! else cs[t - k]!

/-- 'overlaps': the second is a row of one's own -/
theorem run_overlaps_own {P : Program} (w : World) (tS tR e : TypeId) (ht : P.underlying tS = some (.slice e)) (size : Nat) (hz : ∀ w, (Go.sizeOf e).run P w = .ok size w)
    (a b : Addr) (la ca lb cb : Nat) (hne : a.block ≠ b.block) (tA tB : TypeId) (kA kB : Nat)
    (hsa : w.shape? a.block = some (tA, kA)) (hsb : w.shape? b.block = some (tB, kB)) (hkB : kB ≠ 0) (hkA : kA ≠ 0)
    (hfa : w.frozen? b = false) (hfe : w.frozen? { block := b.block, off := kB } = false) :
    (Extern.SlicesOverlaps.overlaps #[tS, tS] #[tR] #[.slice (some a) la ca, .slice (some b) lb cb]).run P w = .ok (.bool false) w := by
  have hnb : (a.block != b.block) = true := by simpa using hne
  have hnb' : (a.block == b.block) = false := by simpa using hne
  change Sem.run P (α := Value) (do
    let some t := (#[tS, tS] : Array TypeId)[0]? | stuck "slices.overlaps: no parameter types"
    let .slice elem ← underlying t | stuck "slices.overlaps: slice type expected"
    let size ← sizeOf elem
    match (some a : Option Addr), (some b : Option Addr) with
    | some a, some b =>
      if la = 0 ∨ lb = 0 ∨ size = 0 then pure (Value.bool false)
      else if a.block != b.block && (← frozen a) && (← frozen b) then unsupported .addressObserved
      else do
        if a.block != b.block then do
          noView a; noView b
          if ← mayBeOne a b then return Value.bool ((← choose (.extern "sameAddr.stringBytes" 2)) == 1)
        pure (Value.bool (a.block == b.block && a.off < b.off + lb * size && b.off < a.off + la * size))
    | _, _ => pure (Value.bool false)) w = _
  by_cases h0 : la = 0 ∨ lb = 0 ∨ size = 0
  · simp [run_underlying ht, hz, h0]
  · cases kB with
    | zero => exact absurd rfl hkB
    | succ kB =>
     cases kA with
     | zero => exact absurd rfl hkA
     | succ kA =>
      cases h1 : w.frozen? a <;> cases h2 : w.frozen? { block := a.block, off := kA + 1 } <;>
        simp [run_underlying ht, hz, h0, hnb, hnb', frozen, noView, viewAt, mayBeOne, stringish, shape, Sem.run, hsa, hsb, hfa, hfe, h1, h2]

theorem run_copy_cellsK {P : Program} (w : World) (dT sT ty elem : TypeId) (k : Nat) (b o dLen dCap : Nat) (a : Addr) (sLen sCap m : Nat) (cs : List Value)
    (hu : P.underlying dT = some (.slice elem)) (hs : (P.info? elem).map (·.size) = some k) (hm : m = Nat.min sLen dLen) (hn : cs.length = m * k)
    (hsrc : ∀ j v, cs[j]? = some v → w.cell? (a.add j) = some v) (hc : ∀ j, j < cs.length → (w.cell? ⟨b, o + j, none⟩).isSome = true) (hf : ∀ j, j < cs.length → w.frozen? ⟨b, o + j, none⟩ = false) (h1 : ∀ v ∈ cs, v.oneCell' = true) :
    (Builtin.copy_ #[dT, sT] ty #[.slice (some ⟨b, o, none⟩) dLen dCap, .slice (some a) sLen sCap]).run P w = .ok (goInt m) (w.setCells b o cs) := by
  have hl := run_loadCells_list (P := P) w a cs hsrc
  have hst := run_storeCells_cells (P := P) b o cs 0 w (by simpa using hc) (by simpa using hf) h1
  cases hq : P.info? elem with
  | none => simp [hq] at hs
  | some i =>
    have hi : i.size = k := by simpa [hq] using hs
    rw [hn] at hl
    simp [Builtin.copy_, run_underlying hu, Builtin.lenOf, Builtin.firstCells, sizeOf, typeInfo, hq, hi, ← hm, hl, hst]

/-- the cells of a row from s on, m of them -/
def seg (cs : Array Value) (s m : Nat) : List Value := (List.range m).map fun t => cs[s + t]!
theorem seg_len (cs : Array Value) (s m : Nat) : (seg cs s m).length = m := by simp [seg]
theorem seg_get {cs : Array Value} {s m t : Nat} {u : Value} (h : (seg cs s m)[t]? = some u) : t < m ∧ u = cs[s + t]! := by
  have ht : t < (seg cs s m).length := (List.getElem?_eq_some_iff.1 h).1
  rw [seg_len] at ht
  rw [seg, List.getElem?_map, List.getElem?_range ht] at h
  exact ⟨ht, (Option.some.inj h).symm⟩
theorem seg_get! {cs : Array Value} {s m t : Nat} (h : t < m) : (seg cs s m)[t]! = cs[s + t]! := by
  rw [getElem!_pos _ t (by rw [seg_len]; exact h)]
  simp [seg]
theorem seg_one {cs : Array Value} {s m e : Nat} (h1 : ∀ t, t < e → (cs[t]!).oneCell' = true) (he : s + m ≤ e) : ∀ v ∈ seg cs s m, v.oneCell' = true := by
  intro v hv
  obtain ⟨t, ht, rfl⟩ := List.getElem_of_mem hv
  obtain ⟨h2, h3⟩ := seg_get (List.getElem?_eq_getElem ht)
  rw [h3]; exact h1 _ (by omega)
theorem insF_of {k n i : Nat} {cs : Array Value} {vs : List Value} (hz : (n + 1) * k ≤ cs.size) (hi : i ≤ n) (hv : vs.length = k) :
    InsF k n i cs vs (setMany (setMany cs ((i + 1) * k) (seg cs (i * k) ((n - i) * k))) (i * k) vs) := by
  intro t ht
  obtain ⟨m, rfl⟩ : ∃ m, n = i + m := ⟨n - i, by omega⟩
  have e1 : (i + m + 1) * k = i * k + m * k + k := by rw [Nat.add_mul, Nat.add_mul, Nat.one_mul]
  have e2 : (i + 1) * k = i * k + k := by rw [Nat.add_mul, Nat.one_mul]
  have e3 : i + m - i = m := by omega
  rw [e1] at hz ht
  rw [e2, e3, get_setMany _ _ _ t (by simp; omega), hv]
  by_cases h1 : t < i * k
  · rw [if_neg (by omega), if_pos h1, get_setMany _ _ _ t (by omega), if_neg (by omega)]
  · by_cases h2 : t < i * k + k
    · rw [if_pos (by omega), if_neg h1, if_pos h2]
    · rw [if_neg (by omega), if_neg h1, if_neg h2, get_setMany _ _ _ t (by omega), seg_len, if_pos (by omega), seg_get! (by omega), show i * k + (t - (i * k + k)) = t - k by omega]

theorem wpList_append_room_k {P : Program} (w : World) {ops : Array Oper} {rest : List Oper} {o : Oper} {a : Act} {Q : Exit → Act → World → Prop}
    (hg : o.guard = none) (s x : Operand) (t : TypeId) (hop : o.op = Op.call { callee := Callee.builtin Builtin.append, args := #[s, x], argTypes := #[t, t] })
    (e : TypeId) (i : TypeInfo) (size : Nat) (h1 : P.underlying t = some (.slice e)) (h2 : P.info? e = some i) (h4 : i.size = size)
    (b off n cap : Nat) (hs : a.eval s = .slice (some ⟨b, off, none⟩) n cap) (ad : Addr) (m c : Nat) (news : List Value) (hx : a.eval x = .slice (some ad) m c) (hn : news.length = m * size)
    (hc : ∀ j u, news[j]? = some u → w.cell? (ad.add j) = some u) (h1c : ∀ u ∈ news, u.oneCell' = true) (hroom : n + m ≤ cap)
    (hspare : ∀ j, j < news.length → (w.cell? ⟨b, off + n * size + j, none⟩).isSome = true ∧ w.frozen? ⟨b, off + n * size + j, none⟩ = false)
    (hK : wpList P ops Q rest (a.put o.dst (.slice (some ⟨b, off, none⟩) (n + m) cap)) (w.setCells b (off + n * size) news)) :
    wpList P ops Q (o :: rest) a w := by
  refine wpList_plain hg fun K hK' => ?_
  subst h4
  have hrun := run_append_room_cells (P := P) w t o.type e i h1 h2 b off n cap ad m c news hn hc h1c hroom (fun j hj => (hspare j hj).1) (fun j hj => (hspare j hj).2)
  unfold Oper.wp
  simp [execOp, hop, resolve, invoke, builtin, hs, hx, hrun, Result.andThen]
  exact hK' _ _ hK

set_option maxHeartbeats 4000000 in
set_option maxRecDepth 1000000 in
theorem insW_shift (blk off cap n i m vb voff vc tA kA : Nat) (cs : Array Value) (vs : List Value) (w : World) (h0 : off = 0) (hm1 : m = 1) (hH : Holds id w blk off cs) (hz : cs.size = cap * 3) (h1 : ∀ t, t < n * 3 → (cs[t]!).oneCell' = true)
    (hvl : vs.length = 3) (hvs : ∀ j v, vs[j]? = some v → w.cell? ⟨vb, voff + j, none⟩ = some v) (h1v : ∀ v ∈ vs, v.oneCell' = true) (hvb : vb ≠ blk) (hsa : w.shape? vb = some (tA, kA)) (hkA : kA ≠ 0) (tB : TypeId) (hsb : w.shape? blk = some (tB, cap * 3)) (hfb : ∀ o, w.frozen? ⟨blk, o, none⟩ = false)
    (hm : cap ≤ 9223372036854775807) (hi : i < n) (hroom : n + m ≤ cap) :
    Calls Try.prog 40 #[.slice (some ⟨blk, off, none⟩) n cap, .int .i64 i, .slice (some ⟨vb, voff, none⟩) m vc] w fun e w' => e = .returned (.slice (some ⟨blk, off, none⟩) (n + m) cap) ∧ ∃ (q : Nat) (F : Array Value), F.size = cs.size ∧ InsF 3 n i cs vs F ∧ w' = putRow id (Sort.ahead w q) blk 0 F := by
  have mixed : Try.prog.follows Departure.mixedOrders = true := rfl
  have hz1 : ¬ ((m : Int) = 0) := by omega
  have hz2 : ¬ ((i : Int) = (n : Int)) := by omega
  have hsz : (Try.prog.info? 48).map (·.size) = some 3 := by kernel_rfl
  have hov : ∀ lb cb, (callFunc 47 #[.slice (some ⟨vb, voff, none⟩) m vc, .slice (some ⟨blk, off + (i + m) * 3, none⟩) lb cb]).run Try.prog w = .ok (.value (.bool false)) w := fun lb cb => by
    rw [run_callFunc_extern Try.func47 (by kernel_rfl) (by kernel_rfl) (by kernel_rfl) (e := Extern.SlicesOverlaps.overlaps #[22, 22] #[4]) (by kernel_rfl),
      run_overlaps_own w 22 4 48 rfl 3 (fun _ => by kernel_rfl) ⟨vb, voff, none⟩ ⟨blk, off + (i + m) * 3, none⟩ m vc lb cb hvb tA tB kA (cap * 3) hsa hsb (by omega) hkA (hfb _) (hfb _)]
    rfl
  have hw1 : IntKind.i64.wrap ((i : Int) + (m : Int)) = (i : Int) + (m : Int) := by rw [IntKind.wrap_i64]; omega
  have hb1 : (0 : Int) ≤ (i : Int) + (m : Int) := by omega
  have hin : i ≤ n := by omega
  have htn : ((i : Int) + (m : Int)).toNat = i + m := by omega
  have hb2 : ¬ (cap = i + m) := by omega
  have hb3 : (i : Int) ≤ (n : Int) + (m : Int) := by omega
  have hb4 : ¬ (cap = i) := by omega
  have hcz : n * 3 ≤ cs.size := by rw [hz]; exact Nat.mul_le_mul_right _ (by omega)
  have hcz1 : (n + m) * 3 ≤ cs.size := by rw [hz]; exact Nat.mul_le_mul_right _ hroom
  obtain ⟨news, hnews⟩ : ∃ news, news = seg cs (i * 3) ((n - i) * 3) := ⟨_, rfl⟩
  have hnl : news.length = (n - i) * 3 := by rw [hnews, seg_len]
  have hcp1 : ∀ ty dc sc, (Builtin.copy_ #[22, 22] ty #[.slice (some ⟨blk, off + (i + m) * 3, none⟩) (n + m - (i + m)) dc, .slice (some ⟨blk, off + i * 3, none⟩) (n + m - i) sc]).run Try.prog w.drew = .ok (goInt ((n - i : Nat) : Int)) (w.drew.setCells blk (off + (i + m) * 3) news) := fun ty dc sc =>
    run_copy_cellsK w.drew _ _ ty 48 3 blk (off + (i + m) * 3) (n + m - (i + m)) dc ⟨blk, off + i * 3, none⟩ (n + m - i) sc (n - i) news rfl hsz (by simp only [Nat.min_def]; split <;> omega) hnl
      (fun j v hj => by
        rw [hnews] at hj
        obtain ⟨ht, rfl⟩ := seg_get hj
        rw [Addr.add_lit, Nat.add_assoc]; exact (hH _ (by omega)).1)
      (fun j hj => by rw [hnl] at hj; rw [Nat.add_assoc]; show (w.cell? _).isSome = true; rw [(hH _ (by omega)).1]; rfl) (fun j hj => by exact hfb _)
      (by rw [hnews]; exact seg_one h1 (by omega))
  obtain ⟨W1, hW1⟩ : ∃ W1, W1 = w.drew.setCells blk (off + (i + m) * 3) news := ⟨_, rfl⟩
  have hput : W1 = putRow id (Sort.ahead w 1) blk off (setMany cs ((i + m) * 3) news) := by
    rw [hW1, ← setCells_putRow _ _ _ _ _ _ (by omega), putRow_self id (Sort.ahead w 1) blk off cs (holds_ahead id w 1 blk off cs hH)]
    rfl
  have hH1 : Holds id W1 blk off (setMany cs ((i + m) * 3) news) := by rw [hput]; exact holds_putRow id _ blk off cs _ (holds_ahead id w 1 blk off cs hH) (by simp)
  have hcp2 : ∀ (W : World), W = W1 → ∀ ty dc, (Builtin.copy_ #[22, 22] ty #[.slice (some ⟨blk, off + i * 3, none⟩) (n + m - i) dc, .slice (some ⟨vb, voff, none⟩) m vc]).run Try.prog W = .ok (goInt m) (W.setCells blk (off + i * 3) vs) := fun W hWc ty dc => by
    subst hWc
    refine run_copy_cellsK W _ _ ty 48 3 blk (off + i * 3) (n + m - i) dc ⟨vb, voff, none⟩ m vc m vs rfl hsz (by simp only [Nat.min_def]; split <;> omega) (by omega)
      (fun j v hj => by
        rw [Addr.add_lit, hW1, World.cell?_setCells_out blk _ _ _ _ (fun h _ => absurd h hvb)]
        exact hvs j v hj)
      (fun j hj => by rw [Nat.add_assoc, (hH1 _ (by rw [size_setMany]; omega)).1]; rfl) (fun j hj => by rw [Nat.add_assoc]; exact (hH1 _ (by rw [size_setMany]; omega)).2) h1v
  have fin : Aside (∃ (q : Nat) (F : Array Value), F.size = cs.size ∧ InsF 3 n i cs vs F ∧ W1.setCells blk (off + i * 3) vs = putRow id (Sort.ahead w q) blk 0 F) := by
    subst h0 hm1
    refine ⟨1, _, ?_, insF_of hcz1 (by omega) hvl, ?_⟩
    · simp
    · rw [hput, setCells_putRow _ _ _ _ _ _ (by rw [size_setMany]; omega), hnews]
  rw [← hW1] at hcp1
  clear hkA hput hH hH1 hnews hnl hz hcz hcz1 h1 hvs h1v hsa hsb hfb hvl h0 hm1 hvb
  go_enter Try.func40, Try.ntmps40
  go_wp2_with (simp only [hov])
  go_region_law_o (refine step_copy_runI rfl _ _ 22 22 rfl _ _ (by simp [Act.eval, Act.put]) (by simp [Act.eval, Act.put]) (hcp1 _ _ _) ?_)
  go_wp2_with (at_builtin; refine wpList_copy_runI _ rfl _ _ 22 22 rfl _ _ rfl rfl (hcp2 _ rfl _ _) ?_)
  go_ret
  exact ⟨rfl, by rw [← hW1]; exact fin.out⟩

set_option maxHeartbeats 4000000 in
set_option maxRecDepth 1000000 in
theorem insW_end_room (blk off cap n m vb voff vc : Nat) (cs : Array Value) (vs : List Value) (w : World) (h0 : off = 0) (hm1 : m = 1) (hH : Holds id w blk off cs) (hz : cs.size = cap * 3)
    (hvl : vs.length = 3) (hvs : ∀ j v, vs[j]? = some v → w.cell? ⟨vb, voff + j, none⟩ = some v) (h1v : ∀ v ∈ vs, v.oneCell' = true)
    (hm : cap ≤ 9223372036854775807) (hroom : n + m ≤ cap) :
    Calls Try.prog 40 #[.slice (some ⟨blk, off, none⟩) n cap, .int .i64 n, .slice (some ⟨vb, voff, none⟩) m vc] w fun e w' => e = .returned (.slice (some ⟨blk, off, none⟩) (n + m) cap) ∧ ∃ (q : Nat) (F : Array Value), F.size = cs.size ∧ InsF 3 n n cs vs F ∧ w' = putRow id (Sort.ahead w q) blk 0 F := by
  have mixed : Try.prog.follows Departure.mixedOrders = true := rfl
  have hz1 : ¬ ((m : Int) = 0) := by omega
  have hcz1 : (n + m) * 3 ≤ cs.size := by rw [hz]; exact Nat.mul_le_mul_right _ hroom
  obtain ⟨i0, hi0, hz0, hzs, hzb⟩ := info_parts (P := Try.prog) (e := 48) (z := .agg #[.int .i64 0, .int .i64 0, .bool false]) (size := 3) (bytes := 24) (by kernel_rfl)
  have s1 : Hid (∀ j u, vs[j]? = some u → w.cell? (Addr.add ⟨vb, voff, none⟩ j) = some u) := fun j u hj => by rw [Addr.add_lit]; exact hvs j u hj
  have s2 : Hid (∀ u ∈ vs, u.oneCell' = true) := h1v
  have s3 : Hid (∀ j, j < vs.length → (w.cell? ⟨blk, off + n * 3 + j, none⟩).isSome = true ∧ w.frozen? ⟨blk, off + n * 3 + j, none⟩ = false) := fun j hj => by
    rw [Nat.add_assoc]; exact ⟨by rw [(hH _ (by omega)).1]; rfl, (hH _ (by omega)).2⟩
  have s5 : Hid (vs.length = m * 3) := by show vs.length = m * 3; omega
  have s6 : Hid (∀ j u, (seg cs 0 (n * 3))[j]? = some u → w.cell? ⟨blk, off + j, none⟩ = some u) := fun j u hj => by
    obtain ⟨ht, rfl⟩ := seg_get hj
    rw [Nat.zero_add]; exact (hH _ (by omega)).1
  have fin : Aside (∃ (q : Nat) (F : Array Value), F.size = cs.size ∧ InsF 3 n n cs vs F ∧ w.setCells blk (off + n * 3) vs = putRow id (Sort.ahead w q) blk 0 F) := by
    subst h0 hm1
    refine ⟨0, setMany cs (n * 3) vs, by simp, fun t ht => ?_, ?_⟩
    · rw [get_setMany _ _ _ t (by omega), hvl]
      by_cases h1 : t < n * 3
      · rw [if_neg (by omega), if_pos h1]
      · rw [if_pos (by omega), if_neg h1, if_pos (by omega)]
    · rw [← setCells_putRow _ _ _ _ _ _ (by omega), putRow_self id (Sort.ahead w 0) blk 0 cs (holds_ahead id w 0 blk 0 cs hH)]
      rfl
  have hml : n + m ≤ maxLen := by unfold maxLen; omega
  clear hH hz hcz1 hvs h1v hvl h0 hm1
  go_enter Try.func40, Try.ntmps40
  go_wp2_with (at_builtin; refine wpList_append_room_k _ rfl _ _ 22 rfl 48 i0 3 rfl hi0 hzs blk off n cap rfl ⟨vb, voff, none⟩ m vc vs rfl s5.out s1.out s2.out hroom s3.out ?_)
  go_ret
  exact ⟨rfl, fin.out⟩

set_option maxHeartbeats 4000000 in
set_option maxRecDepth 1000000 in
theorem insW_end_grow (ao : Option Addr) (cap n m vb voff vc : Nat) (olds vs : List Value) (w : World) (hm1 : m = 1) (hnone : ao = none → n = 0 ∧ cap = 0) (hlo : olds.length = n * 3) (holds : ∀ b, ao = some b → ∀ j u, olds[j]? = some u → w.cell? (b.add j) = some u)
    (hvl : vs.length = 3) (hvs : ∀ j v, vs[j]? = some v → w.cell? ⟨vb, voff + j, none⟩ = some v) (h1v : ∀ v ∈ vs, v.oneCell' = true)
    (hnc : n ≤ cap) (hfull : cap < n + m) (hbig : (n + m) * 24 ≤ 140737488355328) :
    Calls Try.prog 40 #[.slice ao n cap, .int .i64 n, .slice (some ⟨vb, voff, none⟩) m vc] w fun e w' => ∃ v', e = .returned v' ∧ w'.ownsRow w.heap.size 48 3 v' (n + m) (olds ++ vs) ∧ w.grownBy w' none := by
  have mixed : Try.prog.follows Departure.mixedOrders = true := rfl
  have hz1 : ¬ ((m : Int) = 0) := by omega
  obtain ⟨i0, hi0, hz0, hzs, hzb⟩ := info_parts (P := Try.prog) (e := 48) (z := .agg #[.int .i64 0, .int .i64 0, .bool false]) (size := 3) (bytes := 24) (by kernel_rfl)
  have s1 : Hid (∀ j u, vs[j]? = some u → w.cell? (Addr.add ⟨vb, voff, none⟩ j) = some u) := fun j u hj => by rw [Addr.add_lit]; exact hvs j u hj
  have s2 : Hid (∀ u ∈ vs, u.oneCell' = true) := h1v
  have s5 : Hid (vs.length = m * 3) := by show vs.length = m * 3; omega
  have s6 : Hid (∀ b, ao = some b → ∀ j u, olds[j]? = some u → w.cell? (b.add j) = some u) := holds
  have s7 : Hid (ao = none → n = 0 ∧ cap = 0) := hnone
  have hml : n + m ≤ maxLen := by unfold maxLen; omega
  clear hvs h1v hvl hm1 holds hnone
  go_enter Try.func40, Try.ntmps40
  go_wp2_with (at_builtin; refine wpList_append_grows _ rfl _ _ 22 rfl 48 i0 (.agg #[.int .i64 0, .int .i64 0, .bool false]) 3 24 rfl hi0 hz0 hzs hzb rfl (by omega) ao n cap olds rfl s7.out hlo s6.out ⟨vb, voff, none⟩ m vc vs rfl s5.out s1.out s2.out hfull hml hbig (fun v' w' r1 r2 => ?_))
  all_goals
    go_ret
    exact ⟨_, rfl, by assumption, by assumption⟩
end Go.Proofs.Ytocglfkflpkafaa
/- slices.Insert of one element of k cells where there is no room: in memory. -/
namespace Go.Proofs.Ytocglfkflpkafaa
open Go.RowKit Go.Lib Go.Sort
open Go.Shelf

theorem insF_grow {k n i : Nat} {cs ROW : Array Value} {vs : List Value} (hz : (n + 1) * k ≤ ROW.size) (hi : i ≤ n) (hv : vs.length = k) (hrow : ∀ t, t < i * k → ROW[t]! = cs[t]!) :
    InsF k n i cs vs (setMany (setMany ROW (i * k) vs) ((i + 1) * k) (seg cs (i * k) ((n - i) * k))) := by
  intro t ht
  obtain ⟨m, rfl⟩ : ∃ m, n = i + m := ⟨n - i, by omega⟩
  have e1 : (i + m + 1) * k = i * k + m * k + k := by rw [Nat.add_mul, Nat.add_mul, Nat.one_mul]
  have e2 : (i + 1) * k = i * k + k := by rw [Nat.add_mul, Nat.one_mul]
  have e3 : i + m - i = m := by omega
  rw [e1] at hz ht
  rw [e2, e3, get_setMany _ _ _ t (by simp; omega), seg_len]
  by_cases h1 : t < i * k
  · rw [if_neg (by omega), if_pos h1, get_setMany _ _ _ t (by omega), if_neg (by omega), hrow t h1]
  · by_cases h2 : t < i * k + k
    · rw [if_neg (by omega), if_neg h1, if_pos h2, get_setMany _ _ _ t (by omega), hv, if_pos (by omega)]
    · rw [if_pos (by omega), if_neg h1, if_neg h2, seg_get! (by omega), show i * k + (t - (i * k + k)) = t - k by omega]

set_option maxHeartbeats 4000000 in
set_option maxRecDepth 1000000 in
theorem insW_grow (blk off cap n i m vb voff vc : Nat) (cs : Array Value) (vs : List Value) (w : World) (h0 : off = 0) (hm1 : m = 1) (hH : Holds id w blk off cs) (hz : cs.size = cap * 3) (h1 : ∀ t, t < n * 3 → (cs[t]!).oneCell' = true)
    (hvl : vs.length = 3) (hvs : ∀ j v, vs[j]? = some v → w.cell? ⟨vb, voff + j, none⟩ = some v) (h1v : ∀ v ∈ vs, v.oneCell' = true)
    (hi : i < n) (hnc : n ≤ cap) (hroom : cap < n + m) (hbig : (n + m) * 24 ≤ 140737488355328) :
    Calls Try.prog 40 #[.slice (some ⟨blk, off, none⟩) n cap, .int .i64 i, .slice (some ⟨vb, voff, none⟩) m vc] w fun e w' => ∃ (q G : Nat) (ROW F : Array Value), e = .returned (.slice (some ⟨w.heap.size, 0, none⟩) (n + m) G) ∧ n + m ≤ G ∧ G ≤ maxLen ∧ ROW.size = G * 3 ∧ F.size = ROW.size ∧ InsF 3 n i cs vs F ∧ w' = putRow id (Sort.ahead (w.alloc (.cells ROW 48)) q) w.heap.size 0 F := by
  have mixed : Try.prog.follows Departure.mixedOrders = true := rfl
  have hz1 : ¬ ((m : Int) = 0) := by omega
  have hz2 : ¬ ((i : Int) = (n : Int)) := by omega
  have hz3 : (cap : Int) < (n : Int) + (m : Int) := by omega
  have hsz : (Try.prog.info? 48).map (·.size) = some 3 := by kernel_rfl
  obtain ⟨i0, hi0, hz0, hzs, hzb⟩ := info_parts (P := Try.prog) (e := 48) (z := .agg #[.int .i64 0, .int .i64 0, .bool false]) (size := 3) (bytes := 24) (by kernel_rfl)
  have hcz : n * 3 ≤ cs.size := by rw [hz]; exact Nat.mul_le_mul_right _ hnc
  have hbw : blk < w.heap.size := block_lt_of_cell (hH 0 (by omega)).1
  have hvw : vb < w.heap.size := block_lt_of_cell (hvs 0 _ (List.getElem?_eq_getElem (by omega)))
  have hkk : (n : Int) + (m : Int) - (i : Int) = ((n + m - i : Nat) : Int) := by omega
  have hik : i + (n + m - i) = n + m := by omega
  have hold : (Builtin.firstCells i0.size i (.slice (some ⟨blk, off, none⟩) i cap)).run Try.prog w.drew = .ok (seg cs 0 (i * 3)).toArray w.drew := by
    rw [hzs]
    exact run_firstCells_some w.drew 3 i ⟨blk, off, none⟩ i cap (seg cs 0 (i * 3)) (seg_len _ _ _) (fun j v hj => by
      obtain ⟨ht, rfl⟩ := seg_get hj
      rw [Addr.add_lit, Nat.zero_add]
      exact (hH _ (by omega)).1)
  obtain ⟨G, hG⟩ : ∃ G, G = grownCap w (n + m) cap 48 := ⟨_, rfl⟩
  obtain ⟨ROW, hROW⟩ : ∃ ROW : Array Value, ROW = (seg cs 0 (i * 3)).toArray ++ Builtin.zeroCells (Value.cells (.agg #[.int .i64 0, .int .i64 0, .bool false])) (n + m - i) ++ Builtin.zeroCells (Value.cells (.agg #[.int .i64 0, .int .i64 0, .bool false])) (G - (n + m)) := ⟨_, rfl⟩
  have hrz : ∀ ty, (Builtin.append_ #[22, 3] ty #[.slice (some ⟨blk, off, none⟩) i cap, .int .i64 ((n : Int) + (m : Int) - (i : Int))]).run Try.prog w =
      .ok (.slice (some ⟨w.heap.size, 0, none⟩) (n + m) G) (w.drew.alloc (.cells ROW 48)) := fun ty => by
    have h := Lib.run_append_grow_zeros w 22 3 ty 48 i0 _ .i64 .i64 rfl rfl hi0 hz0 (some ⟨blk, off, none⟩) i cap (seg cs 0 (i * 3)) hold (n + m - i) (by omega) (by omega) (by omega) (by omega) (by rw [hzb]; omega) (by rw [hzb, hik]; exact growslice_fits hroom hbig)
    rw [hik, ← hG, ← hROW] at h
    rw [hkk]
    exact h
  have hGn : n + m ≤ G := by rw [hG]; exact grownCap_ge w _ _ _
  have hGm : G ≤ maxLen := by rw [hG]; exact grownCap_le_maxLen w (n + m) cap 48 (by unfold maxLen; omega)
  have hG63 : G ≤ 9223372036854775807 := by have := hGm; unfold maxLen at this; omega
  have hRs : ROW.size = G * 3 := by
    rw [hROW]
    simp [Builtin.zeroCells, Value.cells, seg_len]
    omega
  have hRow : ∀ t, t < i * 3 → ROW[t]! = cs[t]! := fun t ht => by
    rw [getElem!_pos ROW t (by omega)]
    simp only [hROW]
    rw [Array.getElem_append_left (by simp [seg_len]; omega), Array.getElem_append_left (by simp [seg_len]; omega)]
    have := seg_get! (cs := cs) (s := 0) ht
    rw [getElem!_pos _ t (by rw [seg_len]; exact ht), Nat.zero_add] at this
    simpa using this
  obtain ⟨W1, hW1⟩ : ∃ W1, W1 = w.drew.alloc (.cells ROW 48) := ⟨_, rfl⟩
  have hN : Holds id W1 w.heap.size 0 ROW := fun j hj => by
    rw [Nat.zero_add, hW1]
    refine ⟨?_, World.frozen?_alloc_at (w := w.drew) ROW _ w.heap.size j rfl⟩
    rw [World.cell?_alloc_at (w := w.drew) ROW _ w.heap.size j rfl, Array.getElem?_eq_getElem hj, getElem!_pos ROW j hj]; rfl
  have hOb : ∀ j v, w.cell? ⟨blk, j, none⟩ = some v → W1.cell? ⟨blk, j, none⟩ = some v := fun j v h => by rw [hW1, World.cell?_alloc_past (w := w.drew) _ blk j hbw]; exact h
  have hOv : ∀ j v, w.cell? ⟨vb, j, none⟩ = some v → W1.cell? ⟨vb, j, none⟩ = some v := fun j v h => by rw [hW1, World.cell?_alloc_past (w := w.drew) _ vb j hvw]; exact h
  have hRn : (n + m) * 3 ≤ ROW.size := by rw [hRs]; exact Nat.mul_le_mul_right _ hGn
  have hcpA : ∀ ty dc, (Builtin.copy_ #[22, 22] ty #[.slice (some ⟨w.heap.size, i * 3, none⟩) (n + m - i) dc, .slice (some ⟨vb, voff, none⟩) m vc]).run Try.prog W1 = .ok (goInt m) (W1.setCells w.heap.size (i * 3) vs) := fun ty dc =>
    run_copy_cellsK W1 _ _ ty 48 3 w.heap.size (i * 3) (n + m - i) dc ⟨vb, voff, none⟩ m vc m vs rfl hsz (by simp only [Nat.min_def]; split <;> omega) (by omega)
      (fun j v hj => by rw [Addr.add_lit]; exact hOv _ v (hvs j v hj))
      (fun j hj => by have := (hN (i * 3 + j) (by omega)).1; rw [Nat.zero_add] at this; rw [this]; rfl) (fun j hj => by have := (hN (i * 3 + j) (by omega)).2; rwa [Nat.zero_add] at this) h1v
  obtain ⟨news, hnews⟩ : ∃ news, news = seg cs (i * 3) ((n - i) * 3) := ⟨_, rfl⟩
  have hnl : news.length = (n - i) * 3 := by rw [hnews, seg_len]
  obtain ⟨W2, hW2⟩ : ∃ W2, W2 = W1.setCells w.heap.size (i * 3) vs := ⟨_, rfl⟩
  have hself : putRow id W1 w.heap.size 0 ROW = W1 := putRow_self id W1 w.heap.size 0 ROW hN
  have hput : W2 = putRow id W1 w.heap.size 0 (setMany ROW (i * 3) vs) := by
    rw [← setCells_putRow _ _ _ _ _ _ (by omega), hself, hW2, Nat.zero_add]
  have hN2 : Holds id W2 w.heap.size 0 (setMany ROW (i * 3) vs) := by rw [hput]; exact holds_putRow id _ _ _ ROW _ hN (by simp)
  have hbN : blk ≠ w.heap.size := by omega
  have hcpB : ∀ ty dc sc, (Builtin.copy_ #[22, 22] ty #[.slice (some ⟨w.heap.size, (i + m) * 3, none⟩) (n + m - (i + m)) dc, .slice (some ⟨blk, off + i * 3, none⟩) (n - i) sc]).run Try.prog W2.drew = .ok (goInt ((n - i : Nat) : Int)) (W2.drew.setCells w.heap.size ((i + m) * 3) news) := fun ty dc sc =>
    run_copy_cellsK W2.drew _ _ ty 48 3 w.heap.size ((i + m) * 3) (n + m - (i + m)) dc ⟨blk, off + i * 3, none⟩ (n - i) sc (n - i) news rfl hsz (by simp only [Nat.min_def]; split <;> omega) hnl
      (fun j v hj => by
        rw [hnews] at hj
        obtain ⟨ht, rfl⟩ := seg_get hj
        rw [Addr.add_lit, Nat.add_assoc]
        show W2.cell? _ = _
        rw [hW2, World.cell?_setCells_out _ _ _ _ _ (fun h _ => absurd h hbN)]
        exact hOb _ _ (hH _ (by omega)).1)
      (fun j hj => by have := (hN2 ((i + m) * 3 + j) (by rw [size_setMany]; omega)).1; rw [Nat.zero_add] at this; show (W2.cell? _).isSome = true; rw [this]; rfl)
      (fun j hj => by have := (hN2 ((i + m) * 3 + j) (by rw [size_setMany]; omega)).2; rw [Nat.zero_add] at this; exact this) (by rw [hnews]; exact seg_one h1 (by omega))
  have fin : Aside (∃ (q : Nat) (F : Array Value), F.size = ROW.size ∧ InsF 3 n i cs vs F ∧ W2.drew.setCells w.heap.size ((i + m) * 3) news = putRow id (Sort.ahead (w.alloc (.cells ROW 48)) q) w.heap.size 0 F) := by
    subst h0 hm1
    refine ⟨2, _, ?_, insF_grow hRn (by omega) hvl hRow, ?_⟩
    · simp
    · have e : W2.drew = putRow id (Sort.ahead (w.alloc (.cells ROW 48)) 2) w.heap.size 0 (setMany ROW (i * 3) vs) := by rw [hput, hW1]; rfl
      rw [← setCells_putRow _ _ _ _ _ _ (by rw [size_setMany, seg_len]; omega), ← e, hnews, Nat.zero_add]
  rw [← hW1] at hrz
  rw [← hW2] at hcpA
  have B : Aside (ROW.size = G * 3 ∧ G ≤ maxLen) := ⟨hRs, hGm⟩
  have hGi : ¬ (G = i) := by omega
  have hGim : ¬ (G = i + m) := by omega
  have hci : ¬ (cap = i) := by omega
  have hw1 : IntKind.i64.wrap ((i : Int) + (m : Int)) = (i : Int) + (m : Int) := by rw [IntKind.wrap_i64]; omega
  have hb1 : (0 : Int) ≤ (i : Int) + (m : Int) := by omega
  have hin : i ≤ n := by omega
  have htn : ((i : Int) + (m : Int)).toNat = i + m := by omega
  have hb3 : (i : Int) ≤ (n : Int) := by omega
  clear hself hput hN2 hW1 hW2 hnews hnl hOb hOv hN hRow hRn hRs hROW hG hold hH hz hcz h1 hvs h1v hvl h0 hm1 hkk hik hGm hbig hzb hzs hz0 hi0
  go_enter Try.func40, Try.ntmps40
  go_wp2_with (first
    | (at_builtin; refine Lib.wpList_append_run _ rfl _ _ _ _ rfl _ _ rfl rfl _ _ (hrz _) ?_)
    | (at_builtin; refine wpList_copy_runI _ rfl _ _ 22 22 rfl _ _ rfl rfl (hcpA _ _) ?_))
  go_region_law_o (refine step_copy_runI rfl _ _ 22 22 rfl (.slice (some ⟨w.heap.size, (i + m) * 3, none⟩) (n + m - (i + m)) (G - (i + m))) (.slice (some ⟨blk, off + i * 3, none⟩) (n - i) (cap - i)) (by simp [Act.eval, Act.put]) (by simp [Act.eval, Act.put]) (hcpB _ _ _) ?_)
  go_wp2
  go_ret
  obtain ⟨q, F, f1, f2, f3⟩ := fin.out
  exact ⟨q, G, ROW, F, rfl, hGn, B.out.2, B.out.1, f1, f2, f3⟩
end Go.Proofs.Ytocglfkflpkafaa
/- slices.Insert of one element of k cells, as a contract. -/
namespace Go.Proofs.Ytocglfkflpkafaa
open Go.RowKit Go.Lib Go.Sort
open Go.Shelf

theorem ins_rep {S : Nat → Nat → Prop} {w : World} {rows : List (List PV)} {row0 : List PV} {cs cur' : Array Value} {vs : List Value} {sz n i : Nat} (hn : rows.length = n) (hi : i ≤ n) (hz : ∀ row ∈ rows, row.length = sz) (hz0 : row0.length = sz)
    (hget : ∀ t y, t < (n + 1) * sz → cur'[t]? = some y → y = if t < i * sz then cs[t]! else if t < i * sz + sz then vs[t - i * sz]! else cs[t - sz]!)
    (hrow : ∀ (k : Nat) row (j : Nat) p, rows[k]? = some row → row[j]? = some p → ∃ y, cs[k * sz + j]? = some y ∧ y.oneCell' = true ∧ RepP S w p y)
    (hnew : ∀ (j : Nat) p, row0[j]? = some p → ∃ y, vs[j]? = some y ∧ y.oneCell' = true ∧ RepP S w p y) :
    ∀ (k : Nat) row (j : Nat) p u, (rows.insertIdx i row0)[k]? = some row → row[j]? = some p → cur'[k * sz + j]? = some u → u.oneCell' = true ∧ RepP S w p u := by
  intro k row j p u a b c
  have hk : k < n + 1 := by
    have := (List.getElem?_eq_some_iff.1 a).1
    rw [List.length_insertIdx, if_pos (by omega)] at this; omega
  have hrl : row.length = sz := by
    rw [List.getElem?_insertIdx] at a
    split at a
    · exact hz _ (List.mem_of_getElem? a)
    · split at a
      · split at a
        · cases a; exact hz0
        · cases a
      · exact hz _ (List.mem_of_getElem? a)
  have hj : j < sz := by rw [← hrl]; exact (List.getElem?_eq_some_iff.1 b).1
  have hle : (k + 1) * sz ≤ (n + 1) * sz := Nat.mul_le_mul_right _ (by omega)
  rw [Nat.add_mul, Nat.one_mul] at hle
  have hu := hget _ _ (by omega) c
  rw [List.getElem?_insertIdx] at a
  by_cases h1 : k < i
  · rw [if_pos h1] at a
    have : (k + 1) * sz ≤ i * sz := Nat.mul_le_mul_right _ (by omega)
    rw [Nat.add_mul, Nat.one_mul] at this
    rw [if_pos (by omega)] at hu
    obtain ⟨y, y1, y2, y3⟩ := hrow k row j p a b
    obtain ⟨y4, y5⟩ := Array.getElem?_eq_some_iff.1 y1
    rw [getElem!_pos cs _ y4, y5] at hu
    subst hu
    exact ⟨y2, y3⟩
  · rw [if_neg h1] at a
    have hik : i * sz ≤ k * sz := Nat.mul_le_mul_right _ (by omega)
    by_cases h2 : k = i
    · subst h2
      rw [if_pos rfl, if_pos (by omega)] at a
      cases a
      rw [if_neg (by omega), if_pos (by omega), show k * sz + j - k * sz = j by omega] at hu
      obtain ⟨y, y1, y2, y3⟩ := hnew j p b
      obtain ⟨y4, y5⟩ := List.getElem?_eq_some_iff.1 y1
      rw [getElem!_pos vs _ y4, y5] at hu
      subst hu
      exact ⟨y2, y3⟩
    · rw [if_neg h2] at a
      have h3 : (i + 1) * sz ≤ k * sz := Nat.mul_le_mul_right _ (by omega)
      rw [Nat.add_mul, Nat.one_mul] at h3
      rw [if_neg (by omega), if_neg (by omega)] at hu
      obtain ⟨y, y1, y2, y3⟩ := hrow (k - 1) row j p a b
      obtain ⟨k', rfl⟩ : ∃ k', k = k' + 1 := ⟨k - 1, by omega⟩
      rw [Nat.add_sub_cancel] at y1
      rw [show (k' + 1) * sz + j - sz = k' * sz + j by rw [Nat.add_mul, Nat.one_mul]; omega] at hu
      obtain ⟨y4, y5⟩ := Array.getElem?_eq_some_iff.1 y1
      rw [getElem!_pos cs _ y4, y5] at hu
      subst hu
      exact ⟨y2, y3⟩

theorem RepV.list_one {S : Nat → Nat → Prop} {w : World} {C : Conc} {row : List PV} {v : Value} (h : RepV S w C (.list [row]) v) (h0 : 0 < row.length) :
    ∃ (b o c : Nat) (x : Nat → Value), v = .slice (some ⟨b, o, none⟩) 1 c ∧ ∀ (j : Nat) p, row[j]? = some p → S b (o + j) ∧ w.cell? ⟨b, o + j, none⟩ = some (x j) ∧ RepP S w p (x j) := by
  cases h.list_inv with
  | list _ a c sz x hc hm hsz hz hl hr =>
    obtain ⟨b, o, ha, -, -⟩ := hl 0 row 0 row[0] rfl (List.getElem?_eq_getElem h0)
    refine ⟨b, o, c, x 0, by rw [ha]; rfl, fun j p hp => ?_⟩
    obtain ⟨b', o', ha', h1, h2⟩ := hl 0 row j p rfl hp
    rw [ha] at ha'
    cases ha'
    rw [Nat.zero_mul, Nat.add_zero] at h1 h2
    exact ⟨h1, h2, hr 0 row j p rfl hp⟩

theorem insW_meets (rows : List (List PV)) (row0 : List PV) (v i : Nat) (hi : i ≤ rows.length) (hr0 : row0.length = 3) (hbig : (rows.length + 1) * 24 ≤ 140737488355328) :
    Meets Try.prog 40 [.arr 0 v, .int .i64 i, .list [row0]] [.arr v true false 48 3 rows] (.arr 0 (v + 1)) [.arr (v + 1) true false 48 3 (rows.insertIdx i row0)] := by
  intro x vs hx h0 hp
  obtain ⟨a, b, c, rfl, p1, p2, p3⟩ := three_args hp.1
  have ha := hp.2 0 _ _ rfl p1
  obtain rfl := (hp.2 1 _ _ rfl p2).int_inv
  obtain ⟨vb, vo, vc, xv, rfl, hxv⟩ := (hp.2 2 _ _ rfl p3).list_one (by omega)
  obtain ⟨e1, e2, e3⟩ := h0.row (id := 0) rfl ha
  have hlen : (rows.insertIdx i row0).length = rows.length + 1 := by rw [List.length_insertIdx, if_pos hi]
  have hrl : ∀ row ∈ rows.insertIdx i row0, row.length = 3 := fun row hr => by
    rcases (List.mem_insertIdx hi).1 hr with rfl | hr
    · exact hr0
    · exact e2 row hr
  obtain ⟨ws, hws⟩ : ∃ ws : List Value, ws = (List.range 3).map xv := ⟨_, rfl⟩
  have hwl : ws.length = 3 := by rw [hws]; simp
  have hwg : ∀ j u, ws[j]? = some u → ∃ p, row0[j]? = some p ∧ u = xv j := fun j u hu => by
    have hj : j < 3 := by rw [← hwl]; exact (List.getElem?_eq_some_iff.1 hu).1
    rw [hws, List.getElem?_map, List.getElem?_range hj] at hu
    exact ⟨_, List.getElem?_eq_getElem (by omega), (Option.some.inj hu).symm⟩
  have hwc : ∀ j u, ws[j]? = some u → x.w0.cell? ⟨vb, vo + j, none⟩ = some u := fun j u hu => by
    obtain ⟨p, hp, rfl⟩ := hwg j u hu
    exact (hxv j p hp).2.1
  have hw1 : ∀ u ∈ ws, u.oneCell' = true := fun u hu => by
    obtain ⟨j, hj, rfl⟩ := List.getElem_of_mem hu
    obtain ⟨p, hp, e⟩ := hwg j _ (List.getElem?_eq_getElem hj)
    rw [e]; exact (hxv j p hp).2.2.one
  have hnew : ∀ (j : Nat) p, row0[j]? = some p → ∃ y, ws[j]? = some y ∧ y.oneCell' = true ∧ RepP (Stab x x.C0 _ x.w0) x.w0 p y := fun j p hp => by
    have hj : j < 3 := by rw [← hr0]; exact (List.getElem?_eq_some_iff.1 hp).1
    refine ⟨xv j, by rw [hws, List.getElem?_map, List.getElem?_range hj]; rfl, (hxv j p hp).2.2.one, (hxv j p hp).2.2⟩
  rcases e3 with ⟨rfl, hnil⟩ | ⟨g, cap, cur, rfl, hc, hcap, hm, hz, hrow⟩
  · subst hnil
    obtain rfl : i = 0 := by simpa using hi
    refine (insW_end_grow none 0 0 1 vb vo vc [] ws x.w0 rfl (fun _ => ⟨rfl, rfl⟩) rfl (fun b h => by cases h) hwl hwc hw1 (by omega) (by omega) (by omega)).mono ?_
    rintro e w' ⟨v', rfl, hown, hgr⟩
    obtain ⟨o1, ⟨-, o2⟩ | ⟨g', cap', cur', rfl, o3, o4, o5, o6, o7, o8⟩⟩ := hown
    · simp at o2
    · obtain ⟨C', k1, k2, k3⟩ := h0.rerow (id := 0) (v' := v + 1) (g' := g') (cap' := cap') (rows' := [row0]) (cur' := cur') rfl
        ⟨hgr.size, hgr.os, hgr.tape, hgr.output, fun b hb _ => hgr.block b hb (by simp)⟩ (.inr o3) (.inr (by omega)) o4 o5 o6 o7 (fun row hr => by simp at hr; subst hr; exact hr0)
        (ins_rep (rows := []) (row0 := row0) (cs := #[]) (vs := ws) (n := 0) (i := 0) rfl (by omega) (fun row hr => by simp at hr) hr0 (fun t y ht hy => by
          rw [if_neg (by omega), if_pos (by omega), Nat.zero_mul, Nat.sub_zero]
          have := congrArg (fun l => l[t]?) o8
          simp only [List.nil_append] at this
          rw [List.getElem?_take, if_pos (by omega), Array.getElem?_toList, hy] at this
          obtain ⟨h1, h2⟩ := List.getElem?_eq_some_iff.1 this.symm
          rw [getElem!_pos ws t h1, h2]) (fun k row j p h => by simp at h) hnew)
      exact ⟨_, C', rfl, k1, k3⟩
  · have hH := holds_cur hc
    have hown : (x.C0.sv 0).ownBlock = some g := by rw [← e1]; rfl
    have hcs : rows.length * 3 ≤ cur.size := by rw [hz]; exact Nat.mul_le_mul_right _ hcap
    have hcap63 : cap ≤ 9223372036854775807 := by simp [maxLen] at hm; omega
    have hone : ∀ t, t < rows.length * 3 → (cur[t]!).oneCell' = true := fun t ht => by
      have hk : t / 3 < rows.length := Nat.div_lt_of_lt_mul (by omega)
      have hj : t % 3 < (rows[t / 3]'hk).length := by rw [e2 _ (List.getElem_mem hk)]; exact Nat.mod_lt _ (by omega)
      obtain ⟨y, y1, y2, -⟩ := hrow (t / 3) _ (t % 3) _ (List.getElem?_eq_getElem hk) (List.getElem?_eq_getElem hj)
      rw [show t / 3 * 3 + t % 3 = t by omega] at y1
      obtain ⟨y4, y5⟩ := Array.getElem?_eq_some_iff.1 y1
      rw [getElem!_pos cur _ y4, y5]; exact y2
    have hcell0 := hwc 0 _ (List.getElem?_eq_getElem (by omega))
    have hvb : vb ≠ g := fun e => by
      have := ((hxv 0 _ (List.getElem?_eq_getElem (by omega))).1.2.2 0 _ rfl) (by rw [hown, e])
      exact absurd this.1 (by decide)
    have hfb : ∀ o, x.w0.frozen? ⟨g, o, none⟩ = false := fun o => by simp [World.frozen?, hc]
    have hsb : x.w0.shape? g = some (48, cap * 3) := by simp [World.shape?, hc, hz]
    obtain ⟨tA, kA, hsa, hkA⟩ : ∃ tA kA, x.w0.shape? vb = some (tA, kA) ∧ kA ≠ 0 := by
      unfold World.cell? at hcell0
      unfold World.shape?
      split at hcell0
      · rename_i cc ee ff hh
        refine ⟨ee, cc.size, by rw [hh], fun e => ?_⟩
        simp at hcell0
        obtain ⟨h1, -⟩ := Array.getElem?_eq_some_iff.1 hcell0
        omega
      · cases hcell0
    -- in place
    have inplace : ∀ (q : Nat) (F : Array Value), F.size = cur.size → InsF 3 rows.length i cur ws F → rows.length + 1 ≤ cap →
        ∃ C', HR x C' [.arr (v + 1) true false 48 3 (rows.insertIdx i row0)] (putRow id (Sort.ahead x.w0 q) g 0 F) ∧ RepV (Stab x C' [.arr (v + 1) true false 48 3 (rows.insertIdx i row0)] (putRow id (Sort.ahead x.w0 q) g 0 F)) (putRow id (Sort.ahead x.w0 q) g 0 F) C' (.arr 0 (v + 1)) (.slice (some ⟨g, 0, none⟩) (rows.length + 1) cap) := fun q F hFs hF hr => by
      obtain ⟨cur', c1, c2, c3, c4⟩ := row_worldF x.w0 g q F hc
      have hcs1 : (rows.length + 1) * 3 ≤ cur.size := by rw [hz]; exact Nat.mul_le_mul_right _ hr
      obtain ⟨C', k1, k2, k3⟩ := h0.rerow (id := 0) (v' := v + 1) (g' := g) (cap' := cap) (rows' := rows.insertIdx i row0) (cur' := cur') rfl
        ⟨c4.size, c4.os, c4.tape, c4.output, fun b hb hne => c4.blk b hb fun e => hne (by rw [hown, e])⟩ (.inl hown) (.inr (by omega)) c1 (by rw [hlen]; omega) hm (by rw [c2, hz]) hrl
        (ins_rep rfl hi e2 hr0 (fun t y ht hy => (c3 t y (by omega) hy).trans (hF t ht)) hrow hnew)
      rw [hlen] at k3
      exact ⟨C', k1, k3⟩
    by_cases hroom : rows.length + 1 ≤ cap
    · by_cases hin : i = rows.length
      · subst hin
        refine Calls.mono (insW_end_room g 0 cap rows.length 1 vb vo vc cur ws x.w0 rfl rfl hH hz hwl hwc hw1 hcap63 hroom) ?_
        rintro e w' ⟨rfl, q, F, f1, f2, rfl⟩
        obtain ⟨C', k1, k3⟩ := inplace q F f1 f2 hroom
        exact ⟨_, C', rfl, k1, k3⟩
      · refine Calls.mono (insW_shift g 0 cap rows.length i 1 vb vo vc tA kA cur ws x.w0 rfl rfl hH hz hone hwl hwc hw1 hvb hsa hkA _ hsb hfb hcap63 (by omega) hroom) ?_
        rintro e w' ⟨rfl, q, F, f1, f2, rfl⟩
        obtain ⟨C', k1, k3⟩ := inplace q F f1 f2 hroom
        exact ⟨_, C', rfl, k1, k3⟩
    · by_cases hin : i = rows.length
      · subst hin
        refine Calls.mono (insW_end_grow (some ⟨g, 0, none⟩) cap rows.length 1 vb vo vc (seg cur 0 (rows.length * 3)) ws x.w0 rfl (fun h => by cases h) (seg_len _ _ _) (fun b hb j u hu => by
          cases hb
          obtain ⟨ht, rfl⟩ := seg_get hu
          rw [Addr.add_lit]
          have := (hH j (by omega)).1
          simp only [Nat.zero_add] at this ⊢
          exact this) hwl hwc hw1 hcap (by omega) hbig) ?_
        rintro e w' ⟨v', rfl, how, hgr⟩
        obtain ⟨o1, ⟨-, o2⟩ | ⟨g', cap', cur', rfl, o3, o4, o5, o6, o7, o8⟩⟩ := how
        · omega
        · obtain ⟨C', k1, k2, k3⟩ := h0.rerow (id := 0) (v' := v + 1) (g' := g') (cap' := cap') (rows' := rows.insertIdx rows.length row0) (cur' := cur') rfl
            ⟨hgr.size, hgr.os, hgr.tape, hgr.output, fun b hb _ => hgr.block b hb (by simp)⟩ (.inr o3) (.inr (by omega)) o4 (by rw [hlen]; exact o5) o6 o7 hrl
            (ins_rep rfl hi e2 hr0 (cs := cur) (vs := ws) (fun t y ht hy => by
              have := congrArg (fun l => l[t]?) o8
              rw [List.getElem?_take, if_pos (by omega), Array.getElem?_toList, hy] at this
              by_cases h1 : t < rows.length * 3
              · rw [if_pos h1]
                rw [List.getElem?_append_left (by rw [seg_len]; exact h1)] at this
                obtain ⟨-, h2⟩ := seg_get this.symm
                rw [h2, Nat.zero_add]
              · rw [if_neg h1, if_pos (by omega)]
                rw [List.getElem?_append_right (by rw [seg_len]; omega), seg_len] at this
                obtain ⟨h3, h2⟩ := List.getElem?_eq_some_iff.1 this.symm
                rw [getElem!_pos ws _ h3, h2]) hrow hnew)
          rw [hlen] at k3
          exact ⟨_, C', rfl, k1, k3⟩
      · refine Calls.mono (insW_grow g 0 cap rows.length i 1 vb vo vc cur ws x.w0 rfl rfl hH hz hone hwl hwc hw1 (by omega) hcap (by omega) hbig) ?_
        rintro e w' ⟨q, G, ROW, F, rfl, f1, f2, f3, f4, f5, rfl⟩
        have hcA : (x.w0.alloc (.cells ROW 48)).heap[x.w0.heap.size]? = some (.cells ROW 48 (0, 0)) := heap_alloc_new _ _
        obtain ⟨cur', c1, c2, c3, c4⟩ := row_worldF (x.w0.alloc (.cells ROW 48)) x.w0.heap.size q F hcA
        have hg1 := World.grownBy_alloc x.w0 (.cells ROW 48) none
        have hFs : (rows.length + 1) * 3 ≤ F.size := by rw [f4, f3]; exact Nat.mul_le_mul_right _ f1
        obtain ⟨C', k1, k2, k3⟩ := h0.rerow (id := 0) (v' := v + 1) (g' := x.w0.heap.size) (cap' := G) (rows' := rows.insertIdx i row0) (cur' := cur') rfl
          ⟨Nat.le_trans hg1.size c4.size, c4.os.trans hg1.os, c4.tape.trans hg1.tape, c4.output.trans hg1.output, fun b hb _ => (c4.blk b (Nat.lt_of_lt_of_le hb hg1.size) (by omega)).trans (hg1.block b hb (by simp))⟩ (.inr (Nat.le_refl _)) (.inr (by omega)) c1 (by rw [hlen]; exact f1) f2 (by rw [c2, f3]) hrl
          (ins_rep rfl hi e2 hr0 (fun t y ht hy => (c3 t y (by omega) hy).trans (f5 t ht)) hrow hnew)
        rw [hlen] at k3
        exact ⟨_, C', rfl, k1, k3⟩
end Go.Proofs.Ytocglfkflpkafaa
/- Slices asked by a function: contracts of slices.IndexFunc, ContainsFunc, Index, Contains at entries, ids. -/
namespace Go.Proofs.Ytocglfkflpkafaa
set_option linter.unusedSimpArgs false
set_option linter.unusedVariables false
open Go.RowKit
/-- the first place at which p holds, or -1 -/
def idxF {α : Type} (p : α → Bool) : List α → Nat → Int
  | [], _ => -1
  | x :: l, k => if p x = true then (k : Int) else idxF p l (k + 1)
theorem idxF_drop {α : Type} [Inhabited α] (p : α → Bool) (l : List α) (k : Nat) (h : k < l.length) : idxF p (l.drop k) k = if p (nth l k) = true then (k : Int) else idxF p (l.drop (k + 1)) (k + 1) := by
  rw [List.drop_eq_getElem_cons h, idxF, nth_eq _ _ h]
instance : Inhabited Entry := ⟨⟨default, 0, ⟨#[]⟩, []⟩⟩

theorem idxF_ge {α : Type} (p : α → Bool) : ∀ (l : List α) (k : Nat), idxF p l k = -1 ∧ l.any p = false ∨ (k : Int) ≤ idxF p l k ∧ l.any p = true
  | [], k => .inl ⟨rfl, rfl⟩
  | x :: l, k => by
    simp only [idxF, List.any_cons]
    cases hx : p x
    · rcases idxF_ge p l (k + 1) with ⟨h1, h2⟩ | ⟨h1, h2⟩
      · exact .inl ⟨by simpa using h1, by simp [h2]⟩
      · exact .inr ⟨by simp; omega, by simp [h2]⟩
    · exact .inr ⟨by simp, by simp⟩
theorem idxF_any {α : Type} (p : α → Bool) (l : List α) : decide (0 ≤ idxF p l 0) = l.any p := by
  rcases idxF_ge p l 0 with ⟨h1, h2⟩ | ⟨h1, h2⟩
  · rw [h1, h2]; rfl
  · rw [h2]; simp; omega
end Go.Proofs.Ytocglfkflpkafaa
/- What is wrong with an entry, in the law text's words: a contract. -/
namespace Go.Proofs.Ytocglfkflpkafaa
set_option linter.unusedSimpArgs false
set_option linter.unusedVariables false
open Go.RowKit
end Go.Proofs.Ytocglfkflpkafaa
/- Logs: finding, counting, being ready, being right: contracts. -/
namespace Go.Proofs.Ytocglfkflpkafaa
set_option linter.unusedSimpArgs false
set_option linter.unusedVariables false
open Go.RowKit
def findE (l : List Entry) (x : Id) : Int := idxF (fun e => decide (e.id = x)) l 0
theorem cE_row (l : List Entry) : ∀ row ∈ l.map cE, row.length = 5 := by simp [cE]
theorem closed1 (cells : List PV) (h : cells.map (renCell false (pos [0]) (frzAt false [.box cells])) = cells) (h2 : cells.map (renCell false (pos [0]) (frzAt true [.box cells])) = cells) (h3 : cells.map (renCell false (backF 1 [0]) noFz) = cells) :
    ClosedH [.box cells] [.ptr 0 0] := by
  refine ⟨?_, ?_, ?_, ?_, ?_⟩
  · simp [renLeaf, pos, List.range_succ]
  · simp [ren, renCell, renLeaf, pos, List.range_succ]
  · simp only [List.length_cons, List.length_nil, List.range_succ, List.range_zero, List.nil_append, subHeap, List.map_cons, List.map_nil, List.getElem?_cons_zero, Option.getD_some, renObj, h]
  · simp only [List.length_cons, List.length_nil, List.range_succ, List.range_zero, List.nil_append, merge, List.map_cons, List.map_nil, mergeObj, callId, Nat.zero_add, Nat.sub_self, Nat.add_zero]
    simp [pos, renObj, h3]
  · simp only [List.length_cons, List.length_nil, List.range_succ, List.range_zero, List.nil_append, subHeap, List.map_cons, List.map_nil, List.getElem?_cons_zero, Option.getD_some, renObj, h2]
theorem closedId (x : Id) : ClosedH [.box (cId x)] [.ptr 0 0] := closed1 _ (by simp [cId, renCell, renLeaf]) (by simp [cId, renCell, renLeaf]) (by simp [cId, renCell, renLeaf])
def cntR (l : List Entry) (r : Int) : Nat := l.countP fun e => decide (e.id.r = r)
theorem cntR_take (l : List Entry) (k : Nat) (r : Int) (h : k < l.length) : cntR (l.take (k + 1)) r = cntR (l.take k) r + if (nth l k).id.r = r then 1 else 0 := by
  rw [List.take_succ_eq_append_getElem h, nth_eq _ _ h]
  simp only [cntR, List.countP_append, List.countP_cons, List.countP_nil, decide_eq_true_eq]
  omega
theorem cntR_le (l : List Entry) (r : Int) : cntR l r ≤ l.length := List.countP_le_length
def okReg (l : List Entry) : Prop := ∀ e ∈ l, e.id.r = 0 ∨ e.id.r = 1
end Go.Proofs.Ytocglfkflpkafaa
/- Logs: being ready, being right: contracts. -/
namespace Go.Proofs.Ytocglfkflpkafaa
set_option linter.unusedSimpArgs false
set_option linter.unusedVariables false
open Go.RowKit
def readyB (l : List Entry) (e : Entry) : Bool := decide ((cntR l e.id.r : Int) + 1 = e.id.n) && !(e.ls.any fun x => decide (findE l x < 0))
theorem idxF_lt {α : Type} (p : α → Bool) : ∀ (l : List α) (k : Nat), -1 ≤ idxF p l k ∧ idxF p l k ≤ k + l.length
  | [], k => by simp [idxF] <;> omega
  | x :: l, k => by
    simp only [idxF]
    have := idxF_lt p l (k + 1)
    split
    · simp; omega
    · simp at *; omega
theorem closedL (l : List Entry) : ClosedH [.box [.list (l.map cE)]] [.ptr 0 0] := closed1 _ (by simp [renCell, renLeaf]) (by simp [renCell, renLeaf]) (by simp [renCell, renLeaf])
/-- what is wrong with entry k of a log -/
def logErr (l : List Entry) (k : Nat) : Int :=
  if checkEntry (nth l k) ≠ 0 then checkEntry (nth l k) else if 0 ≤ findE (l.take k) (nth l k).id then 6
  else if (cntR (l.take k) (nth l k).id.r : Int) + 1 ≠ (nth l k).id.n then 4 else if readyB (l.take k) (nth l k) = false then 5 else 0
def checkLog (l : List Entry) : Int := if 40 < l.length then 2 else firstNZ (logErr l) l.length
theorem reg_of_check {e : Entry} (h : checkEntry e = 0) : e.id.r = 0 ∨ e.id.r = 1 := by
  have := (check_ok_bounds h).1
  simp only [okId, Bool.and_eq_true, wthn_iff] at this
  omega
theorem okReg_take {l : List Entry} {k : Nat} (h : firstNZ (logErr l) k = 0) (hk : k ≤ l.length) : okReg (l.take k) := by
  intro e he
  obtain ⟨j, hj, rfl⟩ := List.getElem_of_mem he
  rw [List.length_take] at hj
  have h0 := firstNZ_zero.1 h j (by omega)
  have hc : checkEntry (nth l j) = 0 := by
    unfold logErr at h0
    split at h0
    · exact h0
    · rename_i h; simpa using h
  rw [List.getElem_take, ← nth_eq l j (by omega)]
  exact reg_of_check hc
end Go.Proofs.Ytocglfkflpkafaa
/- slices.SortFunc at ids by entry.Order: an array of ids is put in order. -/
namespace Go.Proofs.Ytocglfkflpkafaa
open Go.RowKit

theorem swoI : Go.Sort.SWO (ltOf ordI) where
  irrefl := fun x => by simp [ltOf, ordI_lt, lessB]
  trans := fun x y z h1 h2 => by
    simp only [ltOf, decide_eq_true_eq, ordI_lt, lessB] at h1 h2 ⊢
    omega
  ntrans := fun x y z h1 h2 => by
    simp only [ltOf, decide_eq_false_iff_not, ordI_lt, lessB, decide_eq_true_eq] at h1 h2 ⊢
    omega
theorem ordI_part (x y : Id) (h1 : ltOf ordI x y = false) (h2 : ltOf ordI y x = false) : x = y := by
  simp only [ltOf, decide_eq_false_iff_not, ordI_lt, lessB, decide_eq_true_eq] at h1 h2
  cases x; cases y
  simp at h1 h2 ⊢
  omega

/-- ids in order -/
def sortI (l : List Id) : List Id := l.mergeSort fun x y => !(ltOf ordI) y x

end Go.Proofs.Ytocglfkflpkafaa
/- Plain laws of logs: ids in order, what a right log has, pasts. No program in sight. -/
namespace Go.Proofs.Ytocglfkflpkafaa

/-! ids in order -/
def Asc (l : List Id) : Prop := l.Pairwise fun a b => lessB a b = true
theorem lessB_trans {a b c : Id} (h1 : lessB a b = true) (h2 : lessB b c = true) : lessB a c = true := by
  simp only [lessB, decide_eq_true_eq] at *; omega
theorem lessB_irrefl (a : Id) : lessB a a = false := by simp [lessB]
theorem lessB_conn {a b : Id} (h1 : lessB a b = false) (h2 : lessB b a = false) : a = b := by
  cases a; cases b
  simp only [lessB, decide_eq_false_iff_not] at h1 h2
  simp
  omega
theorem Asc.nodup {l : List Id} (h : Asc l) : l.Nodup := h.imp fun {a b} hab e => by subst e; rw [lessB_irrefl] at hab; cases hab
/-- two rising lists with the same members are one -/
theorem asc_ext : ∀ {l m : List Id}, Asc l → Asc m → (∀ x, x ∈ l ↔ x ∈ m) → l = m
  | [], [], _, _, _ => rfl
  | [], y :: m, _, _, h => by have := (h y).2 (by simp); simp at this
  | x :: l, [], _, _, h => by have := (h x).1 (by simp); simp at this
  | x :: l, y :: m, h1, h2, h => by
    have h1' := List.pairwise_cons.1 h1
    have h2' := List.pairwise_cons.1 h2
    have hxy : x = y := by
      rcases List.mem_cons.1 ((h x).1 (by simp)) with e | e
      · exact e
      rcases List.mem_cons.1 ((h y).2 (by simp)) with e' | e'
      · exact e'.symm
      have := lessB_trans (h1'.1 y e') (h2'.1 x e)
      rw [lessB_irrefl] at this; cases this
    subst hxy
    rw [asc_ext h1'.2 h2'.2 fun z => ?_]
    constructor
    · intro hz
      rcases List.mem_cons.1 ((h z).1 (by simp [hz])) with e | e
      · subst e; have := h1'.1 z hz; rw [lessB_irrefl] at this; cases this
      · exact e
    · intro hz
      rcases List.mem_cons.1 ((h z).2 (by simp [hz])) with e | e
      · subst e; have := h2'.1 z hz; rw [lessB_irrefl] at this; cases this
      · exact e
/-- rising numbers between two are few -/
theorem rise_len : ∀ (l : List Int) (a b : Int), l.Pairwise (· < ·) → (∀ x ∈ l, a ≤ x ∧ x < b) → a ≤ b → (l.length : Int) ≤ b - a
  | [], a, b, _, _, h => by simp; omega
  | x :: l, a, b, hp, hm, h => by
    have hp' := List.pairwise_cons.1 hp
    have hx := hm x (by simp)
    have := rise_len l (x + 1) b hp'.2 (fun y hy => ⟨hp'.1 y hy, (hm y (by simp [hy])).2⟩) (by omega)
    simp only [List.length_cons]; omega
theorem asc_len {l : List Id} (h : Asc l) (hk : ∀ x ∈ l, okId x = true) : l.length ≤ 40 := by
  have hb : ∀ x ∈ l, 0 ≤ x.r ∧ x.r ≤ 1 ∧ 1 ≤ x.n ∧ x.n ≤ 20 := fun x hx => by
    have := hk x hx
    simp only [okId, Bool.and_eq_true, wthn_iff] at this
    omega
  have := rise_len (l.map fun x => x.r * 20 + x.n) 1 41 (List.pairwise_map.2 (List.Pairwise.imp_of_mem (fun {a b} ha hb' hab => by
    have h1 := hb a ha
    have h2 := hb b hb'
    simp only [lessB, decide_eq_true_eq] at hab
    omega) h)) (fun y hy => by
      obtain ⟨x, hx, rfl⟩ := List.mem_map.1 hy
      have := hb x hx
      omega) (by omega)
  rw [List.length_map] at this
  omega

theorem sortI_mem {l : List Id} {x : Id} : x ∈ sortI l ↔ x ∈ l := (List.mergeSort_perm l _).mem_iff
theorem sortI_length (l : List Id) : (sortI l).length = l.length := (List.mergeSort_perm l _).length_eq
theorem sortI_sorted (l : List Id) : (sortI l).Pairwise fun a b => lessB b a = false := by
  have := List.pairwise_mergeSort (le := fun x y : Id => !(ltOf ordI) y x) (fun a b c h1 h2 => by
    simp only [ltOf, ordI_lt, Bool.not_eq_true', decide_eq_false_iff_not, Bool.not_eq_true] at *
    simp only [lessB, decide_eq_false_iff_not] at *; omega) (fun a b => by
    simp only [ltOf, ordI_lt, Bool.or_eq_true, Bool.not_eq_true', decide_eq_false_iff_not, lessB, decide_eq_true_eq]; omega) l
  exact this.imp fun {a b} h => by simpa [ltOf, ordI_lt] using h
theorem compI_mem {l : List Id} {x : Id} : x ∈ compI l ↔ x ∈ l := by
  unfold compI Lib.compact Lib.compactUpTo
  rw [List.mem_map]
  constructor
  · rintro ⟨j, hj, rfl⟩
    have : j < l.length := by simpa using (List.mem_filter.1 hj).1
    simp [this]
  · intro hx
    obtain ⟨j, hj, rfl⟩ := List.getElem_of_mem hx
    induction j using Nat.strongRecOn with
    | _ j ih =>
      by_cases hk : Lib.keeps l.toArray j = true
      · exact ⟨j, List.mem_filter.2 ⟨List.mem_range.2 hj, hk⟩, by simp [hj]⟩
      · simp only [Lib.keeps, decide_eq_true_eq, not_or, Decidable.not_not] at hk
        obtain ⟨h0, h1⟩ := hk
        have hj' : j - 1 < l.length := by omega
        obtain ⟨i, h2, h3⟩ := ih (j - 1) (by omega) hj' (List.getElem_mem hj')
        refine ⟨i, h2, ?_⟩
        rw [h3]
        have := h1
        simp only [hj, hj', List.getElem!_toArray, getElem!_pos] at this
        exact this.symm
theorem compI_asc {l : List Id} (h : l.Pairwise fun a b => lessB b a = false) : Asc (compI l) := by
  unfold compI Lib.compact Lib.compactUpTo Asc
  rw [List.pairwise_map]
  refine List.Pairwise.imp_of_mem (R := (· < ·)) (fun {i j} hi hj hij => ?_) (List.Pairwise.filter _ List.pairwise_lt_range)
  obtain ⟨h1, -⟩ := List.mem_filter.1 hi
  obtain ⟨h2, h3⟩ := List.mem_filter.1 hj
  have hjl : j < l.length := List.mem_range.1 h2
  simp only [Lib.keeps, decide_eq_true_eq] at h3
  have h3' := h3.resolve_left (by omega)
  have hj1 : j - 1 < l.length := by omega
  have hil : i < l.length := by omega
  simp only [List.getElem!_toArray, getElem!_pos, hjl, hj1] at h3'
  simp only [List.getElem!_toArray, getElem!_pos, hjl, hil]
  have a1 : lessB l[j] l[j - 1] = false := List.pairwise_iff_getElem.1 h (j - 1) j hj1 hjl (by omega)
  have a2 : lessB l[j - 1] l[j] = true := by
    cases e : lessB l[j - 1] l[j]
    · exact (h3' (lessB_conn a1 e)).elim
    · rfl
  by_cases e : i = j - 1
  · subst e; exact a2
  · have a3 : lessB l[j - 1] l[i] = false := List.pairwise_iff_getElem.1 h i (j - 1) hil hj1 (by omega)
    simp only [lessB, decide_eq_false_iff_not, decide_eq_true_eq] at *
    omega
/-- the ids of a list, rising, each once -/
def setI (l : List Id) : List Id := compI (sortI l)
theorem setI_mem {l : List Id} {x : Id} : x ∈ setI l ↔ x ∈ l := compI_mem.trans sortI_mem
theorem setI_asc (l : List Id) : Asc (setI l) := compI_asc (sortI_sorted l)
/-- of ids that are apart the sorted list is rising -/
theorem sortI_asc {l : List Id} (h : l.Nodup) : Asc (sortI l) := by
  have h1 : (sortI l).Nodup := (List.mergeSort_perm l _).nodup_iff.2 h
  exact (List.Pairwise.and (sortI_sorted l) h1).imp fun {a b} ⟨h1, h2⟩ => by
    cases e : lessB a b
    · exact (h2 (lessB_conn e h1)).elim
    · rfl

/-! finding -/
theorem idxF_take {α : Type} (p : α → Bool) : ∀ (l : List α) (k i : Nat), 0 ≤ idxF p (l.take k) i → idxF p l i = idxF p (l.take k) i ∧ idxF p l i < i + k
  | [], k, i, h => by simp [idxF] at h
  | x :: l, 0, i, h => by simp [idxF] at h
  | x :: l, k + 1, i, h => by
    simp only [List.take_succ_cons, idxF] at h ⊢
    split
    · exact ⟨rfl, by omega⟩
    · rename_i hx
      rw [if_neg hx] at h
      have := idxF_take p l k (i + 1) h
      exact ⟨this.1, by omega⟩
theorem idxF_spec {α : Type} [Inhabited α] (p : α → Bool) : ∀ (l : List α) (i : Nat), 0 ≤ idxF p l i → ∃ k : Nat, idxF p l i = i + k ∧ k < l.length ∧ p (nth l k) = true
  | [], i, h => by simp [idxF] at h
  | x :: l, i, h => by
    simp only [idxF] at h ⊢
    split
    · rename_i hx
      exact ⟨0, by simp, by simp, by simpa [nth] using hx⟩
    · rename_i hx
      rw [if_neg hx] at h
      obtain ⟨k, h1, h2, h3⟩ := idxF_spec p l (i + 1) h
      exact ⟨k + 1, by omega, by simp; omega, by simpa [nth] using h3⟩
theorem findE_take {l : List Entry} {k : Nat} {x : Id} (h : 0 ≤ findE (l.take k) x) : findE l x = findE (l.take k) x ∧ findE l x < k := by
  have := idxF_take (fun e : Entry => decide (e.id = x)) l k 0 h
  exact ⟨this.1, by have := this.2; unfold findE; omega⟩
theorem findE_spec {l : List Entry} {x : Id} (h : 0 ≤ findE l x) : ∃ k : Nat, findE l x = k ∧ k < l.length ∧ (nth l k).id = x := by
  obtain ⟨k, h1, h2, h3⟩ := idxF_spec _ l 0 h
  exact ⟨k, by rw [findE, h1]; simp, h2, by simpa using h3⟩
theorem findE_neg {l : List Entry} {x : Id} : findE l x < 0 ↔ ∀ e ∈ l, e.id ≠ x := by
  rcases idxF_ge (fun e : Entry => decide (e.id = x)) l 0 with ⟨h1, h2⟩ | ⟨h1, h2⟩
  · rw [findE, h1]
    rw [List.any_eq_false] at h2
    exact ⟨fun _ e he => by simpa using h2 e he, fun _ => by omega⟩
  · rw [List.any_eq_true] at h2
    obtain ⟨e, he, hx⟩ := h2
    exact ⟨fun h => by rw [findE] at h; omega, fun h => (h e he (by simpa using hx)).elim⟩

/-! right logs -/
structure LogOk (l : List Entry) : Prop where
  len : l.length ≤ 40
  chk : ∀ k, k < l.length → checkEntry (nth l k) = 0
  new : ∀ k, k < l.length → findE (l.take k) (nth l k).id < 0
  num : ∀ k, k < l.length → (cntR (l.take k) (nth l k).id.r : Int) + 1 = (nth l k).id.n
  lnk : ∀ k, k < l.length → ∀ x ∈ (nth l k).ls, 0 ≤ findE (l.take k) x
theorem log_ok {l : List Entry} : checkLog l = 0 ↔ LogOk l := by
  have key : ∀ k, logErr l k = 0 ↔ checkEntry (nth l k) = 0 ∧ findE (l.take k) (nth l k).id < 0 ∧ (cntR (l.take k) (nth l k).id.r : Int) + 1 = (nth l k).id.n ∧ ∀ x ∈ (nth l k).ls, 0 ≤ findE (l.take k) x := by
    intro k
    unfold logErr
    split
    · rename_i h; exact ⟨fun e => (h e).elim, fun e => (h e.1).elim⟩
    · rename_i h0
      have h0' : checkEntry (nth l k) = 0 := by simpa using h0
      split
      · rename_i h; exact ⟨fun e => (by cases e), fun e => by omega⟩
      · rename_i h1
        split
        · rename_i h; exact ⟨fun e => (by cases e), fun e => (h e.2.2.1).elim⟩
        · rename_i h2
          have h2' : (cntR (l.take k) (nth l k).id.r : Int) + 1 = (nth l k).id.n := by simpa using h2
          have hr : readyB (l.take k) (nth l k) = true ↔ ∀ x ∈ (nth l k).ls, 0 ≤ findE (l.take k) x := by
            simp only [readyB, h2', decide_true, Bool.true_and, Bool.not_eq_true', List.any_eq_false, decide_eq_true_eq]
            exact ⟨fun h x hx => by have := h x hx; omega, fun h x hx => by have := h x hx; omega⟩
          rw [← hr]
          split
          · rename_i h; exact ⟨fun e => (by cases e), fun e => by rw [h] at e; simp at e⟩
          · rename_i h; exact ⟨fun _ => ⟨h0', by omega, h2', by simpa using h⟩, fun _ => rfl⟩
  unfold checkLog
  split
  · rename_i h; exact ⟨fun e => (by cases e), fun e => by have := e.len; omega⟩
  · rename_i h
    rw [firstNZ_zero]
    exact ⟨fun e => ⟨by omega, fun k hk => ((key k).1 (e k hk)).1, fun k hk => ((key k).1 (e k hk)).2.1, fun k hk => ((key k).1 (e k hk)).2.2.1, fun k hk => ((key k).1 (e k hk)).2.2.2⟩,
      fun e k hk => (key k).2 ⟨e.chk k hk, e.new k hk, e.num k hk, e.lnk k hk⟩⟩

theorem LogOk.id_ok {l : List Entry} (h : LogOk l) {k : Nat} (hk : k < l.length) : okId (nth l k).id = true := (check_ok_bounds (h.chk k hk)).1
theorem LogOk.link_ok {l : List Entry} (h : LogOk l) {k : Nat} (hk : k < l.length) {x : Id} (hx : x ∈ (nth l k).ls) : okId x = true := by
  obtain ⟨j, h1, h2, h3⟩ := findE_spec (h.lnk k hk x hx)
  rw [List.length_take] at h2
  have : nth (l.take k) j = nth l j := by rw [nth_eq _ _ (by rw [List.length_take]; omega), nth_eq _ _ (by omega), List.getElem_take]
  rw [← h3, this]
  exact h.id_ok (by omega)
theorem LogOk.links {l : List Entry} (h : LogOk l) {k : Nat} (hk : k < l.length) : (nth l k).ls.length ≤ 6 := (check_ok_bounds (h.chk k hk)).2.2.2.1
theorem LogOk.link_lt {l : List Entry} (h : LogOk l) {k : Nat} (hk : k < l.length) {x : Id} (hx : x ∈ (nth l k).ls) : 0 ≤ findE l x ∧ findE l x < k := by
  have h1 := h.lnk k hk x hx
  have h2 := findE_take h1
  exact ⟨by omega, h2.2⟩
theorem LogOk.inj {l : List Entry} (h : LogOk l) {i k : Nat} (hi : i < l.length) (hk : k < l.length) (e : (nth l i).id = (nth l k).id) : i = k := by
  have aux : ∀ i k, i < k → k < l.length → (nth l i).id = (nth l k).id → False := fun i k hik hk e => by
    have := findE_neg.1 (h.new k hk) (nth l i) (by rw [List.mem_take_iff_getElem]; exact ⟨i, by omega, by rw [nth_eq _ _ (by omega)]⟩)
    exact this e
  rcases Nat.lt_trichotomy i k with h1 | h1 | h1
  · exact (aux i k h1 hk e).elim
  · exact h1
  · exact (aux k i h1 hi e.symm).elim
theorem LogOk.find {l : List Entry} (h : LogOk l) {k : Nat} (hk : k < l.length) : findE l (nth l k).id = k := by
  have h0 : ¬ findE l (nth l k).id < 0 := fun hn => findE_neg.1 hn (nth l k) (by rw [nth_eq _ _ hk]; exact List.getElem_mem hk) rfl
  obtain ⟨j, h1, h2, h3⟩ := findE_spec (by omega : 0 ≤ findE l (nth l k).id)
  rw [h1, h.inj h2 hk h3]
theorem LogOk.reg {l : List Entry} (h : LogOk l) : okReg l := by
  intro e he
  obtain ⟨k, hk, rfl⟩ := List.getElem_of_mem he
  rw [← nth_eq l k hk]
  exact reg_of_check (h.chk k hk)

/-! pasts -/
def pastAt (ps : List (List Id)) (l : List Entry) (x : Id) : List Id := nth ps (findE l x).toNat
def allOf (ps : List (List Id)) (l : List Entry) (ls : List Id) : List Id := ls.flatMap fun x => x :: pastAt ps l x
def pastsTo (l : List Entry) : Nat → List (List Id)
  | 0 => []
  | k + 1 => pastsTo l k ++ [setI (allOf (pastsTo l k) l (nth l k).ls)]
def pasts (l : List Entry) : List (List Id) := pastsTo l l.length
/-- the past of the entry at a place -/
def pastOf (l : List Entry) (k : Nat) : List Id := nth (pasts l) k
@[simp] theorem pastsTo_length (l : List Entry) : ∀ k, (pastsTo l k).length = k
  | 0 => rfl
  | k + 1 => by simp [pastsTo, pastsTo_length l k]
theorem pastsTo_nth (l : List Entry) {i k : Nat} (h : i < k) : nth (pastsTo l k) i = nth (pastsTo l (i + 1)) i := by
  induction k with
  | zero => omega
  | succ k ih =>
    by_cases e : i = k
    · rw [e]
    · rw [← ih (by omega), nth_eq _ _ (by simp; omega), nth_eq _ _ (by simp; omega)]
      simp only [pastsTo]
      rw [List.getElem_append_left]
theorem nth_last (l : List Entry) (k : Nat) : nth (pastsTo l (k + 1)) k = setI (allOf (pastsTo l k) l (nth l k).ls) := by
  rw [nth_eq _ _ (by simp)]
  simp only [pastsTo]
  rw [List.getElem_append_right (by simp)]
  simp
theorem allOf_to {l : List Entry} (h : LogOk l) {k m : Nat} (hk : k < l.length) (hm : k ≤ m) : allOf (pastsTo l m) l (nth l k).ls = allOf (pastsTo l k) l (nth l k).ls := by
  unfold allOf
  have : ∀ x ∈ (nth l k).ls, pastAt (pastsTo l m) l x = pastAt (pastsTo l k) l x := fun x hx => by
    have := h.link_lt hk hx
    unfold pastAt
    rw [pastsTo_nth l (by omega : (findE l x).toNat < m), pastsTo_nth l (by omega : (findE l x).toNat < k)]
  rw [List.flatMap_def, List.flatMap_def]
  congr 1
  exact List.map_congr_left fun x hx => by rw [this x hx]
theorem pastOf_eq {l : List Entry} (h : LogOk l) {k : Nat} (hk : k < l.length) : pastOf l k = setI (allOf (pasts l) l (nth l k).ls) := by
  unfold pastOf pasts
  rw [pastsTo_nth l hk, nth_last, allOf_to h hk (Nat.le_of_lt hk)]
theorem pastOf_asc {l : List Entry} (h : LogOk l) {k : Nat} (hk : k < l.length) : Asc (pastOf l k) := by
  rw [pastOf_eq h hk]; exact setI_asc _
/-- what is in the past of an entry: its links, and what is in the pasts of these -/
theorem mem_pastOf {l : List Entry} (h : LogOk l) {k : Nat} (hk : k < l.length) {y : Id} : y ∈ pastOf l k ↔ ∃ x ∈ (nth l k).ls, y = x ∨ y ∈ pastOf l (findE l x).toNat := by
  rw [pastOf_eq h hk, setI_mem, allOf, List.mem_flatMap]
  simp only [List.mem_cons]
  rfl
theorem pastOf_lt {l : List Entry} (h : LogOk l) : ∀ (k : Nat), k < l.length → ∀ y ∈ pastOf l k, ∃ j, j < k ∧ (nth l j).id = y := by
  intro k
  induction k using Nat.strongRecOn with
  | _ k ih =>
    intro hk y hy
    obtain ⟨x, hx, he⟩ := (mem_pastOf h hk).1 hy
    obtain ⟨h1, h2⟩ := h.link_lt hk hx
    obtain ⟨j, h3, h4, h5⟩ := findE_spec h1
    rcases he with rfl | he
    · exact ⟨j, by omega, h5⟩
    · obtain ⟨i, h6, h7⟩ := ih (findE l x).toNat (by omega) (by omega) y he
      exact ⟨i, by omega, h7⟩
theorem pastOf_ok {l : List Entry} (h : LogOk l) {k : Nat} (hk : k < l.length) : ∀ y ∈ pastOf l k, okId y = true := by
  intro y hy
  obtain ⟨j, h1, rfl⟩ := pastOf_lt h k hk y hy
  exact h.id_ok (by omega)
theorem pastOf_len {l : List Entry} (h : LogOk l) {k : Nat} (hk : k < l.length) : (pastOf l k).length ≤ 40 := asc_len (pastOf_asc h hk) (pastOf_ok h hk)
end Go.Proofs.Ytocglfkflpkafaa
/- A struct that nobody writes any more: its pointer shows its cells, and its object is let go. -/
namespace Go.Proofs.Ytocglfkflpkafaa
open Go.RowKit

theorem weak_rptr {x : Cx} {nt : Nat} {st : St} (t id : Nat) {cells : List PV} {H' : List AObj} {cells' : List PV} (h : st.env t = .ptr id 0) (hid : st.heap[id]? = some (.box cells)) (hc : cells.map (frz st.heap) = cells') (hp : cells'.all PV.isPure = true) (hH : st.heap.set id .gone = H') :
    Weak x nt st (st.put (some t) (.rptr cells') H') := by
  subst hc; subst hH
  intro a w ⟨⟨C, hr, he⟩, hdf, hs⟩
  have hlt : id < st.heap.length := (List.getElem?_eq_some_iff.1 hid).1
  obtain ⟨cs, T, g1, g2, g3⟩ := hr.obj id _ hid
  have hb : C.blk id < w.heap.size := (Array.getElem?_eq_some_iff.1 g1).1
  have hmp : ∀ p v, RepP (Stab x C st.heap w) w p v → RepP (Stab x C (st.heap.set id .gone) w) w p v := by
    intro p v h
    refine h.mono (fun b o h => ⟨h.1, h.2.1, fun i ob1 hi => ?_⟩) fun b o h => rfl
    by_cases e : i = id
    · subst e; rw [List.getElem?_set_self hlt] at hi; cases hi; trivial
    · rw [List.getElem?_set_ne (Ne.symm e)] at hi; exact h.2.2 i ob1 hi
  obtain ⟨k1, k2⟩ := hr.change (C' := C) hid (ob' := .gone) (step_refl w) rfl (fun _ => rfl) (fun _ _ => ⟨rfl, rfl⟩) (.inl ⟨rfl, rfl⟩)
    (fun b o hb hf => trivial) (fun b o hb hf => rfl) (fun b hb => hb.elim) (fun _ _ => trivial)
  have hfz := frz_cells (vs := cells) (us := cs.toList) hr (fun j q u hq hu => g3 j q u hq (by rw [← Array.getElem?_toList]; exact hu)) hp
  refine ⟨⟨C, k1, fun u => ?_⟩, hdf, hs⟩
  simp only [St.put, Option.some.injEq]
  by_cases e : t = u
  · subst e
    rw [if_pos rfl]
    have := he t
    rw [h] at this
    rw [this.ptr_inv.1]
    refine .rptr _ (C.blk id) 0 (fun j => cs[j]!) (fun j p hj => ?_) fun j p hj => ?_
    all_goals
      have hjl : j < cs.size := by
        have := (List.getElem?_eq_some_iff.1 hj).1
        rw [List.length_map] at this; omega
    · refine ⟨⟨?_, hb, fun i ob1 hi => ?_⟩, ?_⟩
      · rcases hr.mine id _ _ hid rfl with h | h
        · exact .inr (.inl h)
        · exact .inr (.inr h)
      · by_cases e : i = id
        · subst e; rw [List.getElem?_set_self hlt] at hi; cases hi; trivial
        · rw [List.getElem?_set_ne (Ne.symm e)] at hi
          exact AObj.free_of_not (fun hb => e (hr.apart i id ob1 _ _ hi hid hb rfl)) _
      · simp [World.cell?, g1, hjl]
    · exact hmp _ _ (hfz j p _ hj (by simp [hjl])).2
  · rw [if_neg e]; exact k2 _ _ (he u)
end Go.Proofs.Ytocglfkflpkafaa
