/- Joined texts of this claim: M1 M2 Lc E1 E2 E3 E4 E5 E6 S2 S3 S4 S5 S6 S7. -/
import Derived.Test.YtkgobnnkcnnfhaaKB
import Derived.Shelf.GgSortFunc.InsertionK
import Derived.Test.YtkgobnnkcnnfhaaProg
import Derived.KernelRfl
import Derived.IntWalk
import Derived.Shelf.RegionOpenPlain
import Derived.WalkKit
import Derived.Deep.LoopGhost
import Derived.Deep.Draws
import Derived.Lib.Walk
import Derived.Sort.WalkB12
import Derived.Lib.SliceRun
import Derived.Lib.SlicesCompact
import Derived.Deep.RegionLaw
import Derived.Lib.SlicesDelete
import Derived.Shelf.Spec.SlicesInsert
import Derived.ArgAppend
import Derived.Shelf.Spec.SlicesInsertGrow
set_option linter.unusedSimpArgs false
set_option linter.unusedVariables false
set_option linter.unusedSectionVars false
/- Array objects and the rows of cells where they lie: what holds in memory of an array, and what may be said when its cells were laid anew. -/
namespace Go.Proofs.Ytkgobnnkcnnfhaa
open Go.RowKit

section
variable {x : Cx} {C : Conc} {H : List AObj} {w w' : World}

/-- an array's header, and the row of cells behind it -/
theorem HR.row (hr : HR x C H w) {id v T sz : Nat} {sto : Bool} {rows : List (List PV)} {u : Value} (hid : H[id]? = some (.arr v sto false T sz rows)) (hu : RepV (Stab x C H w) w C (.arr id v) u) :
    u = C.sv id ∧ (∀ row ∈ rows, row.length = sz) ∧ (u = .slice none 0 0 ∧ rows = [] ∨ ∃ (g cap : Nat) (cur : Array Value), u = .slice (some ⟨g, 0, none⟩) rows.length cap ∧ w.heap[g]? = some (.cells cur T (0, 0)) ∧ rows.length ≤ cap ∧ cap ≤ maxLen ∧ cur.size = cap * sz ∧
      ∀ (k : Nat) row (j : Nat) p, rows[k]? = some row → row[j]? = some p → ∃ y, cur[k * sz + j]? = some y ∧ y.oneCell' = true ∧ RepP (Stab x C H w) w p y) := by
  obtain ⟨o1, o2, o3, xs, o4, o5⟩ := hr.obj id _ hid
  obtain ⟨e, hi⟩ := hu.arr_inv o1
  refine ⟨e, o3, ?_⟩
  rcases o4.2 with ⟨g1, g2⟩ | ⟨g, cap, cur, g1, -, g2, g3, g4, g5, g6⟩
  · exact .inl ⟨e.trans g1, List.length_eq_zero_iff.1 g2⟩
  · refine .inr ⟨g, cap, cur, e.trans g1, g2, g3, g4, g5, fun k row j p a b => ?_⟩
    have hk : k < rows.length := (List.getElem?_eq_some_iff.1 a).1
    have hj : j < sz := by rw [← o3 row (List.mem_of_getElem? a)]; exact (List.getElem?_eq_some_iff.1 b).1
    have hkl : k * sz + j < rows.length * sz := by
      have : (k + 1) * sz ≤ rows.length * sz := Nat.mul_le_mul_right _ hk
      rw [Nat.add_mul] at this; omega
    have hcl : rows.length * sz ≤ cap * sz := Nat.mul_le_mul_right _ g3
    have hlt : k * sz + j < cur.size := by omega
    have hx : xs[k * sz + j]? = some cur[k * sz + j] := by rw [← g6, List.getElem?_take, if_pos hkl, Array.getElem?_toList, Array.getElem?_eq_getElem hlt]
    have := o5 k row j p _ a b hx
    simp only [Bool.false_eq_true, if_false] at this
    exact ⟨_, Array.getElem?_eq_getElem hlt, this⟩

/-- an array is a list of data from now on -/
theorem HR.drop (hr : HR x C H w) {id v T sz g cap' : Nat} {rows rows' : List (List PV)} {cur' : Array Value} {fr : Nat × Nat}
    (hid : H[id]? = some (.arr v true false T sz rows)) (hs : Step w w' fun b => (C.sv id).ownBlock = some b) (hg : (C.sv id).ownBlock = some g)
    (hc : w'.heap[g]? = some (.cells cur' T fr)) (hn : rows'.length ≤ cap') (hm : cap' ≤ maxLen) (hz : cur'.size = cap' * sz) (hrow : ∀ row ∈ rows', row.length = sz)
    (hrep : ∀ (k : Nat) row (j : Nat) p u, rows'[k]? = some row → row[j]? = some p → cur'[k * sz + j]? = some u → RepP (Stab x C H w) w p u) :
    HR x C (H.set id .gone) w' ∧ (∀ p u, RepV (Stab x C H w) w C p u → RepV (Stab x C (H.set id .gone) w') w' C p u) ∧
      RepP (Stab x C (H.set id .gone) w') w' (.list rows') (.slice (some ⟨g, 0, none⟩) rows'.length cap') := by
  obtain ⟨o1, o2, o3, xs, o4, o5⟩ := hr.obj id _ hid
  have hlt : id < H.length := (List.getElem?_eq_some_iff.1 hid).1
  have hgb : g < w'.heap.size := (Array.getElem?_eq_some_iff.1 hc).1
  have hmp : ∀ p v, RepP (Stab x C H w) w p v → RepP (Stab x C (H.set id .gone) w') w' p v := by
    intro p v h
    refine h.mono (fun b o h => ⟨h.1, Nat.lt_of_lt_of_le h.2.1 hs.size, fun i ob1 hi => ?_⟩) fun b o h => cell_eq (hs.blk b h.2.1 fun hb => ?_)
    · by_cases e : i = id
      · subst e; rw [List.getElem?_set_self hlt] at hi; cases hi; trivial
      · rw [List.getElem?_set_ne (Ne.symm e)] at hi; exact h.2.2 i ob1 hi
    · have := h.2.2 id _ hid hb; simp at this
  obtain ⟨k1, k2⟩ := hr.change (C' := C) hid (ob' := .gone) hs rfl (fun _ => rfl) (fun _ _ => ⟨rfl, rfl⟩) (.inl ⟨rfl, rfl⟩)
    (fun b o hb hf => trivial) (fun b o hb hf => by have := hf hb; simp at this) (fun b hb => hb.elim) (fun _ _ => trivial)
  refine ⟨k1, k2, ?_⟩
  refine .list rows' _ cap' sz (fun k j => cur'[k * sz + j]!) hn hm o2 hrow (fun k row j p a b => ⟨g, 0, rfl, ?_, ?_⟩) fun k row j p a b => ?_
  · refine ⟨?_, hgb, fun i ob1 hi => ?_⟩
    · rcases hr.mine id _ g hid hg with h | h
      · exact .inr (.inl h)
      · exact .inr (.inr h)
    · by_cases e : i = id
      · subst e; rw [List.getElem?_set_self hlt] at hi; cases hi; trivial
      · rw [List.getElem?_set_ne (Ne.symm e)] at hi
        exact AObj.free_of_not (fun hb => e (hr.apart i id ob1 _ g hi hid hb hg)) _
  all_goals
    have hk : k < rows'.length := (List.getElem?_eq_some_iff.1 a).1
    have hj : j < sz := by rw [← hrow row (List.mem_of_getElem? a)]; exact (List.getElem?_eq_some_iff.1 b).1
    have hkl : k * sz + j < cur'.size := by
      have h1 : (k + 1) * sz ≤ rows'.length * sz := Nat.mul_le_mul_right _ hk
      have h2 : rows'.length * sz ≤ cap' * sz := Nat.mul_le_mul_right _ hn
      rw [Nat.add_mul] at h1; omega
  · simp [World.cell?, hc, hkl]
  · exact hmp _ _ (hrep k row j p _ a b (by simp [hkl]))
end
end Go.Proofs.Ytkgobnnkcnnfhaa
/- Rows of plain cells: the kit's words on rows, and arrays of the calculus. -/
namespace Go.Proofs.Ytkgobnnkcnnfhaa
open Go.RowKit
open Go.Sort (flatK putRowK HoldsK size_flatK get_flatK putCells mapBlock onCells)

/-- elements whose cells are plain: what an abstract row says is just what the cells hold -/
structure Flat {α : Type} (pv : α → List PV) (enc : α → List Value) (k : Nat) : Prop where
  k0 : 0 < k
  len : ∀ a, (enc a).length = k
  lenp : ∀ a, (pv a).length = k
  one : ∀ a, ∀ v ∈ enc a, v.oneCell' = true
  fit : ∀ S w a (j : Nat) p, (pv a)[j]? = some p → RepP S w p ((enc a)[j]!)
  back : ∀ S w a (j : Nat) p u, (pv a)[j]? = some p → RepP S w p u → u = (enc a)[j]!

section
variable {α : Type} [Inhabited α] {pv : α → List PV} {enc : α → List Value} {k : Nat}

theorem Flat.holds (F : Flat pv enc k) {S : Nat → Nat → Prop} {w : World} {g T : Nat} {cur : Array Value} (l : List α) (hc : w.heap[g]? = some (.cells cur T (0, 0)))
    (h : ∀ (i : Nat) row (j : Nat) p, (l.map pv)[i]? = some row → row[j]? = some p → ∃ y, cur[i * k + j]? = some y ∧ y.oneCell' = true ∧ RepP S w p y) : HoldsK enc k w g 0 l.toArray := by
  intro t ht
  rw [size_flatK] at ht
  rw [get_flatK _ _ _ _ ht]
  have k0 := F.k0
  have hi : t / k < l.length := Nat.div_lt_of_lt_mul (by rw [Nat.mul_comm]; simpa using ht)
  have hj : t % k < k := Nat.mod_lt _ k0
  have e : t / k * k + t % k = t := by rw [Nat.mul_comm]; exact Nat.div_add_mod t k
  obtain ⟨y, h1, -, h3⟩ := h (t / k) (pv l[t / k]) (t % k) ((pv l[t / k])[t % k]'(by rw [F.lenp]; exact hj)) (by simp [hi]) (by rw [List.getElem?_eq_getElem (by rw [F.lenp]; exact hj)])
  have h4 := F.back _ _ _ _ _ _ (List.getElem?_eq_getElem (by rw [F.lenp]; exact hj)) h3
  rw [e] at h1
  have e2 : l.toArray[t / k]! = l[t / k] := by simp [hi]
  rw [e2, ← h4]
  refine ⟨?_, ?_⟩
  · simp [World.cell?, hc, h1]
  · simp [World.frozen?, hc]

/-- the world in which a row was laid anew: its cells -/
theorem row_world (enc : α → List Value) (k : Nat) (w : World) (g m : Nat) (d' : Array α) (os : Array Obj) {cur : Array Value} {T : TypeId} {fr : Nat × Nat} (hc : w.heap[g]? = some (.cells cur T fr)) :
    ∃ cur' : Array Value, (sortWorldK enc k w g 0 m d' os).heap[g]? = some (.cells cur' T fr) ∧ cur'.size = cur.size ∧
      (∀ t y, t < d'.size * k → cur'[t]? = some y → y = (flatK enc k d')[t]!) ∧ Step w (sortWorldK enc k w g 0 m d' os) (fun b => b = g) := by
  have hlt : g < w.heap.size := (Array.getElem?_eq_some_iff.1 hc).1
  have hh : (sortWorldK enc k w g 0 m d' os).heap = w.heap.modify g (onCells (putCells id 0 (flatK enc k d'))) ++ os := rfl
  refine ⟨putCells id 0 (flatK enc k d') cur, ?_, by simp [putCells], fun t y ht hy => ?_, ?_⟩
  · rw [hh, Array.getElem?_append_left (by simpa using hlt), Array.getElem?_modify, if_pos rfl, hc]
    rfl
  · rw [putCells, Array.getElem?_mapIdx] at hy
    cases hcu : cur[t]? with
    | none => rw [hcu] at hy; cases hy
    | some z =>
      rw [hcu, Option.map_some, if_pos ⟨Nat.zero_le _, by rw [size_flatK]; omega⟩] at hy
      exact (Option.some.inj hy).symm
  · refine ⟨by rw [hh]; simp, rfl, rfl, rfl, fun b hb hne => ?_⟩
    rw [hh, Array.getElem?_append_left (by simpa using hb), Array.getElem?_modify, if_neg (fun e => hne e.symm)]

theorem Flat.rep (F : Flat pv enc k) {S : Nat → Nat → Prop} {w : World} {d' : Array α} {cur' : Array Value} (h : ∀ t y, t < d'.size * k → cur'[t]? = some y → y = (flatK enc k d')[t]!) {l : List α} (n : Nat) (hl : ∀ i, i < n → l[i]? = some d'[i]!) (hn : l.length = n) (hnd : n ≤ d'.size) :
    ∀ (i : Nat) row (j : Nat) p u, (l.map pv)[i]? = some row → row[j]? = some p → cur'[i * k + j]? = some u → u.oneCell' = true ∧ RepP S w p u := by
  intro i row j p u a b c
  have k0 := F.k0
  rw [List.getElem?_map] at a
  obtain ⟨y, hy, rfl⟩ := Option.map_eq_some_iff.1 a
  have hi : i < n := by rw [← hn]; exact (List.getElem?_eq_some_iff.1 hy).1
  have hj : j < k := by rw [← F.lenp y]; exact (List.getElem?_eq_some_iff.1 b).1
  rw [hl i hi] at hy
  have ht : i * k + j < d'.size * k := by
    have : (i + 1) * k ≤ d'.size * k := Nat.mul_le_mul_right _ (by omega)
    rw [Nat.add_mul] at this; omega
  have hu := h _ _ ht c
  rw [get_flatK _ _ _ _ ht] at hu
  have e1 : (i * k + j) / k = i := by rw [Nat.mul_comm, Nat.mul_add_div k0, Nat.div_eq_of_lt hj]; rfl
  have e2 : (i * k + j) % k = j := by rw [Nat.mul_comm, Nat.mul_add_mod, Nat.mod_eq_of_lt hj]
  rw [e1, e2, Option.some.inj hy] at hu
  subst hu
  refine ⟨F.one y _ ?_, F.fit _ _ _ _ _ b⟩
  rw [getElem!_pos _ j (by rw [F.len]; exact hj)]
  exact List.getElem_mem _
end
end Go.Proofs.Ytkgobnnkcnnfhaa
/- The lowered code of this seat's functions (printed by a program). -/
namespace Go.Proofs.Ytkgobnnkcnnfhaa
set_option maxRecDepth 100000 in
def L4 : LC := (.seq (.reg none [⟨(some 2), (.box (.tmp 0)), none, true⟩, ⟨(some 3), (.box (.tmp 1)), none, true⟩, ⟨(some 4), (.mv (.val (.bool false))), none, true⟩]) (.seq (.reg none [⟨(some 10), (.load 2 true (.tmp 2)), none, true⟩, ⟨(some 11), (.load 5 true (.tmp 3)), none, true⟩, ⟨(some 12), (.call 11 [(.tmp 10), (.tmp 11)] 0), none, true⟩, ⟨(some 9), (.mv (.tmp 12)), none, true⟩, ⟨(some 13), (.ext 0 (.tmp 9)), none, true⟩, ⟨(some 14), (.ext 1 (.tmp 9)), none, true⟩, ⟨(some 5), (.alloc [.nilsl, .nilsl]), none, true⟩, ⟨none, (.store 2 (.tmp 5) (.tmp 13)), none, true⟩, ⟨(some 6), (.mv (.tmp 14)), none, true⟩]) (.seq (.seq (.reg none [⟨(some 15), (.call 6 [] 0), none, true⟩, ⟨(some 16), (.not (.tmp 15)), none, true⟩]) (.cond (.tmp 16) (.seq (.reg none [⟨(some 4), (.mv (.val (.bool false))), none, true⟩]) .ret) .skip)) (.seq (.seq (.reg none [⟨(some 17), (.mv (.tmp 6)), none, true⟩, ⟨(some 18), (.bin .neq (.tmp 17) (.val (.int .i64 0))), none, true⟩]) (.cond (.tmp 18) (.seq (.reg none [⟨(some 19), (.addr 0 (.tmp 5)), none, true⟩, ⟨(some 20), (.load 1 false (.tmp 19)), none, true⟩, ⟨(some 21), (.len false (.tmp 20)), none, true⟩, ⟨(some 22), (.bin .eql (.tmp 21) (.val (.int .i64 0))), none, true⟩, ⟨(some 4), (.mv (.tmp 22)), none, true⟩]) .ret) .skip)) (.seq (.seq (.reg none [⟨(some 23), (.load 2 true (.tmp 5)), none, true⟩, ⟨(some 24), (.call 7 [(.tmp 23)] 0), none, true⟩, ⟨(some 25), (.bin .neq (.tmp 24) (.val (.int .i64 0))), none, true⟩, ⟨(some 26), (.mv (.tmp 25)), none, true⟩, ⟨(some 27), (.addr 0 (.tmp 5)), (some (26, false)), true⟩, ⟨(some 28), (.load 1 false (.tmp 27)), (some (26, false)), true⟩, ⟨(some 29), (.len false (.tmp 28)), (some (26, false)), true⟩, ⟨(some 30), (.bin .neq (.tmp 29) (.val (.int .i64 2))), (some (26, false)), true⟩, ⟨(some 31), (.pick (.tmp 26) (.val (.bool true)) (.tmp 30)), none, true⟩]) (.cond (.tmp 31) (.seq (.reg none [⟨(some 4), (.mv (.val (.bool false))), none, true⟩]) .ret) .skip)) (.seq (.seq (.reg none [⟨(some 7), (.mv (.val (.int .i64 0))), none, true⟩]) (.block 0 (.loop (.seq (.seq (.reg none [⟨(some 32), (.mv (.tmp 7)), none, true⟩, ⟨(some 33), (.bin .lss (.tmp 32) (.val (.int .i64 2))), none, true⟩]) (.cond (.tmp 33) .skip (.exit 0))) (.seq (.block 1 (.seq (.reg none [⟨(some 36), (.addr 0 (.tmp 2)), none, true⟩, ⟨(some 37), (.load 1 false (.tmp 36)), none, true⟩, ⟨(some 38), (.mv (.tmp 7)), none, true⟩, ⟨(some 39), (.iaddrS 3 (.tmp 37) (.tmp 38)), none, true⟩, ⟨(some 40), (.addr 1 (.tmp 39)), none, true⟩, ⟨(some 41), (.load 1 false (.tmp 40)), none, true⟩, ⟨(some 42), (.len false (.tmp 41)), none, true⟩, ⟨(some 8), (.mv (.tmp 42)), none, true⟩]) (.seq (.reg (some []) [⟨(some 43), (.addr 0 (.tmp 5)), none, true⟩, ⟨(some 44), (.load 1 false (.tmp 43)), none, true⟩, ⟨(some 45), (.mv (.tmp 7)), none, true⟩, ⟨(some 46), (.iaddrS 3 (.tmp 44) (.tmp 45)), none, true⟩, ⟨(some 47), (.addr 1 (.tmp 46)), none, true⟩, ⟨(some 48), (.load 1 false (.tmp 47)), none, true⟩, ⟨(some 49), (.len false (.tmp 48)), none, true⟩, ⟨(some 50), (.mv (.tmp 8)), none, true⟩, ⟨(some 51), (.bin .lss (.tmp 49) (.tmp 50)), none, true⟩, ⟨(some 52), (.mv (.tmp 51)), none, true⟩, ⟨(some 53), (.addr 0 (.tmp 5)), (some (52, false)), false⟩, ⟨(some 54), (.load 1 false (.tmp 53)), (some (52, false)), false⟩, ⟨(some 55), (.mv (.tmp 7)), (some (52, false)), true⟩, ⟨(some 56), (.iaddrS 3 (.tmp 54) (.tmp 55)), (some (52, false)), false⟩, ⟨(some 57), (.addr 1 (.tmp 56)), (some (52, false)), false⟩, ⟨(some 58), (.load 1 false (.tmp 57)), (some (52, false)), false⟩, ⟨(some 59), (.mv (.tmp 8)), (some (52, false)), true⟩, ⟨(some 60), (.slc 5 (.tmp 58) none (some (.tmp 59))), (some (52, false)), false⟩, ⟨(some 61), (.addr 0 (.tmp 2)), (some (52, false)), false⟩, ⟨(some 62), (.load 1 false (.tmp 61)), (some (52, false)), false⟩, ⟨(some 63), (.mv (.tmp 7)), (some (52, false)), true⟩, ⟨(some 64), (.iaddrS 3 (.tmp 62) (.tmp 63)), (some (52, false)), false⟩, ⟨(some 65), (.addr 1 (.tmp 64)), (some (52, false)), false⟩, ⟨(some 66), (.load 1 false (.tmp 65)), (some (52, false)), false⟩, ⟨(some 67), (.call 12 [(.tmp 60), (.tmp 66)] 0), (some (52, false)), true⟩, ⟨(some 68), (.not (.tmp 67)), (some (52, false)), true⟩, ⟨(some 69), (.pick (.tmp 52) (.val (.bool true)) (.tmp 68)), none, true⟩, ⟨(some 70), (.mv (.tmp 69)), none, true⟩, ⟨(some 71), (.mv (.tmp 7)), (some (70, false)), true⟩, ⟨(some 72), (.addr 1 (.tmp 3)), (some (70, false)), true⟩, ⟨(some 73), (.load 1 false (.tmp 72)), (some (70, false)), true⟩, ⟨(some 74), (.bin .neq (.tmp 71) (.tmp 73)), (some (70, false)), true⟩, ⟨(some 75), (.mv (.tmp 74)), (some (70, false)), true⟩, ⟨(some 76), (.addr 0 (.tmp 5)), (some (75, true)), true⟩, ⟨(some 77), (.load 1 false (.tmp 76)), (some (75, true)), true⟩, ⟨(some 78), (.mv (.tmp 7)), (some (75, true)), true⟩, ⟨(some 79), (.iaddrS 3 (.tmp 77) (.tmp 78)), (some (75, true)), true⟩, ⟨(some 80), (.addr 1 (.tmp 79)), (some (75, true)), true⟩, ⟨(some 81), (.load 1 false (.tmp 80)), (some (75, true)), true⟩, ⟨(some 82), (.len false (.tmp 81)), (some (75, true)), true⟩, ⟨(some 83), (.mv (.tmp 8)), (some (75, true)), true⟩, ⟨(some 84), (.bin .neq (.tmp 82) (.tmp 83)), (some (75, true)), true⟩, ⟨(some 85), (.pick (.tmp 75) (.tmp 84) (.val (.bool false))), (some (70, false)), true⟩, ⟨(some 86), (.pick (.tmp 70) (.val (.bool true)) (.tmp 85)), none, true⟩]) (.cond (.tmp 86) (.seq (.reg none [⟨(some 4), (.mv (.val (.bool false))), none, true⟩]) .ret) .skip)))) (.reg none [⟨(some 34), (.mv (.tmp 7)), none, true⟩, ⟨(some 35), (.bin .add (.tmp 34) (.val (.int .i64 1))), none, true⟩, ⟨(some 7), (.mv (.tmp 35)), none, true⟩])))))) (.seq (.reg none [⟨(some 4), (.mv (.val (.bool true))), none, true⟩]) .ret)))))))
def R4 : List LRes := [(.tmp 4)]
theorem low4 : Try.f4.body.bind (lowerCode Try.prog 87) = some L4 := by kernel_rfl
theorem res4 : lowerRes Try.prog Try.f4.results.toList = some R4 := by kernel_rfl
set_option maxRecDepth 100000 in
def L5 : LC := (.seq (.reg none [⟨(some 1), (.box (.tmp 0)), none, true⟩, ⟨(some 2), (.alloc [.nilsl, .nilsl]), none, true⟩, ⟨(some 3), (.mv (.val (.int .i64 0))), none, true⟩]) (.seq (.seq (.reg none [⟨(some 8), (.load 2 true (.tmp 1)), none, true⟩, ⟨(some 9), (.call 7 [(.tmp 8)] 0), none, true⟩, ⟨(some 4), (.mv (.tmp 9)), none, true⟩]) (.seq (.reg none [⟨(some 10), (.mv (.tmp 4)), none, true⟩, ⟨(some 11), (.bin .neq (.tmp 10) (.val (.int .i64 0))), none, true⟩]) (.cond (.tmp 11) (.seq (.reg none [⟨(some 12), (.build [.nilsl, .nilsl] []), none, true⟩, ⟨(some 13), (.mv (.tmp 4)), none, true⟩, ⟨none, (.store 2 (.tmp 2) (.tmp 12)), none, true⟩, ⟨(some 3), (.mv (.tmp 13)), none, true⟩]) .ret) .skip))) (.seq (.reg none [⟨(some 14), (.load 2 true (.tmp 1)), none, true⟩, ⟨(some 15), (.call 13 [(.tmp 14)] 0), none, true⟩, ⟨(some 5), (.mv (.tmp 15)), none, true⟩]) (.seq (.seq (.reg none [⟨(some 16), (.mv (.val (.int .i64 0))), none, true⟩]) (.block 0 (.loop (.seq (.reg none [⟨(some 17), (.bin .lss (.tmp 16) (.val (.int .i64 2))), none, true⟩]) (.seq (.cond (.tmp 17) .skip (.exit 0)) (.seq (.block 1 (.seq (.reg none [⟨(some 18), (.mv (.tmp 16)), none, true⟩, ⟨(some 6), (.mv (.tmp 18)), none, true⟩]) (.seq (.reg none [⟨(some 19), (.mv (.tmp 5)), none, true⟩, ⟨(some 20), (.mv (.tmp 6)), none, true⟩, ⟨(some 21), (.call 14 [(.tmp 19), (.tmp 20)] 0), none, true⟩, ⟨(some 7), (.mv (.tmp 21)), none, true⟩]) (.seq (.reg none [⟨(some 22), (.mv (.tmp 7)), none, true⟩, ⟨(some 23), (.bin .neq (.tmp 22) (.val (.int .i64 0))), none, true⟩]) (.cond (.tmp 23) (.seq (.reg none [⟨(some 24), (.build [.nilsl, .nilsl] []), none, true⟩, ⟨(some 25), (.mv (.tmp 7)), none, true⟩, ⟨none, (.store 2 (.tmp 2) (.tmp 24)), none, true⟩, ⟨(some 3), (.mv (.tmp 25)), none, true⟩]) .ret) .skip))))) (.reg none [⟨(some 26), (.bin .add (.tmp 16) (.val (.int .i64 1))), none, true⟩, ⟨(some 16), (.mv (.tmp 26)), none, true⟩]))))))) (.seq (.reg none [⟨(some 27), (.mv (.tmp 5)), none, true⟩, ⟨(some 28), (.nilchk (.tmp 27)), none, true⟩, ⟨(some 29), (.addr 0 (.tmp 28)), none, true⟩, ⟨(some 30), (.load 2 true (.tmp 29)), none, true⟩, ⟨none, (.store 2 (.tmp 2) (.tmp 30)), none, true⟩, ⟨(some 3), (.mv (.val (.int .i64 0))), none, true⟩]) .ret)))))
def R5 : List LRes := [(.cell 2 2 true), (.tmp 3)]
theorem low5 : Try.f5.body.bind (lowerCode Try.prog 31) = some L5 := by kernel_rfl
theorem res5 : lowerRes Try.prog Try.f5.results.toList = some R5 := by kernel_rfl
set_option maxRecDepth 100000 in
def L6 : LC := (.seq (.reg none [⟨(some 0), (.mv (.val (.bool false))), none, true⟩]) (.seq (.reg none [⟨(some 7), (.call 15 [] 0), none, true⟩, ⟨(some 1), (.alloc [.nilsl, .nilsl]), none, true⟩, ⟨none, (.store 2 (.tmp 1) (.tmp 7)), none, true⟩]) (.seq (.seq (.reg none [⟨(some 2), (.mv (.val (.int .i64 0))), none, true⟩]) (.block 0 (.loop (.seq (.seq (.reg none [⟨(some 8), (.mv (.tmp 2)), none, true⟩, ⟨(some 9), (.call 16 [] 0), none, true⟩, ⟨(some 10), (.len false (.tmp 9)), none, true⟩, ⟨(some 11), (.bin .lss (.tmp 8) (.tmp 10)), none, true⟩]) (.cond (.tmp 11) .skip (.exit 0))) (.seq (.block 1 (.seq (.reg (some [(0, 9), (1, 9), (3, 9), (4, 9), (5, 9)]) [⟨(some 15), (.load 2 true (.tmp 1)), none, false⟩, ⟨(some 16), (.call 16 [] 0), none, false⟩, ⟨(some 17), (.mv (.tmp 2)), none, true⟩, ⟨(some 18), (.iaddrS 5 (.tmp 16) (.tmp 17)), none, false⟩, ⟨(some 19), (.load 5 true (.tmp 18)), none, false⟩, ⟨(some 20), (.call 11 [(.tmp 15), (.tmp 19)] 0), none, false⟩, ⟨(some 14), (.mv (.tmp 20)), none, true⟩, ⟨(some 21), (.ext 0 (.tmp 14)), none, true⟩, ⟨(some 22), (.ext 1 (.tmp 14)), none, true⟩, ⟨(some 3), (.alloc [.nilsl, .nilsl]), none, false⟩, ⟨none, (.store 2 (.tmp 3) (.tmp 21)), none, true⟩, ⟨(some 4), (.mv (.tmp 22)), none, true⟩]) (.seq (.seq (.reg none [⟨(some 23), (.mv (.tmp 4)), none, true⟩, ⟨(some 24), (.bin .neq (.tmp 23) (.val (.int .i64 0))), none, true⟩]) (.cond (.tmp 24) (.seq (.reg none [⟨(some 0), (.mv (.val (.bool false))), none, true⟩]) .ret) .skip)) (.reg none [⟨(some 25), (.load 2 true (.tmp 3)), none, true⟩, ⟨none, (.store 2 (.tmp 1) (.tmp 25)), none, true⟩])))) (.reg none [⟨(some 12), (.mv (.tmp 2)), none, true⟩, ⟨(some 13), (.bin .add (.tmp 12) (.val (.int .i64 1))), none, true⟩, ⟨(some 2), (.mv (.tmp 13)), none, true⟩])))))) (.seq (.reg none [⟨(some 27), (.load 2 true (.tmp 1)), none, true⟩, ⟨(some 28), (.call 5 [(.tmp 27)] 0), none, true⟩, ⟨(some 26), (.mv (.tmp 28)), none, true⟩, ⟨(some 29), (.ext 0 (.tmp 26)), none, true⟩, ⟨(some 30), (.ext 1 (.tmp 26)), none, true⟩, ⟨(some 5), (.alloc [.nilsl, .nilsl]), none, true⟩, ⟨none, (.store 2 (.tmp 5) (.tmp 29)), none, true⟩, ⟨(some 6), (.mv (.tmp 30)), none, true⟩]) (.seq (.reg none [⟨(some 31), (.mv (.tmp 6)), none, true⟩, ⟨(some 32), (.bin .eql (.tmp 31) (.val (.int .i64 0))), none, true⟩, ⟨(some 33), (.mv (.tmp 32)), none, true⟩, ⟨(some 34), (.load 2 true (.tmp 1)), (some (33, true)), true⟩, ⟨(some 35), (.call 7 [(.tmp 34)] 0), (some (33, true)), true⟩, ⟨(some 36), (.bin .eql (.tmp 35) (.val (.int .i64 0))), (some (33, true)), true⟩, ⟨(some 37), (.pick (.tmp 33) (.tmp 36) (.val (.bool false))), none, true⟩, ⟨(some 38), (.mv (.tmp 37)), none, true⟩, ⟨(some 39), (.addr 0 (.tmp 1)), (some (38, true)), true⟩, ⟨(some 40), (.load 1 false (.tmp 39)), (some (38, true)), true⟩, ⟨(some 41), (.len false (.tmp 40)), (some (38, true)), true⟩, ⟨(some 42), (.bin .eql (.tmp 41) (.val (.int .i64 2))), (some (38, true)), true⟩, ⟨(some 43), (.pick (.tmp 38) (.tmp 42) (.val (.bool false))), none, true⟩, ⟨(some 44), (.mv (.tmp 43)), none, true⟩, ⟨(some 45), (.addr 0 (.tmp 5)), (some (44, true)), true⟩, ⟨(some 46), (.load 1 false (.tmp 45)), (some (44, true)), true⟩, ⟨(some 47), (.len false (.tmp 46)), (some (44, true)), true⟩, ⟨(some 48), (.bin .eql (.tmp 47) (.val (.int .i64 2))), (some (44, true)), true⟩, ⟨(some 49), (.pick (.tmp 44) (.tmp 48) (.val (.bool false))), none, true⟩, ⟨(some 50), (.mv (.tmp 49)), none, true⟩, ⟨(some 51), (.addr 0 (.tmp 1)), (some (50, true)), true⟩, ⟨(some 52), (.load 1 false (.tmp 51)), (some (50, true)), true⟩, ⟨(some 53), (.iaddrS 3 (.tmp 52) (.val (.int .i64 0))), (some (50, true)), true⟩, ⟨(some 54), (.addr 1 (.tmp 53)), (some (50, true)), true⟩, ⟨(some 55), (.load 1 false (.tmp 54)), (some (50, true)), true⟩, ⟨(some 56), (.len false (.tmp 55)), (some (50, true)), true⟩, ⟨(some 57), (.bin .eql (.tmp 56) (.val (.int .i64 1))), (some (50, true)), true⟩, ⟨(some 58), (.pick (.tmp 50) (.tmp 57) (.val (.bool false))), none, true⟩, ⟨(some 59), (.mv (.tmp 58)), none, true⟩, ⟨(some 60), (.addr 0 (.tmp 1)), (some (59, true)), true⟩, ⟨(some 61), (.load 1 false (.tmp 60)), (some (59, true)), true⟩, ⟨(some 62), (.iaddrS 3 (.tmp 61) (.val (.int .i64 0))), (some (59, true)), true⟩, ⟨(some 63), (.addr 2 (.tmp 62)), (some (59, true)), true⟩, ⟨(some 64), (.load 1 false (.tmp 63)), (some (59, true)), true⟩, ⟨(some 65), (.len false (.tmp 64)), (some (59, true)), true⟩, ⟨(some 66), (.bin .eql (.tmp 65) (.val (.int .i64 1))), (some (59, true)), true⟩, ⟨(some 67), (.pick (.tmp 59) (.tmp 66) (.val (.bool false))), none, true⟩, ⟨(some 68), (.mv (.tmp 67)), none, true⟩, ⟨(some 69), (.addr 0 (.tmp 5)), (some (68, true)), true⟩, ⟨(some 70), (.load 1 false (.tmp 69)), (some (68, true)), true⟩, ⟨(some 71), (.iaddrS 3 (.tmp 70) (.val (.int .i64 0))), (some (68, true)), true⟩, ⟨(some 72), (.addr 1 (.tmp 71)), (some (68, true)), true⟩, ⟨(some 73), (.load 1 false (.tmp 72)), (some (68, true)), true⟩, ⟨(some 74), (.len false (.tmp 73)), (some (68, true)), true⟩, ⟨(some 75), (.bin .eql (.tmp 74) (.val (.int .i64 3))), (some (68, true)), true⟩, ⟨(some 76), (.pick (.tmp 68) (.tmp 75) (.val (.bool false))), none, true⟩, ⟨(some 77), (.mv (.tmp 76)), none, true⟩, ⟨(some 78), (.addr 0 (.tmp 5)), (some (77, true)), true⟩, ⟨(some 79), (.load 1 false (.tmp 78)), (some (77, true)), true⟩, ⟨(some 80), (.iaddrS 3 (.tmp 79) (.val (.int .i64 1))), (some (77, true)), true⟩, ⟨(some 81), (.addr 1 (.tmp 80)), (some (77, true)), true⟩, ⟨(some 82), (.load 1 false (.tmp 81)), (some (77, true)), true⟩, ⟨(some 83), (.len false (.tmp 82)), (some (77, true)), true⟩, ⟨(some 84), (.bin .eql (.tmp 83) (.val (.int .i64 3))), (some (77, true)), true⟩, ⟨(some 85), (.pick (.tmp 77) (.tmp 84) (.val (.bool false))), none, true⟩, ⟨(some 0), (.mv (.tmp 85)), none, true⟩]) .ret)))))
def R6 : List LRes := [(.tmp 0)]
theorem low6 : Try.f6.body.bind (lowerCode Try.prog 86) = some L6 := by kernel_rfl
theorem res6 : lowerRes Try.prog Try.f6.results.toList = some R6 := by kernel_rfl
set_option maxRecDepth 100000 in
def L7 : LC := (.seq (.reg none [⟨(some 1), (.box (.tmp 0)), none, true⟩, ⟨(some 2), (.mv (.val (.int .i64 0))), none, true⟩]) (.seq (.seq (.reg none [⟨(some 12), (.addr 0 (.tmp 1)), none, true⟩, ⟨(some 13), (.load 1 false (.tmp 12)), none, true⟩, ⟨(some 14), (.len false (.tmp 13)), none, true⟩, ⟨(some 15), (.bin .neq (.tmp 14) (.val (.int .i64 2))), none, true⟩, ⟨(some 16), (.mv (.tmp 15)), none, true⟩, ⟨(some 17), (.addr 1 (.tmp 1)), (some (16, false)), true⟩, ⟨(some 18), (.load 1 false (.tmp 17)), (some (16, false)), true⟩, ⟨(some 19), (.len false (.tmp 18)), (some (16, false)), true⟩, ⟨(some 20), (.bin .neq (.tmp 19) (.val (.int .i64 2))), (some (16, false)), true⟩, ⟨(some 21), (.pick (.tmp 16) (.val (.bool true)) (.tmp 20)), none, true⟩]) (.cond (.tmp 21) (.seq (.reg none [⟨(some 2), (.mv (.val (.int .i64 1))), none, true⟩]) .ret) .skip)) (.seq (.seq (.reg none [⟨(some 22), (.addr 0 (.tmp 1)), none, true⟩, ⟨(some 23), (.load 1 false (.tmp 22)), none, true⟩, ⟨(some 24), (.len false (.tmp 23)), none, true⟩, ⟨(some 25), (.mv (.val (.int .i64 0))), none, true⟩]) (.block 0 (.loop (.seq (.reg none [⟨(some 26), (.bin .lss (.tmp 25) (.tmp 24)), none, true⟩]) (.seq (.cond (.tmp 26) .skip (.exit 0)) (.seq (.block 1 (.seq (.reg none [⟨(some 27), (.mv (.tmp 25)), none, true⟩, ⟨(some 28), (.iaddrS 3 (.tmp 23) (.tmp 25)), none, true⟩, ⟨(some 29), (.load 3 true (.tmp 28)), none, true⟩, ⟨(some 4), (.alloc [(.int .i64 0), .nilsl, .nilsl]), none, true⟩, ⟨(some 3), (.mv (.tmp 27)), none, true⟩, ⟨none, (.store 3 (.tmp 4) (.tmp 29)), none, true⟩]) (.seq (.seq (.reg none [⟨(some 30), (.load 3 true (.tmp 4)), none, true⟩, ⟨(some 31), (.call 17 [(.tmp 30)] 0), none, true⟩, ⟨(some 5), (.mv (.tmp 31)), none, true⟩]) (.seq (.reg none [⟨(some 32), (.mv (.tmp 5)), none, true⟩, ⟨(some 33), (.bin .neq (.tmp 32) (.val (.int .i64 0))), none, true⟩]) (.cond (.tmp 33) (.seq (.reg none [⟨(some 34), (.mv (.tmp 5)), none, true⟩, ⟨(some 2), (.mv (.tmp 34)), none, true⟩]) .ret) .skip))) (.seq (.reg none [⟨(some 35), (.addr 0 (.tmp 4)), none, true⟩, ⟨(some 36), (.load 1 false (.tmp 35)), none, true⟩, ⟨(some 37), (.mv (.tmp 3)), none, true⟩, ⟨(some 38), (.bin .neq (.tmp 36) (.tmp 37)), none, true⟩]) (.cond (.tmp 38) (.seq (.reg none [⟨(some 2), (.mv (.val (.int .i64 4))), none, true⟩]) .ret) .skip))))) (.reg none [⟨(some 39), (.bin .add (.tmp 25) (.val (.int .i64 1))), none, true⟩, ⟨(some 25), (.mv (.tmp 39)), none, true⟩]))))))) (.seq (.seq (.reg none [⟨(some 40), (.addr 1 (.tmp 1)), none, true⟩, ⟨(some 41), (.load 1 false (.tmp 40)), none, true⟩, ⟨(some 42), (.len false (.tmp 41)), none, true⟩, ⟨(some 43), (.mv (.val (.int .i64 0))), none, true⟩]) (.block 2 (.loop (.seq (.reg none [⟨(some 44), (.bin .lss (.tmp 43) (.tmp 42)), none, true⟩]) (.seq (.cond (.tmp 44) .skip (.exit 2)) (.seq (.block 3 (.seq (.reg none [⟨(some 45), (.iaddrS 1 (.tmp 41) (.tmp 43)), none, true⟩, ⟨(some 46), (.load 1 false (.tmp 45)), none, true⟩, ⟨(some 7), (.mv (.tmp 46)), none, true⟩]) (.seq (.reg none [⟨(some 47), (.load 2 true (.tmp 1)), none, true⟩, ⟨(some 48), (.mv (.tmp 7)), none, true⟩, ⟨(some 49), (.call 18 [(.tmp 47), (.tmp 48)] 0), none, true⟩, ⟨(some 8), (.mv (.tmp 49)), none, true⟩]) (.seq (.reg none [⟨(some 50), (.mv (.tmp 8)), none, true⟩, ⟨(some 51), (.bin .neq (.tmp 50) (.val (.int .i64 0))), none, true⟩]) (.cond (.tmp 51) (.seq (.reg none [⟨(some 52), (.mv (.tmp 8)), none, true⟩, ⟨(some 2), (.mv (.tmp 52)), none, true⟩]) .ret) .skip))))) (.reg none [⟨(some 53), (.bin .add (.tmp 43) (.val (.int .i64 1))), none, true⟩, ⟨(some 43), (.mv (.tmp 53)), none, true⟩]))))))) (.seq (.reg none [⟨(some 54), (.clo 19 [(.tmp 1)]), none, true⟩, ⟨(some 9), (.mv (.tmp 54)), none, true⟩]) (.seq (.seq (.reg none [⟨(some 55), (.addr 0 (.tmp 1)), none, true⟩, ⟨(some 56), (.load 1 false (.tmp 55)), none, true⟩, ⟨(some 57), (.len false (.tmp 56)), none, true⟩, ⟨(some 58), (.mv (.val (.int .i64 0))), none, true⟩]) (.block 4 (.loop (.seq (.reg none [⟨(some 59), (.bin .lss (.tmp 58) (.tmp 57)), none, true⟩]) (.seq (.cond (.tmp 59) .skip (.exit 4)) (.seq (.block 5 (.seq (.reg none [⟨(some 60), (.iaddrS 3 (.tmp 56) (.tmp 58)), none, true⟩, ⟨(some 61), (.load 3 true (.tmp 60)), none, true⟩, ⟨(some 11), (.alloc [(.int .i64 0), .nilsl, .nilsl]), none, true⟩, ⟨none, (.store 3 (.tmp 11) (.tmp 61)), none, true⟩]) (.seq (.reg none [⟨(some 62), (.addr 1 (.tmp 11)), none, true⟩, ⟨(some 63), (.load 1 false (.tmp 62)), none, true⟩, ⟨(some 64), (.mv (.tmp 9)), none, true⟩, ⟨(some 65), (.call 21 [(.tmp 63), (.tmp 64)] 0), none, true⟩, ⟨(some 66), (.mv (.tmp 65)), none, true⟩, ⟨(some 67), (.addr 2 (.tmp 11)), (some (66, false)), true⟩, ⟨(some 68), (.load 1 false (.tmp 67)), (some (66, false)), true⟩, ⟨(some 69), (.mv (.tmp 9)), (some (66, false)), true⟩, ⟨(some 70), (.call 21 [(.tmp 68), (.tmp 69)] 0), (some (66, false)), true⟩, ⟨(some 71), (.pick (.tmp 66) (.val (.bool true)) (.tmp 70)), none, true⟩]) (.cond (.tmp 71) (.seq (.reg none [⟨(some 2), (.mv (.val (.int .i64 4))), none, true⟩]) .ret) .skip)))) (.reg none [⟨(some 72), (.bin .add (.tmp 58) (.val (.int .i64 1))), none, true⟩, ⟨(some 58), (.mv (.tmp 72)), none, true⟩]))))))) (.seq (.reg none [⟨(some 2), (.mv (.val (.int .i64 0))), none, true⟩]) .ret)))))))
def R7 : List LRes := [(.tmp 2)]
theorem low7 : Try.f7.body.bind (lowerCode Try.prog 73) = some L7 := by kernel_rfl
theorem res7 : lowerRes Try.prog Try.f7.results.toList = some R7 := by kernel_rfl
set_option maxRecDepth 100000 in
def L9 : LC := (.seq (.reg none [⟨(some 2), (.box (.tmp 0)), none, true⟩, ⟨(some 3), (.box (.tmp 1)), none, true⟩, ⟨(some 4), (.mv (.val (.bool false))), none, true⟩]) (.seq (.reg none [⟨(some 5), (.addr 0 (.tmp 2)), none, true⟩, ⟨(some 6), (.load 2 true (.tmp 5)), none, true⟩, ⟨(some 7), (.addr 0 (.tmp 3)), none, true⟩, ⟨(some 8), (.load 2 true (.tmp 7)), none, true⟩, ⟨(some 9), (.eqag false [.i, .i] (.tmp 6) (.tmp 8)), none, true⟩, ⟨(some 10), (.mv (.tmp 9)), none, true⟩, ⟨(some 11), (.addr 2 (.tmp 2)), (some (10, true)), true⟩, ⟨(some 12), (.load 1 false (.tmp 11)), (some (10, true)), true⟩, ⟨(some 13), (.addr 2 (.tmp 3)), (some (10, true)), true⟩, ⟨(some 14), (.load 1 false (.tmp 13)), (some (10, true)), true⟩, ⟨(some 15), (.bin .eql (.tmp 12) (.tmp 14)), (some (10, true)), true⟩, ⟨(some 16), (.pick (.tmp 10) (.tmp 15) (.val (.bool false))), none, true⟩, ⟨(some 17), (.mv (.tmp 16)), none, true⟩, ⟨(some 18), (.addr 3 (.tmp 2)), (some (17, true)), true⟩, ⟨(some 19), (.load 1 false (.tmp 18)), (some (17, true)), true⟩, ⟨(some 20), (.addr 3 (.tmp 3)), (some (17, true)), true⟩, ⟨(some 21), (.load 1 false (.tmp 20)), (some (17, true)), true⟩, ⟨(some 22), (.bin .eql (.tmp 19) (.tmp 21)), (some (17, true)), true⟩, ⟨(some 23), (.pick (.tmp 17) (.tmp 22) (.val (.bool false))), none, true⟩, ⟨(some 24), (.mv (.tmp 23)), none, true⟩, ⟨(some 25), (.addr 4 (.tmp 2)), (some (24, true)), true⟩, ⟨(some 26), (.load 1 false (.tmp 25)), (some (24, true)), true⟩, ⟨(some 27), (.addr 4 (.tmp 3)), (some (24, true)), true⟩, ⟨(some 28), (.load 1 false (.tmp 27)), (some (24, true)), true⟩, ⟨(some 29), (.call 22 [(.tmp 26), (.tmp 28)] 0), (some (24, true)), true⟩, ⟨(some 30), (.pick (.tmp 24) (.tmp 29) (.val (.bool false))), none, true⟩, ⟨(some 4), (.mv (.tmp 30)), none, true⟩]) .ret))
def R9 : List LRes := [(.tmp 4)]
theorem low9 : Try.f9.body.bind (lowerCode Try.prog 31) = some L9 := by kernel_rfl
theorem res9 : lowerRes Try.prog Try.f9.results.toList = some R9 := by kernel_rfl
set_option maxRecDepth 100000 in
def L11 : LC := (.seq (.reg none [⟨(some 2), (.box (.tmp 0)), none, true⟩, ⟨(some 3), (.box (.tmp 1)), none, true⟩, ⟨(some 4), (.alloc [.nilsl, .nilsl]), none, true⟩, ⟨(some 5), (.mv (.val (.int .i64 0))), none, true⟩]) (.seq (.seq (.reg none [⟨(some 7), (.load 2 true (.tmp 2)), none, true⟩, ⟨(some 8), (.call 7 [(.tmp 7)] 0), none, true⟩, ⟨(some 6), (.mv (.tmp 8)), none, true⟩]) (.seq (.reg none [⟨(some 9), (.mv (.tmp 6)), none, true⟩, ⟨(some 10), (.bin .neq (.tmp 9) (.val (.int .i64 0))), none, true⟩]) (.cond (.tmp 10) (.seq (.reg none [⟨(some 11), (.build [.nilsl, .nilsl] []), none, true⟩, ⟨(some 12), (.mv (.tmp 6)), none, true⟩, ⟨none, (.store 2 (.tmp 4) (.tmp 11)), none, true⟩, ⟨(some 5), (.mv (.tmp 12)), none, true⟩]) .ret) .skip))) (.seq (.reg none [⟨(some 13), (.load 2 true (.tmp 2)), none, true⟩, ⟨(some 14), (.load 5 true (.tmp 3)), none, true⟩, ⟨(some 15), (.call 24 [(.tmp 13), (.tmp 14)] 0), none, true⟩, ⟨(some 16), (.ext 0 (.tmp 15)), none, true⟩, ⟨(some 17), (.ext 1 (.tmp 15)), none, true⟩, ⟨none, (.store 2 (.tmp 4) (.tmp 16)), none, true⟩, ⟨(some 5), (.mv (.tmp 17)), none, true⟩]) .ret)))
def R11 : List LRes := [(.cell 4 2 true), (.tmp 5)]
theorem low11 : Try.f11.body.bind (lowerCode Try.prog 18) = some L11 := by kernel_rfl
theorem res11 : lowerRes Try.prog Try.f11.results.toList = some R11 := by kernel_rfl
set_option maxRecDepth 100000 in
def L12 : LC := (.seq (.reg none [⟨(some 4), (.mv (.val (.bool false))), none, true⟩]) (.seq (.seq (.reg none [⟨(some 6), (.mv (.tmp 0)), none, true⟩, ⟨(some 7), (.len false (.tmp 6)), none, true⟩, ⟨(some 8), (.mv (.tmp 1)), none, true⟩, ⟨(some 9), (.len false (.tmp 8)), none, true⟩, ⟨(some 10), (.bin .neq (.tmp 7) (.tmp 9)), none, true⟩]) (.cond (.tmp 10) (.seq (.reg none [⟨(some 4), (.mv (.val (.bool false))), none, true⟩]) .ret) .skip)) (.seq (.seq (.reg none [⟨(some 5), (.mv (.val (.int .i64 0))), none, true⟩]) (.block 0 (.loop (.seq (.seq (.reg none [⟨(some 11), (.mv (.tmp 5)), none, true⟩, ⟨(some 12), (.mv (.tmp 0)), none, true⟩, ⟨(some 13), (.len false (.tmp 12)), none, true⟩, ⟨(some 14), (.bin .lss (.tmp 11) (.tmp 13)), none, true⟩]) (.cond (.tmp 14) .skip (.exit 0))) (.seq (.block 1 (.seq (.reg (some []) [⟨(some 17), (.mv (.tmp 0)), none, true⟩, ⟨(some 18), (.mv (.tmp 5)), none, true⟩, ⟨(some 19), (.iaddrS 5 (.tmp 17) (.tmp 18)), none, false⟩, ⟨(some 20), (.load 5 true (.tmp 19)), none, false⟩, ⟨(some 21), (.mv (.tmp 1)), none, true⟩, ⟨(some 22), (.mv (.tmp 5)), none, true⟩, ⟨(some 23), (.iaddrS 5 (.tmp 21) (.tmp 22)), none, false⟩, ⟨(some 24), (.load 5 true (.tmp 23)), none, false⟩, ⟨(some 25), (.call 9 [(.tmp 20), (.tmp 24)] 0), none, true⟩, ⟨(some 26), (.not (.tmp 25)), none, true⟩]) (.cond (.tmp 26) (.seq (.reg none [⟨(some 4), (.mv (.val (.bool false))), none, true⟩]) .ret) .skip))) (.reg none [⟨(some 15), (.mv (.tmp 5)), none, true⟩, ⟨(some 16), (.bin .add (.tmp 15) (.val (.int .i64 1))), none, true⟩, ⟨(some 5), (.mv (.tmp 16)), none, true⟩])))))) (.seq (.reg none [⟨(some 4), (.mv (.val (.bool true))), none, true⟩]) .ret))))
def R12 : List LRes := [(.tmp 4)]
theorem low12 : Try.f12.body.bind (lowerCode Try.prog 27) = some L12 := by kernel_rfl
theorem res12 : lowerRes Try.prog Try.f12.results.toList = some R12 := by kernel_rfl
set_option maxRecDepth 100000 in
def L13 : LC := (.seq (.reg none [⟨(some 1), (.box (.tmp 0)), none, true⟩, ⟨(some 2), (.mv (.val .nilp)), none, true⟩]) (.seq (.reg none [⟨(some 11), (.build [.nilsl, .nilsl] []), none, true⟩, ⟨(some 12), (.box (.tmp 11)), none, true⟩, ⟨(some 3), (.mv (.tmp 12)), none, true⟩]) (.seq (.seq (.reg none [⟨(some 13), (.addr 0 (.tmp 1)), none, true⟩, ⟨(some 14), (.load 1 false (.tmp 13)), none, true⟩, ⟨(some 15), (.len false (.tmp 14)), none, true⟩, ⟨(some 16), (.mv (.val (.int .i64 0))), none, true⟩]) (.block 0 (.loop (.seq (.reg none [⟨(some 17), (.bin .lss (.tmp 16) (.tmp 15)), none, true⟩]) (.seq (.cond (.tmp 17) .skip (.exit 0)) (.seq (.block 1 (.seq (.reg none [⟨(some 18), (.iaddrS 3 (.tmp 14) (.tmp 16)), none, true⟩, ⟨(some 19), (.load 3 true (.tmp 18)), none, true⟩, ⟨(some 5), (.alloc [(.int .i64 0), .nilsl, .nilsl]), none, true⟩, ⟨none, (.store 3 (.tmp 5) (.tmp 19)), none, true⟩]) (.reg (some []) [⟨(some 20), (.mv (.tmp 3)), none, true⟩, ⟨(some 21), (.mv (.tmp 3)), none, true⟩, ⟨(some 22), (.nilchk (.tmp 21)), none, false⟩, ⟨(some 23), (.addr 0 (.tmp 22)), none, false⟩, ⟨(some 24), (.addr 0 (.tmp 23)), none, false⟩, ⟨(some 25), (.load 1 false (.tmp 24)), none, false⟩, ⟨(some 26), (.load 3 true (.tmp 5)), none, false⟩, ⟨(some 27), (.call 25 [(.tmp 26)] 0), none, false⟩, ⟨(some 28), (.mks 3 [(.int .i64 0), .nilsl, .nilsl] 1 [(0, (.tmp 27))]), none, true⟩, ⟨(some 29), (.append 33 3 56 (.tmp 25) (.tmp 28)), none, true⟩, ⟨(some 30), (.nilchk (.tmp 20)), none, true⟩, ⟨(some 31), (.addr 0 (.tmp 30)), none, true⟩, ⟨(some 32), (.addr 0 (.tmp 31)), none, true⟩, ⟨none, (.store 1 (.tmp 32) (.tmp 29)), none, true⟩]))) (.reg none [⟨(some 33), (.bin .add (.tmp 16) (.val (.int .i64 1))), none, true⟩, ⟨(some 16), (.mv (.tmp 33)), none, true⟩]))))))) (.seq (.seq (.reg none [⟨(some 34), (.addr 1 (.tmp 1)), none, true⟩, ⟨(some 35), (.load 1 false (.tmp 34)), none, true⟩, ⟨(some 36), (.len false (.tmp 35)), none, true⟩, ⟨(some 37), (.mv (.val (.int .i64 0))), none, true⟩]) (.block 2 (.loop (.seq (.reg none [⟨(some 38), (.bin .lss (.tmp 37) (.tmp 36)), none, true⟩]) (.seq (.cond (.tmp 38) .skip (.exit 2)) (.seq (.block 3 (.seq (.reg none [⟨(some 39), (.iaddrS 1 (.tmp 35) (.tmp 37)), none, true⟩, ⟨(some 40), (.load 1 false (.tmp 39)), none, true⟩, ⟨(some 7), (.mv (.tmp 40)), none, true⟩]) (.seq (.reg none [⟨(some 8), (.mv (.val .nilsl)), none, true⟩]) (.seq (.seq (.reg none [⟨(some 41), (.mv (.tmp 7)), none, true⟩, ⟨(some 42), (.len false (.tmp 41)), none, true⟩, ⟨(some 43), (.mv (.val (.int .i64 0))), none, true⟩]) (.block 4 (.loop (.seq (.reg none [⟨(some 44), (.bin .lss (.tmp 43) (.tmp 42)), none, true⟩]) (.seq (.cond (.tmp 44) .skip (.exit 4)) (.seq (.block 5 (.seq (.reg none [⟨(some 45), (.iaddrS 5 (.tmp 41) (.tmp 43)), none, true⟩, ⟨(some 46), (.load 5 true (.tmp 45)), none, true⟩, ⟨(some 10), (.alloc [(.int .i64 0), (.int .i64 0), (.int .i64 0), (.str ⟨#[]⟩), .nilsl]), none, true⟩, ⟨none, (.store 5 (.tmp 10) (.tmp 46)), none, true⟩]) (.reg none [⟨(some 47), (.mv (.tmp 8)), none, true⟩, ⟨(some 48), (.load 5 true (.tmp 10)), none, true⟩, ⟨(some 49), (.call 26 [(.tmp 48)] 0), none, true⟩, ⟨(some 50), (.mks 5 [(.int .i64 0), (.int .i64 0), (.int .i64 0), (.str ⟨#[]⟩), .nilsl] 1 [(0, (.tmp 49))]), none, true⟩, ⟨(some 51), (.append 38 5 64 (.tmp 47) (.tmp 50)), none, true⟩, ⟨(some 8), (.mv (.tmp 51)), none, true⟩]))) (.reg none [⟨(some 52), (.bin .add (.tmp 43) (.val (.int .i64 1))), none, true⟩, ⟨(some 43), (.mv (.tmp 52)), none, true⟩]))))))) (.reg none [⟨(some 53), (.mv (.tmp 3)), none, true⟩, ⟨(some 54), (.mv (.tmp 3)), none, true⟩, ⟨(some 55), (.nilchk (.tmp 54)), none, true⟩, ⟨(some 56), (.addr 0 (.tmp 55)), none, true⟩, ⟨(some 57), (.addr 1 (.tmp 56)), none, true⟩, ⟨(some 58), (.load 1 false (.tmp 57)), none, true⟩, ⟨(some 59), (.mv (.tmp 8)), none, true⟩, ⟨(some 60), (.mks 1 [.nilsl] 1 [(0, (.tmp 59))]), none, true⟩, ⟨(some 61), (.append 31 1 24 (.tmp 58) (.tmp 60)), none, true⟩, ⟨(some 62), (.nilchk (.tmp 53)), none, true⟩, ⟨(some 63), (.addr 0 (.tmp 62)), none, true⟩, ⟨(some 64), (.addr 1 (.tmp 63)), none, true⟩, ⟨none, (.store 1 (.tmp 64) (.tmp 61)), none, true⟩]))))) (.reg none [⟨(some 65), (.bin .add (.tmp 37) (.val (.int .i64 1))), none, true⟩, ⟨(some 37), (.mv (.tmp 65)), none, true⟩]))))))) (.seq (.reg none [⟨(some 66), (.mv (.tmp 3)), none, true⟩, ⟨(some 2), (.mv (.tmp 66)), none, true⟩]) .ret)))))
def R13 : List LRes := [(.tmp 2)]
theorem low13 : Try.f13.body.bind (lowerCode Try.prog 67) = some L13 := by kernel_rfl
theorem res13 : lowerRes Try.prog Try.f13.results.toList = some R13 := by kernel_rfl
set_option maxRecDepth 100000 in
def L14 : LC := (.seq (.reg none [⟨(some 4), (.mv (.val (.int .i64 0))), none, true⟩]) (.seq (.seq (.reg none [⟨(some 8), (.mv (.tmp 0)), none, true⟩, ⟨(some 9), (.nilchk (.tmp 8)), none, true⟩, ⟨(some 10), (.addr 0 (.tmp 9)), none, true⟩, ⟨(some 11), (.addr 0 (.tmp 10)), none, true⟩, ⟨(some 12), (.load 1 false (.tmp 11)), none, true⟩, ⟨(some 13), (.mv (.tmp 1)), none, true⟩, ⟨(some 14), (.bin .sub (.val (.int .i64 1)) (.tmp 13)), none, true⟩, ⟨(some 15), (.iaddrS 3 (.tmp 12) (.tmp 14)), none, true⟩, ⟨(some 16), (.addr 1 (.tmp 15)), none, true⟩, ⟨(some 17), (.load 1 false (.tmp 16)), none, true⟩, ⟨(some 18), (.len false (.tmp 17)), none, true⟩, ⟨(some 19), (.mv (.val (.int .i64 0))), none, true⟩]) (.block 0 (.loop (.seq (.reg none [⟨(some 20), (.bin .lss (.tmp 19) (.tmp 18)), none, true⟩]) (.seq (.cond (.tmp 20) .skip (.exit 0)) (.seq (.block 1 (.seq (.reg none [⟨(some 21), (.iaddrS 5 (.tmp 17) (.tmp 19)), none, true⟩, ⟨(some 22), (.load 5 true (.tmp 21)), none, true⟩, ⟨(some 6), (.alloc [(.int .i64 0), (.int .i64 0), (.int .i64 0), (.str ⟨#[]⟩), .nilsl]), none, true⟩, ⟨none, (.store 5 (.tmp 6) (.tmp 22)), none, true⟩]) (.seq (.seq (.reg none [⟨(some 23), (.addr 0 (.tmp 6)), none, true⟩, ⟨(some 24), (.addr 0 (.tmp 23)), none, true⟩, ⟨(some 25), (.load 1 false (.tmp 24)), none, true⟩, ⟨(some 26), (.mv (.tmp 1)), none, true⟩, ⟨(some 27), (.bin .eql (.tmp 25) (.tmp 26)), none, true⟩]) (.cond (.tmp 27) (.exit 1) .skip)) (.seq (.reg none [⟨(some 28), (.mv (.tmp 0)), none, true⟩, ⟨(some 29), (.mv (.tmp 1)), none, true⟩, ⟨(some 30), (.load 5 true (.tmp 6)), none, true⟩, ⟨(some 31), (.call 27 [(.tmp 28), (.tmp 29), (.tmp 30)] 0), none, true⟩, ⟨(some 7), (.mv (.tmp 31)), none, true⟩]) (.seq (.reg none [⟨(some 32), (.mv (.tmp 7)), none, true⟩, ⟨(some 33), (.bin .neq (.tmp 32) (.val (.int .i64 0))), none, true⟩]) (.cond (.tmp 33) (.seq (.reg none [⟨(some 34), (.mv (.tmp 7)), none, true⟩, ⟨(some 4), (.mv (.tmp 34)), none, true⟩]) .ret) .skip)))))) (.reg none [⟨(some 35), (.bin .add (.tmp 19) (.val (.int .i64 1))), none, true⟩, ⟨(some 19), (.mv (.tmp 35)), none, true⟩]))))))) (.seq (.reg none [⟨(some 4), (.mv (.val (.int .i64 0))), none, true⟩]) .ret)))
def R14 : List LRes := [(.tmp 4)]
theorem low14 : Try.f14.body.bind (lowerCode Try.prog 36) = some L14 := by kernel_rfl
theorem res14 : lowerRes Try.prog Try.f14.results.toList = some R14 := by kernel_rfl
set_option maxRecDepth 100000 in
def L15 : LC := (.seq (.reg none [⟨(some 0), (.alloc [.nilsl, .nilsl]), none, true⟩]) (.seq (.reg none [⟨(some 1), (.build [(.int .i64 0), .nilsl, .nilsl] []), none, true⟩, ⟨(some 2), (.build [(.int .i64 0), .nilsl, .nilsl] [(0, (1, (.val (.int .i64 1))))]), none, true⟩, ⟨(some 3), (.mks 3 [(.int .i64 0), .nilsl, .nilsl] 2 [(0, (.tmp 1)), (1, (.tmp 2))]), none, true⟩, ⟨(some 4), (.mkn 31 1 24 [.nilsl] (.val (.int .i64 2)) (.val (.int .i64 2))), none, true⟩, ⟨(some 5), (.build [.nilsl, .nilsl] [(0, (1, (.tmp 3))), (1, (1, (.tmp 4)))]), none, true⟩, ⟨none, (.store 2 (.tmp 0) (.tmp 5)), none, true⟩]) .ret))
def R15 : List LRes := [(.cell 0 2 true)]
theorem low15 : Try.f15.body.bind (lowerCode Try.prog 6) = some L15 := by kernel_rfl
theorem res15 : lowerRes Try.prog Try.f15.results.toList = some R15 := by kernel_rfl
set_option maxRecDepth 100000 in
def L16 : LC := (.seq (.reg none [⟨(some 0), (.mv (.val .nilsl)), none, true⟩]) (.seq (.reg none [⟨(some 1), (.build [(.int .i64 0), (.int .i64 0), (.int .i64 0), (.int .i64 0), (.str ⟨#[]⟩)] [(0, (1, (.val (.int .i64 1)))), (3, (1, (.val (.int .i64 1)))), (4, (1, (.val (.str ⟨#[112, 117, 116, 32, 97, 32, 120]⟩))))]), none, true⟩, ⟨(some 2), (.build [(.int .i64 0), (.int .i64 0), (.int .i64 0), (.int .i64 0), (.str ⟨#[]⟩)] [(0, (1, (.val (.int .i64 1)))), (1, (1, (.val (.int .i64 1)))), (3, (1, (.val (.int .i64 1)))), (4, (1, (.val (.str ⟨#[112, 117, 116, 32, 97, 32, 121]⟩))))]), none, true⟩, ⟨(some 3), (.build [(.int .i64 0), (.int .i64 0), (.int .i64 0), (.int .i64 0), (.str ⟨#[]⟩)] [(0, (1, (.val (.int .i64 2)))), (1, (1, (.val (.int .i64 1))))]), none, true⟩, ⟨(some 4), (.build [(.int .i64 0), (.int .i64 0), (.int .i64 0), (.int .i64 0), (.str ⟨#[]⟩)] [(0, (1, (.val (.int .i64 3))))]), none, true⟩, ⟨(some 5), (.build [(.int .i64 0), (.int .i64 0), (.int .i64 0), (.int .i64 0), (.str ⟨#[]⟩)] [(0, (1, (.val (.int .i64 1)))), (1, (1, (.val (.int .i64 1)))), (3, (1, (.val (.int .i64 1)))), (4, (1, (.val (.str ⟨#[112, 117, 116, 32, 98, 32, 122]⟩))))]), none, true⟩, ⟨(some 6), (.build [(.int .i64 0), (.int .i64 0), (.int .i64 0), (.int .i64 0), (.str ⟨#[]⟩)] [(0, (1, (.val (.int .i64 2))))]), none, true⟩, ⟨(some 7), (.mks 5 [(.int .i64 0), (.int .i64 0), (.int .i64 0), (.int .i64 0), (.str ⟨#[]⟩)] 6 [(0, (.tmp 1)), (1, (.tmp 2)), (2, (.tmp 3)), (3, (.tmp 4)), (4, (.tmp 5)), (5, (.tmp 6))]), none, true⟩, ⟨(some 0), (.mv (.tmp 7)), none, true⟩]) .ret))
def R16 : List LRes := [(.tmp 0)]
theorem low16 : Try.f16.body.bind (lowerCode Try.prog 8) = some L16 := by kernel_rfl
theorem res16 : lowerRes Try.prog Try.f16.results.toList = some R16 := by kernel_rfl
set_option maxRecDepth 100000 in
def L17 : LC := (.seq (.reg none [⟨(some 1), (.box (.tmp 0)), none, true⟩, ⟨(some 2), (.mv (.val (.int .i64 0))), none, true⟩]) (.seq (.seq (.reg none [⟨(some 7), (.addr 0 (.tmp 1)), none, true⟩, ⟨(some 8), (.load 1 false (.tmp 7)), none, true⟩, ⟨(some 9), (.bin .neq (.tmp 8) (.val (.int .i64 0))), none, true⟩, ⟨(some 10), (.mv (.tmp 9)), none, true⟩, ⟨(some 11), (.addr 0 (.tmp 1)), (some (10, true)), true⟩, ⟨(some 12), (.load 1 false (.tmp 11)), (some (10, true)), true⟩, ⟨(some 13), (.bin .neq (.tmp 12) (.val (.int .i64 1))), (some (10, true)), true⟩, ⟨(some 14), (.pick (.tmp 10) (.tmp 13) (.val (.bool false))), none, true⟩]) (.cond (.tmp 14) (.seq (.reg none [⟨(some 2), (.mv (.val (.int .i64 3))), none, true⟩]) .ret) .skip)) (.seq (.seq (.reg none [⟨(some 15), (.addr 1 (.tmp 1)), none, true⟩, ⟨(some 16), (.load 1 false (.tmp 15)), none, true⟩, ⟨(some 17), (.call 28 [(.tmp 16)] 0), none, true⟩, ⟨(some 3), (.mv (.tmp 17)), none, true⟩]) (.seq (.reg none [⟨(some 18), (.mv (.tmp 3)), none, true⟩, ⟨(some 19), (.bin .neq (.tmp 18) (.val (.int .i64 0))), none, true⟩]) (.cond (.tmp 19) (.seq (.reg none [⟨(some 20), (.mv (.tmp 3)), none, true⟩, ⟨(some 2), (.mv (.tmp 20)), none, true⟩]) .ret) .skip))) (.seq (.seq (.reg none [⟨(some 21), (.addr 2 (.tmp 1)), none, true⟩, ⟨(some 22), (.load 1 false (.tmp 21)), none, true⟩, ⟨(some 23), (.len false (.tmp 22)), none, true⟩, ⟨(some 24), (.bin .gtr (.tmp 23) (.val (.int .i64 20))), none, true⟩]) (.cond (.tmp 24) (.seq (.reg none [⟨(some 2), (.mv (.val (.int .i64 2))), none, true⟩]) .ret) .skip)) (.seq (.seq (.reg none [⟨(some 25), (.addr 2 (.tmp 1)), none, true⟩, ⟨(some 26), (.load 1 false (.tmp 25)), none, true⟩, ⟨(some 27), (.len false (.tmp 26)), none, true⟩, ⟨(some 28), (.mv (.val (.int .i64 0))), none, true⟩]) (.block 0 (.loop (.seq (.reg none [⟨(some 29), (.bin .lss (.tmp 28) (.tmp 27)), none, true⟩]) (.seq (.cond (.tmp 29) .skip (.exit 0)) (.seq (.block 1 (.seq (.reg none [⟨(some 30), (.mv (.tmp 28)), none, true⟩, ⟨(some 31), (.iaddrS 5 (.tmp 26) (.tmp 28)), none, true⟩, ⟨(some 32), (.load 5 true (.tmp 31)), none, true⟩, ⟨(some 5), (.alloc [(.int .i64 0), (.int .i64 0), (.int .i64 0), (.str ⟨#[]⟩), .nilsl]), none, true⟩, ⟨(some 4), (.mv (.tmp 30)), none, true⟩, ⟨none, (.store 5 (.tmp 5) (.tmp 32)), none, true⟩]) (.seq (.seq (.reg none [⟨(some 33), (.load 5 true (.tmp 5)), none, true⟩, ⟨(some 34), (.call 29 [(.tmp 33)] 0), none, true⟩, ⟨(some 6), (.mv (.tmp 34)), none, true⟩]) (.seq (.reg none [⟨(some 35), (.mv (.tmp 6)), none, true⟩, ⟨(some 36), (.bin .neq (.tmp 35) (.val (.int .i64 0))), none, true⟩]) (.cond (.tmp 36) (.seq (.reg none [⟨(some 37), (.mv (.tmp 6)), none, true⟩, ⟨(some 2), (.mv (.tmp 37)), none, true⟩]) .ret) .skip))) (.seq (.reg (some []) [⟨(some 38), (.mv (.tmp 4)), none, true⟩, ⟨(some 39), (.bin .gtr (.tmp 38) (.val (.int .i64 0))), none, true⟩, ⟨(some 40), (.mv (.tmp 39)), none, true⟩, ⟨(some 41), (.addr 2 (.tmp 1)), (some (40, true)), false⟩, ⟨(some 42), (.load 1 false (.tmp 41)), (some (40, true)), false⟩, ⟨(some 43), (.mv (.tmp 4)), (some (40, true)), true⟩, ⟨(some 44), (.bin .sub (.tmp 43) (.val (.int .i64 1))), (some (40, true)), true⟩, ⟨(some 45), (.iaddrS 5 (.tmp 42) (.tmp 44)), (some (40, true)), false⟩, ⟨(some 46), (.addr 0 (.tmp 45)), (some (40, true)), false⟩, ⟨(some 47), (.load 2 true (.tmp 46)), (some (40, true)), false⟩, ⟨(some 48), (.addr 0 (.tmp 5)), (some (40, true)), false⟩, ⟨(some 49), (.load 2 true (.tmp 48)), (some (40, true)), false⟩, ⟨(some 50), (.call 30 [(.tmp 47), (.tmp 49)] 0), (some (40, true)), true⟩, ⟨(some 51), (.not (.tmp 50)), (some (40, true)), true⟩, ⟨(some 52), (.pick (.tmp 40) (.tmp 51) (.val (.bool false))), none, true⟩, ⟨(some 53), (.mv (.tmp 52)), none, true⟩, ⟨(some 54), (.addr 0 (.tmp 5)), (some (53, false)), false⟩, ⟨(some 55), (.addr 0 (.tmp 54)), (some (53, false)), false⟩, ⟨(some 56), (.load 1 false (.tmp 55)), (some (53, false)), false⟩, ⟨(some 57), (.addr 0 (.tmp 1)), (some (53, false)), false⟩, ⟨(some 58), (.load 1 false (.tmp 57)), (some (53, false)), false⟩, ⟨(some 59), (.bin .eql (.tmp 56) (.tmp 58)), (some (53, false)), true⟩, ⟨(some 60), (.pick (.tmp 53) (.val (.bool true)) (.tmp 59)), none, true⟩, ⟨(some 61), (.mv (.tmp 60)), none, true⟩, ⟨(some 62), (.addr 1 (.tmp 1)), (some (61, false)), false⟩, ⟨(some 63), (.load 1 false (.tmp 62)), (some (61, false)), false⟩, ⟨(some 64), (.addr 0 (.tmp 5)), (some (61, false)), false⟩, ⟨(some 65), (.load 2 true (.tmp 64)), (some (61, false)), false⟩, ⟨(some 66), (.call 31 [(.tmp 63), (.tmp 65)] 0), (some (61, false)), true⟩, ⟨(some 67), (.bin .geq (.tmp 66) (.val (.int .i64 0))), (some (61, false)), true⟩, ⟨(some 68), (.pick (.tmp 61) (.val (.bool true)) (.tmp 67)), none, true⟩, ⟨(some 69), (.mv (.tmp 68)), none, true⟩, ⟨(some 70), (.addr 1 (.tmp 1)), (some (69, false)), false⟩, ⟨(some 71), (.load 1 false (.tmp 70)), (some (69, false)), false⟩, ⟨(some 72), (.load 5 true (.tmp 5)), (some (69, false)), false⟩, ⟨(some 73), (.call 32 [(.tmp 71), (.tmp 72)] 0), (some (69, false)), true⟩, ⟨(some 74), (.pick (.tmp 69) (.val (.bool true)) (.tmp 73)), none, true⟩]) (.cond (.tmp 74) (.seq (.reg none [⟨(some 2), (.mv (.val (.int .i64 4))), none, true⟩]) .ret) .skip))))) (.reg none [⟨(some 75), (.bin .add (.tmp 28) (.val (.int .i64 1))), none, true⟩, ⟨(some 28), (.mv (.tmp 75)), none, true⟩]))))))) (.seq (.reg none [⟨(some 2), (.mv (.val (.int .i64 0))), none, true⟩]) .ret))))))
def R17 : List LRes := [(.tmp 2)]
theorem low17 : Try.f17.body.bind (lowerCode Try.prog 76) = some L17 := by kernel_rfl
theorem res17 : lowerRes Try.prog Try.f17.results.toList = some R17 := by kernel_rfl
set_option maxRecDepth 100000 in
def L18 : LC := (.seq (.reg none [⟨(some 2), (.box (.tmp 0)), none, true⟩, ⟨(some 4), (.mv (.val (.int .i64 0))), none, true⟩]) (.seq (.seq (.reg none [⟨(some 8), (.mv (.tmp 1)), none, true⟩, ⟨(some 9), (.len false (.tmp 8)), none, true⟩, ⟨(some 10), (.bin .gtr (.tmp 9) (.val (.int .i64 30))), none, true⟩]) (.cond (.tmp 10) (.seq (.reg none [⟨(some 4), (.mv (.val (.int .i64 2))), none, true⟩]) .ret) .skip)) (.seq (.seq (.reg none [⟨(some 11), (.mv (.tmp 1)), none, true⟩, ⟨(some 12), (.len false (.tmp 11)), none, true⟩, ⟨(some 13), (.mv (.val (.int .i64 0))), none, true⟩]) (.block 0 (.loop (.seq (.reg none [⟨(some 14), (.bin .lss (.tmp 13) (.tmp 12)), none, true⟩]) (.seq (.cond (.tmp 14) .skip (.exit 0)) (.seq (.block 1 (.seq (.reg none [⟨(some 15), (.iaddrS 5 (.tmp 11) (.tmp 13)), none, true⟩, ⟨(some 16), (.load 5 true (.tmp 15)), none, true⟩, ⟨(some 6), (.alloc [(.int .i64 0), (.int .i64 0), (.int .i64 0), (.str ⟨#[]⟩), .nilsl]), none, true⟩, ⟨none, (.store 5 (.tmp 6) (.tmp 16)), none, true⟩]) (.seq (.seq (.reg none [⟨(some 17), (.load 5 true (.tmp 6)), none, true⟩, ⟨(some 18), (.call 29 [(.tmp 17)] 0), none, true⟩, ⟨(some 7), (.mv (.tmp 18)), none, true⟩]) (.seq (.reg none [⟨(some 19), (.mv (.tmp 7)), none, true⟩, ⟨(some 20), (.bin .neq (.tmp 19) (.val (.int .i64 0))), none, true⟩]) (.cond (.tmp 20) (.seq (.reg none [⟨(some 21), (.mv (.tmp 7)), none, true⟩, ⟨(some 4), (.mv (.tmp 21)), none, true⟩]) .ret) .skip))) (.seq (.reg none [⟨(some 22), (.load 2 true (.tmp 2)), none, true⟩, ⟨(some 23), (.load 5 true (.tmp 6)), none, true⟩, ⟨(some 24), (.call 20 [(.tmp 22), (.tmp 23)] 0), none, true⟩, ⟨(some 25), (.not (.tmp 24)), none, true⟩]) (.cond (.tmp 25) (.seq (.reg none [⟨(some 4), (.mv (.val (.int .i64 4))), none, true⟩]) .ret) .skip))))) (.reg none [⟨(some 26), (.bin .add (.tmp 13) (.val (.int .i64 1))), none, true⟩, ⟨(some 13), (.mv (.tmp 26)), none, true⟩]))))))) (.seq (.reg none [⟨(some 4), (.mv (.val (.int .i64 0))), none, true⟩]) .ret))))
def R18 : List LRes := [(.tmp 4)]
theorem low18 : Try.f18.body.bind (lowerCode Try.prog 27) = some L18 := by kernel_rfl
theorem res18 : lowerRes Try.prog Try.f18.results.toList = some R18 := by kernel_rfl
set_option maxRecDepth 100000 in
def L19 : LC := (.seq (.reg none [⟨(some 2), (.box (.tmp 0)), none, true⟩, ⟨(some 3), (.mv (.val (.bool false))), none, true⟩]) (.seq (.reg none [⟨(some 4), (.load 2 true (.tmp 1)), none, true⟩, ⟨(some 5), (.load 5 true (.tmp 2)), none, true⟩, ⟨(some 6), (.call 20 [(.tmp 4), (.tmp 5)] 0), none, true⟩, ⟨(some 7), (.not (.tmp 6)), none, true⟩, ⟨(some 3), (.mv (.tmp 7)), none, true⟩]) .ret))
def R19 : List LRes := [(.tmp 3)]
theorem low19 : Try.f19.body.bind (lowerCode Try.prog 8) = some L19 := by kernel_rfl
theorem res19 : lowerRes Try.prog Try.f19.results.toList = some R19 := by kernel_rfl
set_option maxRecDepth 100000 in
def L20 : LC := (.seq (.reg none [⟨(some 2), (.box (.tmp 0)), none, true⟩, ⟨(some 3), (.box (.tmp 1)), none, true⟩, ⟨(some 4), (.mv (.val (.bool false))), none, true⟩]) (.seq (.reg none [⟨(some 7), (.addr 0 (.tmp 2)), none, true⟩, ⟨(some 8), (.load 1 false (.tmp 7)), none, true⟩, ⟨(some 9), (.addr 0 (.tmp 3)), none, true⟩, ⟨(some 10), (.addr 0 (.tmp 9)), none, true⟩, ⟨(some 11), (.load 1 false (.tmp 10)), none, true⟩, ⟨(some 12), (.iaddrS 3 (.tmp 8) (.tmp 11)), none, true⟩, ⟨(some 13), (.addr 1 (.tmp 12)), none, true⟩, ⟨(some 14), (.load 1 false (.tmp 13)), none, true⟩, ⟨(some 5), (.mv (.tmp 14)), none, true⟩]) (.seq (.reg none [⟨(some 15), (.mv (.tmp 5)), none, true⟩, ⟨(some 16), (.addr 0 (.tmp 3)), none, true⟩, ⟨(some 17), (.load 2 true (.tmp 16)), none, true⟩, ⟨(some 18), (.call 31 [(.tmp 15), (.tmp 17)] 0), none, true⟩, ⟨(some 6), (.mv (.tmp 18)), none, true⟩]) (.seq (.reg (some []) [⟨(some 19), (.mv (.tmp 6)), none, true⟩, ⟨(some 20), (.bin .geq (.tmp 19) (.val (.int .i64 0))), none, true⟩, ⟨(some 21), (.mv (.tmp 20)), none, true⟩, ⟨(some 22), (.mv (.tmp 5)), (some (21, true)), true⟩, ⟨(some 23), (.mv (.tmp 6)), (some (21, true)), true⟩, ⟨(some 24), (.iaddrS 5 (.tmp 22) (.tmp 23)), (some (21, true)), false⟩, ⟨(some 25), (.load 5 true (.tmp 24)), (some (21, true)), false⟩, ⟨(some 26), (.load 5 true (.tmp 3)), (some (21, true)), false⟩, ⟨(some 27), (.call 33 [(.tmp 25), (.tmp 26)] 0), (some (21, true)), true⟩, ⟨(some 28), (.pick (.tmp 21) (.tmp 27) (.val (.bool false))), none, true⟩, ⟨(some 4), (.mv (.tmp 28)), none, true⟩]) .ret))))
def R20 : List LRes := [(.tmp 4)]
theorem low20 : Try.f20.body.bind (lowerCode Try.prog 29) = some L20 := by kernel_rfl
theorem res20 : lowerRes Try.prog Try.f20.results.toList = some R20 := by kernel_rfl
set_option maxRecDepth 100000 in
def L21 : LC := (.seq (.reg none [⟨(some 4), (.mv (.val (.bool false))), none, true⟩]) (.seq (.reg none [⟨(some 5), (.mv (.tmp 0)), none, true⟩, ⟨(some 6), (.mv (.tmp 1)), none, true⟩, ⟨(some 7), (.call 34 [(.tmp 5), (.tmp 6)] 0), none, true⟩, ⟨(some 8), (.bin .geq (.tmp 7) (.val (.int .i64 0))), none, true⟩, ⟨(some 4), (.mv (.tmp 8)), none, true⟩]) .ret))
def R21 : List LRes := [(.tmp 4)]
theorem low21 : Try.f21.body.bind (lowerCode Try.prog 9) = some L21 := by kernel_rfl
theorem res21 : lowerRes Try.prog Try.f21.results.toList = some R21 := by kernel_rfl
set_option maxRecDepth 100000 in
def L22 : LC := (.seq (.reg none [⟨(some 4), (.mv (.val (.bool false))), none, true⟩]) (.seq (.seq (.reg none [⟨(some 6), (.mv (.tmp 0)), none, true⟩, ⟨(some 7), (.len false (.tmp 6)), none, true⟩, ⟨(some 8), (.mv (.tmp 1)), none, true⟩, ⟨(some 9), (.len false (.tmp 8)), none, true⟩, ⟨(some 10), (.bin .neq (.tmp 7) (.tmp 9)), none, true⟩]) (.cond (.tmp 10) (.seq (.reg none [⟨(some 4), (.mv (.val (.bool false))), none, true⟩]) .ret) .skip)) (.seq (.seq (.reg none [⟨(some 5), (.mv (.val (.int .i64 0))), none, true⟩]) (.block 0 (.loop (.seq (.seq (.reg none [⟨(some 11), (.mv (.tmp 5)), none, true⟩, ⟨(some 12), (.mv (.tmp 0)), none, true⟩, ⟨(some 13), (.len false (.tmp 12)), none, true⟩, ⟨(some 14), (.bin .lss (.tmp 11) (.tmp 13)), none, true⟩]) (.cond (.tmp 14) .skip (.exit 0))) (.seq (.block 1 (.seq (.reg (some []) [⟨(some 17), (.mv (.tmp 0)), none, true⟩, ⟨(some 18), (.mv (.tmp 5)), none, true⟩, ⟨(some 19), (.iaddrS 2 (.tmp 17) (.tmp 18)), none, false⟩, ⟨(some 20), (.load 2 true (.tmp 19)), none, false⟩, ⟨(some 21), (.mv (.tmp 1)), none, true⟩, ⟨(some 22), (.mv (.tmp 5)), none, true⟩, ⟨(some 23), (.iaddrS 2 (.tmp 21) (.tmp 22)), none, false⟩, ⟨(some 24), (.load 2 true (.tmp 23)), none, false⟩, ⟨(some 25), (.eqag true [.i, .i] (.tmp 20) (.tmp 24)), none, true⟩]) (.cond (.tmp 25) (.seq (.reg none [⟨(some 4), (.mv (.val (.bool false))), none, true⟩]) .ret) .skip))) (.reg none [⟨(some 15), (.mv (.tmp 5)), none, true⟩, ⟨(some 16), (.bin .add (.tmp 15) (.val (.int .i64 1))), none, true⟩, ⟨(some 5), (.mv (.tmp 16)), none, true⟩])))))) (.seq (.reg none [⟨(some 4), (.mv (.val (.bool true))), none, true⟩]) .ret))))
def R22 : List LRes := [(.tmp 4)]
theorem low22 : Try.f22.body.bind (lowerCode Try.prog 26) = some L22 := by kernel_rfl
theorem res22 : lowerRes Try.prog Try.f22.results.toList = some R22 := by kernel_rfl
set_option maxRecDepth 100000 in
def L24 : LC := (.seq (.reg none [⟨(some 2), (.box (.tmp 0)), none, true⟩, ⟨(some 3), (.box (.tmp 1)), none, true⟩, ⟨(some 4), (.alloc [.nilsl, .nilsl]), none, true⟩, ⟨(some 5), (.mv (.val (.int .i64 0))), none, true⟩]) (.seq (.reg none [⟨(some 8), (.load 2 true (.tmp 2)), none, true⟩, ⟨(some 9), (.call 13 [(.tmp 8)] 0), none, true⟩, ⟨(some 6), (.mv (.tmp 9)), none, true⟩]) (.seq (.reg none [⟨(some 7), (.mv (.val (.int .i64 0))), none, true⟩]) (.seq (.block 0 (.seq (.reg none [⟨(some 14), (.addr 0 (.tmp 3)), none, true⟩, ⟨(some 15), (.load 1 false (.tmp 14)), none, true⟩, ⟨(some 16), (.bin .lss (.tmp 15) (.val (.int .i64 1))), none, true⟩, ⟨(some 17), (.mv (.tmp 16)), none, true⟩, ⟨(some 18), (.addr 0 (.tmp 3)), (some (17, false)), true⟩, ⟨(some 19), (.load 1 false (.tmp 18)), (some (17, false)), true⟩, ⟨(some 20), (.bin .gtr (.tmp 19) (.val (.int .i64 5))), (some (17, false)), true⟩, ⟨(some 21), (.pick (.tmp 17) (.val (.bool true)) (.tmp 20)), none, true⟩, ⟨(some 13), (.mv (.tmp 21)), none, true⟩]) (.cond (.tmp 13) (.reg none [⟨(some 7), (.mv (.val (.int .i64 7))), none, true⟩]) (.seq (.reg none [⟨(some 23), (.load 5 true (.tmp 3)), none, true⟩, ⟨(some 24), (.call 35 [(.tmp 23)] 0), none, true⟩, ⟨(some 22), (.mv (.tmp 24)), none, true⟩]) (.cond (.tmp 22) (.reg none [⟨(some 7), (.mv (.val (.int .i64 1))), none, true⟩]) (.seq (.reg none [⟨(some 26), (.addr 1 (.tmp 3)), none, true⟩, ⟨(some 27), (.load 1 false (.tmp 26)), none, true⟩, ⟨(some 28), (.bin .neq (.tmp 27) (.val (.int .i64 0))), none, true⟩, ⟨(some 29), (.mv (.tmp 28)), none, true⟩, ⟨(some 30), (.addr 1 (.tmp 3)), (some (29, true)), true⟩, ⟨(some 31), (.load 1 false (.tmp 30)), (some (29, true)), true⟩, ⟨(some 32), (.bin .neq (.tmp 31) (.val (.int .i64 1))), (some (29, true)), true⟩, ⟨(some 33), (.pick (.tmp 29) (.tmp 32) (.val (.bool false))), none, true⟩, ⟨(some 25), (.mv (.tmp 33)), none, true⟩]) (.cond (.tmp 25) (.reg none [⟨(some 7), (.mv (.val (.int .i64 3))), none, true⟩]) (.reg none [⟨(some 10), (.mv (.tmp 6)), none, true⟩, ⟨(some 11), (.load 5 true (.tmp 3)), none, true⟩, ⟨(some 12), (.call 36 [(.tmp 10), (.tmp 11)] 0), none, true⟩, ⟨(some 7), (.mv (.tmp 12)), none, true⟩])))))))) (.seq (.seq (.reg none [⟨(some 34), (.mv (.tmp 7)), none, true⟩, ⟨(some 35), (.bin .neq (.tmp 34) (.val (.int .i64 0))), none, true⟩]) (.cond (.tmp 35) (.seq (.reg none [⟨(some 36), (.build [.nilsl, .nilsl] []), none, true⟩, ⟨(some 37), (.mv (.tmp 7)), none, true⟩, ⟨none, (.store 2 (.tmp 4) (.tmp 36)), none, true⟩, ⟨(some 5), (.mv (.tmp 37)), none, true⟩]) .ret) .skip)) (.seq (.reg none [⟨(some 38), (.mv (.tmp 6)), none, true⟩, ⟨(some 39), (.nilchk (.tmp 38)), none, true⟩, ⟨(some 40), (.addr 0 (.tmp 39)), none, true⟩, ⟨(some 41), (.load 2 true (.tmp 40)), none, true⟩, ⟨none, (.store 2 (.tmp 4) (.tmp 41)), none, true⟩, ⟨(some 5), (.mv (.val (.int .i64 0))), none, true⟩]) .ret))))))
def R24 : List LRes := [(.cell 4 2 true), (.tmp 5)]
theorem low24 : Try.f24.body.bind (lowerCode Try.prog 42) = some L24 := by kernel_rfl
theorem res24 : lowerRes Try.prog Try.f24.results.toList = some R24 := by kernel_rfl
set_option maxRecDepth 100000 in
def L25 : LC := (.seq (.reg none [⟨(some 1), (.box (.tmp 0)), none, true⟩, ⟨(some 2), (.alloc [(.int .i64 0), .nilsl, .nilsl]), none, true⟩]) (.seq (.reg (some [(0, 4), (1, 4), (4, 5), (4, 6), (0, 7), (1, 7)]) [⟨(some 3), (.addr 0 (.tmp 1)), none, false⟩, ⟨(some 4), (.load 1 false (.tmp 3)), none, false⟩, ⟨(some 5), (.addr 1 (.tmp 1)), none, false⟩, ⟨(some 6), (.load 1 false (.tmp 5)), none, false⟩, ⟨(some 7), (.call 37 [(.tmp 6)] 2), none, false⟩, ⟨(some 8), (.addr 2 (.tmp 1)), none, false⟩, ⟨(some 9), (.load 1 false (.tmp 8)), none, false⟩, ⟨(some 10), (.call 37 [(.tmp 9)] 2), none, false⟩, ⟨(some 11), (.build [(.int .i64 0), .nilsl, .nilsl] [(0, (1, (.tmp 4))), (1, (1, (.tmp 7))), (2, (1, (.tmp 10)))]), none, true⟩, ⟨none, (.store 3 (.tmp 2) (.tmp 11)), none, true⟩]) .ret))
def R25 : List LRes := [(.cell 2 3 true)]
theorem low25 : Try.f25.body.bind (lowerCode Try.prog 12) = some L25 := by kernel_rfl
theorem res25 : lowerRes Try.prog Try.f25.results.toList = some R25 := by kernel_rfl
set_option maxRecDepth 100000 in
def L26 : LC := (.seq (.reg none [⟨(some 1), (.box (.tmp 0)), none, true⟩, ⟨(some 2), (.alloc [(.int .i64 0), (.int .i64 0), (.int .i64 0), (.str ⟨#[]⟩), .nilsl]), none, true⟩]) (.seq (.reg none [⟨(some 3), (.addr 4 (.tmp 1)), none, true⟩, ⟨(some 4), (.load 1 false (.tmp 3)), none, true⟩, ⟨(some 5), (.call 38 [(.tmp 4)] 0), none, true⟩, ⟨(some 6), (.addr 4 (.tmp 1)), none, true⟩, ⟨none, (.store 1 (.tmp 6) (.tmp 5)), none, true⟩]) (.seq (.reg none [⟨(some 7), (.load 5 true (.tmp 1)), none, true⟩, ⟨none, (.store 5 (.tmp 2) (.tmp 7)), none, true⟩]) .ret)))
def R26 : List LRes := [(.cell 2 5 true)]
theorem low26 : Try.f26.body.bind (lowerCode Try.prog 8) = some L26 := by kernel_rfl
theorem res26 : lowerRes Try.prog Try.f26.results.toList = some R26 := by kernel_rfl
set_option maxRecDepth 100000 in
def L27 : LC := (.seq (.reg none [⟨(some 5), (.box (.tmp 2)), none, true⟩, ⟨(some 6), (.mv (.val (.int .i64 0))), none, true⟩]) (.seq (.reg (some [(1, 13), (2, 13), (3, 13), (4, 13), (6, 13), (7, 13), (8, 13), (9, 13)]) [⟨(some 10), (.mv (.tmp 0)), none, true⟩, ⟨(some 11), (.nilchk (.tmp 10)), none, false⟩, ⟨(some 12), (.addr 0 (.tmp 11)), none, false⟩, ⟨(some 13), (.addr 0 (.tmp 12)), none, false⟩, ⟨(some 14), (.load 1 false (.tmp 13)), none, false⟩, ⟨(some 15), (.mv (.tmp 1)), none, true⟩, ⟨(some 16), (.iaddrS 3 (.tmp 14) (.tmp 15)), none, false⟩, ⟨(some 17), (.load 3 true (.tmp 16)), none, false⟩, ⟨(some 18), (.load 5 true (.tmp 5)), none, false⟩, ⟨(some 19), (.call 39 [(.tmp 17), (.tmp 18)] 0), none, false⟩, ⟨(some 9), (.mv (.tmp 19)), none, true⟩, ⟨(some 20), (.ext 0 (.tmp 9)), none, true⟩, ⟨(some 21), (.ext 1 (.tmp 9)), none, true⟩, ⟨(some 7), (.alloc [(.int .i64 0), .nilsl, .nilsl]), none, false⟩, ⟨none, (.store 3 (.tmp 7) (.tmp 20)), none, true⟩, ⟨(some 8), (.mv (.tmp 21)), none, true⟩]) (.seq (.seq (.reg none [⟨(some 22), (.mv (.tmp 8)), none, true⟩, ⟨(some 23), (.bin .eql (.tmp 22) (.val (.int .i64 0))), none, true⟩]) (.cond (.tmp 23) (.reg (some []) [⟨(some 24), (.mv (.tmp 0)), none, true⟩, ⟨(some 25), (.nilchk (.tmp 24)), none, false⟩, ⟨(some 26), (.addr 0 (.tmp 25)), none, false⟩, ⟨(some 27), (.addr 0 (.tmp 26)), none, false⟩, ⟨(some 28), (.load 1 false (.tmp 27)), none, false⟩, ⟨(some 29), (.mv (.tmp 1)), none, true⟩, ⟨(some 30), (.load 3 true (.tmp 7)), none, false⟩, ⟨(some 31), (.iaddrS 3 (.tmp 28) (.tmp 29)), none, true⟩, ⟨none, (.store 3 (.tmp 31) (.tmp 30)), none, true⟩]) .skip)) (.seq (.reg none [⟨(some 32), (.mv (.tmp 8)), none, true⟩, ⟨(some 6), (.mv (.tmp 32)), none, true⟩]) .ret))))
def R27 : List LRes := [(.tmp 6)]
theorem low27 : Try.f27.body.bind (lowerCode Try.prog 33) = some L27 := by kernel_rfl
theorem res27 : lowerRes Try.prog Try.f27.results.toList = some R27 := by kernel_rfl
set_option maxRecDepth 100000 in
def L28 : LC := (.seq (.reg none [⟨(some 2), (.mv (.val (.int .i64 0))), none, true⟩]) (.seq (.seq (.reg none [⟨(some 6), (.mv (.tmp 0)), none, true⟩, ⟨(some 7), (.len false (.tmp 6)), none, true⟩, ⟨(some 8), (.bin .gtr (.tmp 7) (.val (.int .i64 40))), none, true⟩]) (.cond (.tmp 8) (.seq (.reg none [⟨(some 2), (.mv (.val (.int .i64 2))), none, true⟩]) .ret) .skip)) (.seq (.seq (.reg none [⟨(some 9), (.mv (.tmp 0)), none, true⟩, ⟨(some 10), (.len false (.tmp 9)), none, true⟩, ⟨(some 11), (.mv (.val (.int .i64 0))), none, true⟩]) (.block 0 (.loop (.seq (.reg none [⟨(some 12), (.bin .lss (.tmp 11) (.tmp 10)), none, true⟩]) (.seq (.cond (.tmp 12) .skip (.exit 0)) (.seq (.block 1 (.seq (.reg none [⟨(some 13), (.mv (.tmp 11)), none, true⟩, ⟨(some 14), (.iaddrS 5 (.tmp 9) (.tmp 11)), none, true⟩, ⟨(some 15), (.load 5 true (.tmp 14)), none, true⟩, ⟨(some 4), (.alloc [(.int .i64 0), (.int .i64 0), (.int .i64 0), (.str ⟨#[]⟩), .nilsl]), none, true⟩, ⟨(some 3), (.mv (.tmp 13)), none, true⟩, ⟨none, (.store 5 (.tmp 4) (.tmp 15)), none, true⟩]) (.seq (.seq (.reg none [⟨(some 16), (.load 5 true (.tmp 4)), none, true⟩, ⟨(some 17), (.call 29 [(.tmp 16)] 0), none, true⟩, ⟨(some 5), (.mv (.tmp 17)), none, true⟩]) (.seq (.reg none [⟨(some 18), (.mv (.tmp 5)), none, true⟩, ⟨(some 19), (.bin .neq (.tmp 18) (.val (.int .i64 0))), none, true⟩]) (.cond (.tmp 19) (.seq (.reg none [⟨(some 20), (.mv (.tmp 5)), none, true⟩, ⟨(some 2), (.mv (.tmp 20)), none, true⟩]) .ret) .skip))) (.block 2 (.seq (.reg (some []) [⟨(some 22), (.mv (.tmp 0)), none, true⟩, ⟨(some 23), (.mv (.tmp 3)), none, true⟩, ⟨(some 24), (.slc 5 (.tmp 22) none (some (.tmp 23))), none, false⟩, ⟨(some 25), (.addr 0 (.tmp 4)), none, false⟩, ⟨(some 26), (.load 2 true (.tmp 25)), none, false⟩, ⟨(some 27), (.call 31 [(.tmp 24), (.tmp 26)] 0), none, true⟩, ⟨(some 28), (.bin .geq (.tmp 27) (.val (.int .i64 0))), none, true⟩, ⟨(some 21), (.mv (.tmp 28)), none, true⟩]) (.cond (.tmp 21) (.seq (.reg none [⟨(some 2), (.mv (.val (.int .i64 6))), none, true⟩]) .ret) (.seq (.reg (some []) [⟨(some 30), (.mv (.tmp 0)), none, true⟩, ⟨(some 31), (.mv (.tmp 3)), none, true⟩, ⟨(some 32), (.slc 5 (.tmp 30) none (some (.tmp 31))), none, false⟩, ⟨(some 33), (.call 40 [(.tmp 32)] 0), none, false⟩, ⟨(some 34), (.addr 0 (.tmp 4)), none, false⟩, ⟨(some 35), (.addr 0 (.tmp 34)), none, false⟩, ⟨(some 36), (.load 1 false (.tmp 35)), none, false⟩, ⟨(some 37), (.idxA 1 2 false (.tmp 33) (.tmp 36)), none, true⟩, ⟨(some 38), (.bin .add (.tmp 37) (.val (.int .i64 1))), none, true⟩, ⟨(some 39), (.addr 0 (.tmp 4)), none, false⟩, ⟨(some 40), (.addr 1 (.tmp 39)), none, false⟩, ⟨(some 41), (.load 1 false (.tmp 40)), none, false⟩, ⟨(some 42), (.bin .neq (.tmp 38) (.tmp 41)), none, true⟩, ⟨(some 29), (.mv (.tmp 42)), none, true⟩]) (.cond (.tmp 29) (.seq (.reg none [⟨(some 2), (.mv (.val (.int .i64 4))), none, true⟩]) .ret) (.seq (.reg (some []) [⟨(some 44), (.mv (.tmp 0)), none, true⟩, ⟨(some 45), (.mv (.tmp 3)), none, true⟩, ⟨(some 46), (.slc 5 (.tmp 44) none (some (.tmp 45))), none, false⟩, ⟨(some 47), (.load 5 true (.tmp 4)), none, false⟩, ⟨(some 48), (.call 32 [(.tmp 46), (.tmp 47)] 0), none, true⟩, ⟨(some 49), (.not (.tmp 48)), none, true⟩, ⟨(some 43), (.mv (.tmp 49)), none, true⟩]) (.cond (.tmp 43) (.seq (.reg none [⟨(some 2), (.mv (.val (.int .i64 5))), none, true⟩]) .ret) .skip)))))))))) (.reg none [⟨(some 50), (.bin .add (.tmp 11) (.val (.int .i64 1))), none, true⟩, ⟨(some 11), (.mv (.tmp 50)), none, true⟩]))))))) (.seq (.reg none [⟨(some 2), (.mv (.val (.int .i64 0))), none, true⟩]) .ret))))
def R28 : List LRes := [(.tmp 2)]
theorem low28 : Try.f28.body.bind (lowerCode Try.prog 51) = some L28 := by kernel_rfl
theorem res28 : lowerRes Try.prog Try.f28.results.toList = some R28 := by kernel_rfl
set_option maxRecDepth 100000 in
def L29 : LC := (.seq (.reg none [⟨(some 1), (.box (.tmp 0)), none, true⟩, ⟨(some 2), (.mv (.val (.int .i64 0))), none, true⟩]) (.seq (.block 0 (.seq (.reg none [⟨(some 6), (.addr 0 (.tmp 1)), none, true⟩, ⟨(some 7), (.load 2 true (.tmp 6)), none, true⟩, ⟨(some 8), (.call 41 [(.tmp 7)] 0), none, true⟩, ⟨(some 9), (.not (.tmp 8)), none, true⟩, ⟨(some 10), (.mv (.tmp 9)), none, true⟩, ⟨(some 11), (.addr 2 (.tmp 1)), (some (10, false)), true⟩, ⟨(some 12), (.load 1 false (.tmp 11)), (some (10, false)), true⟩, ⟨(some 13), (.call 42 [(.tmp 12)] 0), (some (10, false)), true⟩, ⟨(some 14), (.not (.tmp 13)), (some (10, false)), true⟩, ⟨(some 15), (.pick (.tmp 10) (.val (.bool true)) (.tmp 14)), none, true⟩, ⟨(some 5), (.mv (.tmp 15)), none, true⟩]) (.cond (.tmp 5) (.seq (.reg none [⟨(some 2), (.mv (.val (.int .i64 3))), none, true⟩]) .ret) (.seq (.reg none [⟨(some 17), (.addr 3 (.tmp 1)), none, true⟩, ⟨(some 18), (.load 1 false (.tmp 17)), none, true⟩, ⟨(some 19), (.len true (.tmp 18)), none, true⟩, ⟨(some 20), (.bin .gtr (.tmp 19) (.val (.int .i64 12))), none, true⟩, ⟨(some 21), (.mv (.tmp 20)), none, true⟩, ⟨(some 22), (.addr 4 (.tmp 1)), (some (21, false)), true⟩, ⟨(some 23), (.load 1 false (.tmp 22)), (some (21, false)), true⟩, ⟨(some 24), (.len false (.tmp 23)), (some (21, false)), true⟩, ⟨(some 25), (.bin .gtr (.tmp 24) (.val (.int .i64 6))), (some (21, false)), true⟩, ⟨(some 26), (.pick (.tmp 21) (.val (.bool true)) (.tmp 25)), none, true⟩, ⟨(some 16), (.mv (.tmp 26)), none, true⟩]) (.cond (.tmp 16) (.seq (.reg none [⟨(some 2), (.mv (.val (.int .i64 2))), none, true⟩]) .ret) .skip))))) (.seq (.seq (.reg none [⟨(some 27), (.addr 4 (.tmp 1)), none, true⟩, ⟨(some 28), (.load 1 false (.tmp 27)), none, true⟩, ⟨(some 29), (.len false (.tmp 28)), none, true⟩, ⟨(some 30), (.mv (.val (.int .i64 0))), none, true⟩]) (.block 1 (.loop (.seq (.reg none [⟨(some 31), (.bin .lss (.tmp 30) (.tmp 29)), none, true⟩]) (.seq (.cond (.tmp 31) .skip (.exit 1)) (.seq (.block 2 (.seq (.reg none [⟨(some 32), (.mv (.tmp 30)), none, true⟩, ⟨(some 33), (.iaddrS 2 (.tmp 28) (.tmp 30)), none, true⟩, ⟨(some 34), (.load 2 true (.tmp 33)), none, true⟩, ⟨(some 4), (.alloc [(.int .i64 0), (.int .i64 0)]), none, true⟩, ⟨(some 3), (.mv (.tmp 32)), none, true⟩, ⟨none, (.store 2 (.tmp 4) (.tmp 34)), none, true⟩]) (.block 3 (.seq (.reg none [⟨(some 36), (.load 2 true (.tmp 4)), none, true⟩, ⟨(some 37), (.call 41 [(.tmp 36)] 0), none, true⟩, ⟨(some 38), (.not (.tmp 37)), none, true⟩, ⟨(some 35), (.mv (.tmp 38)), none, true⟩]) (.cond (.tmp 35) (.seq (.reg none [⟨(some 2), (.mv (.val (.int .i64 3))), none, true⟩]) .ret) (.seq (.seq (.reg (some []) [⟨(some 40), (.mv (.tmp 3)), none, true⟩, ⟨(some 41), (.bin .gtr (.tmp 40) (.val (.int .i64 0))), none, true⟩, ⟨(some 42), (.mv (.tmp 41)), none, true⟩, ⟨(some 43), (.addr 4 (.tmp 1)), (some (42, true)), false⟩, ⟨(some 44), (.load 1 false (.tmp 43)), (some (42, true)), false⟩, ⟨(some 45), (.mv (.tmp 3)), (some (42, true)), true⟩, ⟨(some 46), (.bin .sub (.tmp 45) (.val (.int .i64 1))), (some (42, true)), true⟩, ⟨(some 47), (.iaddrS 2 (.tmp 44) (.tmp 46)), (some (42, true)), false⟩, ⟨(some 48), (.load 2 true (.tmp 47)), (some (42, true)), false⟩, ⟨(some 49), (.load 2 true (.tmp 4)), (some (42, true)), false⟩, ⟨(some 50), (.call 43 [(.tmp 48), (.tmp 49)] 0), (some (42, true)), true⟩, ⟨(some 51), (.bin .geq (.tmp 50) (.val (.int .i64 0))), (some (42, true)), true⟩, ⟨(some 52), (.pick (.tmp 42) (.tmp 51) (.val (.bool false))), none, true⟩, ⟨(some 39), (.mv (.tmp 52)), none, true⟩]) (.cond (.tmp 39) .skip (.reg none [⟨(some 53), (.addr 0 (.tmp 4)), none, true⟩, ⟨(some 54), (.load 1 false (.tmp 53)), none, true⟩, ⟨(some 55), (.addr 0 (.tmp 1)), none, true⟩, ⟨(some 56), (.addr 0 (.tmp 55)), none, true⟩, ⟨(some 57), (.load 1 false (.tmp 56)), none, true⟩, ⟨(some 58), (.bin .eql (.tmp 54) (.tmp 57)), none, true⟩, ⟨(some 59), (.mv (.tmp 58)), none, true⟩, ⟨(some 60), (.addr 1 (.tmp 4)), (some (59, true)), true⟩, ⟨(some 61), (.load 1 false (.tmp 60)), (some (59, true)), true⟩, ⟨(some 62), (.addr 0 (.tmp 1)), (some (59, true)), true⟩, ⟨(some 63), (.addr 1 (.tmp 62)), (some (59, true)), true⟩, ⟨(some 64), (.load 1 false (.tmp 63)), (some (59, true)), true⟩, ⟨(some 65), (.bin .geq (.tmp 61) (.tmp 64)), (some (59, true)), true⟩, ⟨(some 66), (.pick (.tmp 59) (.tmp 65) (.val (.bool false))), none, true⟩, ⟨(some 39), (.mv (.tmp 66)), none, true⟩]))) (.cond (.tmp 39) (.seq (.reg none [⟨(some 2), (.mv (.val (.int .i64 4))), none, true⟩]) .ret) .skip))))))) (.reg none [⟨(some 67), (.bin .add (.tmp 30) (.val (.int .i64 1))), none, true⟩, ⟨(some 30), (.mv (.tmp 67)), none, true⟩]))))))) (.seq (.reg none [⟨(some 2), (.mv (.val (.int .i64 0))), none, true⟩]) .ret))))
def R29 : List LRes := [(.tmp 2)]
theorem low29 : Try.f29.body.bind (lowerCode Try.prog 68) = some L29 := by kernel_rfl
theorem res29 : lowerRes Try.prog Try.f29.results.toList = some R29 := by kernel_rfl
set_option maxRecDepth 100000 in
def L30 : LC := (.seq (.reg none [⟨(some 2), (.box (.tmp 0)), none, true⟩, ⟨(some 3), (.box (.tmp 1)), none, true⟩, ⟨(some 4), (.mv (.val (.bool false))), none, true⟩]) (.seq (.reg none [⟨(some 5), (.load 2 true (.tmp 2)), none, true⟩, ⟨(some 6), (.load 2 true (.tmp 3)), none, true⟩, ⟨(some 7), (.call 43 [(.tmp 5), (.tmp 6)] 0), none, true⟩, ⟨(some 8), (.bin .lss (.tmp 7) (.val (.int .i64 0))), none, true⟩, ⟨(some 4), (.mv (.tmp 8)), none, true⟩]) .ret))
def R30 : List LRes := [(.tmp 4)]
theorem low30 : Try.f30.body.bind (lowerCode Try.prog 9) = some L30 := by kernel_rfl
theorem res30 : lowerRes Try.prog Try.f30.results.toList = some R30 := by kernel_rfl
set_option maxRecDepth 100000 in
def L31 : LC := (.seq (.reg none [⟨(some 3), (.box (.tmp 1)), none, true⟩, ⟨(some 4), (.mv (.val (.int .i64 0))), none, true⟩]) (.seq (.reg none [⟨(some 5), (.mv (.tmp 0)), none, true⟩, ⟨(some 6), (.clo 44 [(.tmp 3)]), none, true⟩, ⟨(some 7), (.call 34 [(.tmp 5), (.tmp 6)] 0), none, true⟩, ⟨(some 4), (.mv (.tmp 7)), none, true⟩]) .ret))
def R31 : List LRes := [(.tmp 4)]
theorem low31 : Try.f31.body.bind (lowerCode Try.prog 8) = some L31 := by kernel_rfl
theorem res31 : lowerRes Try.prog Try.f31.results.toList = some R31 := by kernel_rfl
set_option maxRecDepth 100000 in
def L32 : LC := (.seq (.reg none [⟨(some 2), (.box (.tmp 0)), none, true⟩, ⟨(some 3), (.box (.tmp 1)), none, true⟩, ⟨(some 4), (.mv (.val (.bool false))), none, true⟩]) (.seq (.reg (some []) [⟨(some 5), (.load 1 false (.tmp 2)), none, false⟩, ⟨(some 6), (.call 40 [(.tmp 5)] 0), none, false⟩, ⟨(some 7), (.addr 0 (.tmp 3)), none, false⟩, ⟨(some 8), (.addr 0 (.tmp 7)), none, false⟩, ⟨(some 9), (.load 1 false (.tmp 8)), none, false⟩, ⟨(some 10), (.idxA 1 2 false (.tmp 6) (.tmp 9)), none, true⟩, ⟨(some 11), (.bin .add (.tmp 10) (.val (.int .i64 1))), none, true⟩, ⟨(some 12), (.addr 0 (.tmp 3)), none, false⟩, ⟨(some 13), (.addr 1 (.tmp 12)), none, false⟩, ⟨(some 14), (.load 1 false (.tmp 13)), none, false⟩, ⟨(some 15), (.bin .eql (.tmp 11) (.tmp 14)), none, true⟩, ⟨(some 16), (.mv (.tmp 15)), none, true⟩, ⟨(some 17), (.addr 4 (.tmp 3)), (some (16, true)), true⟩, ⟨(some 18), (.load 1 false (.tmp 17)), (some (16, true)), true⟩, ⟨(some 19), (.clo 46 [(.tmp 2)]), (some (16, true)), true⟩, ⟨(some 20), (.call 45 [(.tmp 18), (.tmp 19)] 0), (some (16, true)), true⟩, ⟨(some 21), (.not (.tmp 20)), (some (16, true)), true⟩, ⟨(some 22), (.pick (.tmp 16) (.tmp 21) (.val (.bool false))), none, true⟩, ⟨(some 4), (.mv (.tmp 22)), none, true⟩]) .ret))
def R32 : List LRes := [(.tmp 4)]
theorem low32 : Try.f32.body.bind (lowerCode Try.prog 23) = some L32 := by kernel_rfl
theorem res32 : lowerRes Try.prog Try.f32.results.toList = some R32 := by kernel_rfl
set_option maxRecDepth 100000 in
def L33 : LC := (.seq (.reg none [⟨(some 2), (.box (.tmp 0)), none, true⟩, ⟨(some 3), (.box (.tmp 1)), none, true⟩, ⟨(some 4), (.mv (.val (.bool false))), none, true⟩]) (.seq (.reg none [⟨(some 5), (.addr 0 (.tmp 2)), none, true⟩, ⟨(some 6), (.load 2 true (.tmp 5)), none, true⟩, ⟨(some 7), (.addr 0 (.tmp 3)), none, true⟩, ⟨(some 8), (.load 2 true (.tmp 7)), none, true⟩, ⟨(some 9), (.eqag false [.i, .i] (.tmp 6) (.tmp 8)), none, true⟩, ⟨(some 10), (.mv (.tmp 9)), none, true⟩, ⟨(some 11), (.addr 2 (.tmp 2)), (some (10, true)), true⟩, ⟨(some 12), (.load 1 false (.tmp 11)), (some (10, true)), true⟩, ⟨(some 13), (.addr 2 (.tmp 3)), (some (10, true)), true⟩, ⟨(some 14), (.load 1 false (.tmp 13)), (some (10, true)), true⟩, ⟨(some 15), (.bin .eql (.tmp 12) (.tmp 14)), (some (10, true)), true⟩, ⟨(some 16), (.pick (.tmp 10) (.tmp 15) (.val (.bool false))), none, true⟩, ⟨(some 17), (.mv (.tmp 16)), none, true⟩, ⟨(some 18), (.addr 3 (.tmp 2)), (some (17, true)), true⟩, ⟨(some 19), (.load 1 false (.tmp 18)), (some (17, true)), true⟩, ⟨(some 20), (.addr 3 (.tmp 3)), (some (17, true)), true⟩, ⟨(some 21), (.load 1 false (.tmp 20)), (some (17, true)), true⟩, ⟨(some 22), (.bin .eql (.tmp 19) (.tmp 21)), (some (17, true)), true⟩, ⟨(some 23), (.pick (.tmp 17) (.tmp 22) (.val (.bool false))), none, true⟩, ⟨(some 24), (.mv (.tmp 23)), none, true⟩, ⟨(some 25), (.addr 4 (.tmp 2)), (some (24, true)), true⟩, ⟨(some 26), (.load 1 false (.tmp 25)), (some (24, true)), true⟩, ⟨(some 27), (.addr 4 (.tmp 3)), (some (24, true)), true⟩, ⟨(some 28), (.load 1 false (.tmp 27)), (some (24, true)), true⟩, ⟨(some 29), (.call 47 [(.tmp 26), (.tmp 28)] 0), (some (24, true)), true⟩, ⟨(some 30), (.pick (.tmp 24) (.tmp 29) (.val (.bool false))), none, true⟩, ⟨(some 4), (.mv (.tmp 30)), none, true⟩]) .ret))
def R33 : List LRes := [(.tmp 4)]
theorem low33 : Try.f33.body.bind (lowerCode Try.prog 31) = some L33 := by kernel_rfl
theorem res33 : lowerRes Try.prog Try.f33.results.toList = some R33 := by kernel_rfl
set_option maxRecDepth 100000 in
def L34 : LC := (.seq (.reg none [⟨(some 4), (.mv (.val (.int .i64 0))), none, true⟩]) (.seq (.seq (.reg none [⟨(some 6), (.mv (.tmp 0)), none, true⟩, ⟨(some 7), (.len false (.tmp 6)), none, true⟩, ⟨(some 8), (.mv (.val (.int .i64 0))), none, true⟩]) (.block 0 (.loop (.seq (.reg none [⟨(some 9), (.bin .lss (.tmp 8) (.tmp 7)), none, true⟩]) (.seq (.cond (.tmp 9) .skip (.exit 0)) (.seq (.block 1 (.seq (.reg none [⟨(some 10), (.mv (.tmp 8)), none, true⟩, ⟨(some 5), (.mv (.tmp 10)), none, true⟩]) (.seq (.reg none [⟨(some 11), (.mv (.tmp 1)), none, true⟩, ⟨(some 12), (.mv (.tmp 0)), none, true⟩, ⟨(some 13), (.mv (.tmp 5)), none, true⟩, ⟨(some 14), (.iaddrS 5 (.tmp 12) (.tmp 13)), none, true⟩, ⟨(some 15), (.load 5 true (.tmp 14)), none, true⟩, ⟨(some 16), (.callv (.tmp 11) [(.tmp 15)]), none, true⟩]) (.cond (.tmp 16) (.seq (.reg none [⟨(some 17), (.mv (.tmp 5)), none, true⟩, ⟨(some 4), (.mv (.tmp 17)), none, true⟩]) .ret) .skip)))) (.reg none [⟨(some 18), (.bin .add (.tmp 8) (.val (.int .i64 1))), none, true⟩, ⟨(some 8), (.mv (.tmp 18)), none, true⟩]))))))) (.seq (.reg none [⟨(some 4), (.mv (.val (.int .i64 (-1)))), none, true⟩]) .ret)))
def R34 : List LRes := [(.tmp 4)]
theorem low34 : Try.f34.body.bind (lowerCode Try.prog 19) = some L34 := by kernel_rfl
theorem res34 : lowerRes Try.prog Try.f34.results.toList = some R34 := by kernel_rfl
set_option maxRecDepth 100000 in
def L35 : LC := (.seq (.reg none [⟨(some 1), (.box (.tmp 0)), none, true⟩, ⟨(some 2), (.mv (.val (.bool false))), none, true⟩]) (.seq (.reg (some []) [⟨(some 5), (.addr 0 (.tmp 1)), none, false⟩, ⟨(some 6), (.load 1 false (.tmp 5)), none, false⟩, ⟨(some 7), (.bin .eql (.tmp 6) (.val (.int .i64 1))), none, true⟩, ⟨(some 8), (.addr 0 (.tmp 1)), none, false⟩, ⟨(some 9), (.load 1 false (.tmp 8)), none, false⟩, ⟨(some 10), (.bin .eql (.tmp 9) (.val (.int .i64 5))), none, true⟩, ⟨(some 3), (.mv (.tmp 7)), none, true⟩, ⟨(some 4), (.mv (.tmp 10)), none, true⟩]) (.seq (.reg none [⟨(some 11), (.mv (.tmp 3)), none, true⟩, ⟨(some 12), (.not (.tmp 11)), none, true⟩, ⟨(some 13), (.mv (.tmp 12)), none, true⟩, ⟨(some 14), (.addr 3 (.tmp 1)), (some (13, true)), true⟩, ⟨(some 15), (.load 1 false (.tmp 14)), (some (13, true)), true⟩, ⟨(some 16), (.bin .neq (.tmp 15) (.val (.int .i64 0))), (some (13, true)), true⟩, ⟨(some 17), (.mv (.tmp 16)), (some (13, true)), true⟩, ⟨(some 18), (.addr 4 (.tmp 1)), (some (17, false)), true⟩, ⟨(some 19), (.load 1 false (.tmp 18)), (some (17, false)), true⟩, ⟨(some 20), (.bin .neq (.tmp 19) (.val (.str ⟨#[]⟩))), (some (17, false)), true⟩, ⟨(some 21), (.pick (.tmp 17) (.val (.bool true)) (.tmp 20)), (some (13, true)), true⟩, ⟨(some 22), (.pick (.tmp 13) (.tmp 21) (.val (.bool false))), none, true⟩, ⟨(some 23), (.mv (.tmp 22)), none, true⟩, ⟨(some 24), (.mv (.tmp 3)), (some (23, false)), true⟩, ⟨(some 25), (.mv (.tmp 24)), (some (23, false)), true⟩, ⟨(some 26), (.mv (.tmp 4)), (some (25, false)), true⟩, ⟨(some 27), (.pick (.tmp 25) (.val (.bool true)) (.tmp 26)), (some (23, false)), true⟩, ⟨(some 28), (.mv (.tmp 27)), (some (23, false)), true⟩, ⟨(some 29), (.addr 2 (.tmp 1)), (some (28, true)), true⟩, ⟨(some 30), (.load 1 false (.tmp 29)), (some (28, true)), true⟩, ⟨(some 31), (.bin .neq (.tmp 30) (.val (.int .i64 0))), (some (28, true)), true⟩, ⟨(some 32), (.pick (.tmp 28) (.tmp 31) (.val (.bool false))), (some (23, false)), true⟩, ⟨(some 33), (.pick (.tmp 23) (.val (.bool true)) (.tmp 32)), none, true⟩, ⟨(some 2), (.mv (.tmp 33)), none, true⟩]) .ret)))
def R35 : List LRes := [(.tmp 2)]
theorem low35 : Try.f35.body.bind (lowerCode Try.prog 34) = some L35 := by kernel_rfl
theorem res35 : lowerRes Try.prog Try.f35.results.toList = some R35 := by kernel_rfl
set_option maxRecDepth 100000 in
def L36 : LC := (.seq (.reg none [⟨(some 3), (.box (.tmp 1)), none, true⟩, ⟨(some 4), (.mv (.val (.int .i64 0))), none, true⟩]) (.seq (.seq (.reg none [⟨(some 8), (.addr 0 (.tmp 3)), none, true⟩, ⟨(some 9), (.load 1 false (.tmp 8)), none, true⟩]) (.block 0 (.seq (.reg none [⟨(some 11), (.bin .eql (.tmp 9) (.val (.int .i64 1))), none, true⟩, ⟨(some 10), (.mv (.tmp 11)), none, true⟩]) (.cond (.tmp 10) (.seq (.regS [(33, (3, true)), (38, (5, true))] [(1, 18), (2, 18), (3, 18), (4, 18), (5, 18), (6, 18), (7, 18), (8, 18), (9, 18), (10, 18), (11, 18), (12, 18), (13, 18), (1, 19), (2, 19), (3, 19), (4, 19), (5, 19), (6, 19), (7, 19), (8, 19), (9, 19), (10, 19), (11, 19), (12, 19), (13, 19), (18, 19)] [⟨(some 13), (.mv (.tmp 0)), none, true⟩, ⟨(some 14), (.nilchk (.tmp 13)), none, false⟩, ⟨(some 15), (.addr 0 (.tmp 14)), none, false⟩, ⟨(some 16), (.addr 0 (.tmp 15)), none, false⟩, ⟨(some 17), (.load 1 false (.tmp 16)), none, false⟩, ⟨(some 18), (.addr 1 (.tmp 3)), none, false⟩, ⟨(some 19), (.load 1 false (.tmp 18)), none, false⟩, ⟨(some 20), (.iaddrS 3 (.tmp 17) (.tmp 19)), none, false⟩, ⟨(some 21), (.load 3 true (.tmp 20)), none, false⟩, ⟨(some 22), (.addr 3 (.tmp 3)), none, false⟩, ⟨(some 23), (.load 1 false (.tmp 22)), none, false⟩, ⟨(some 24), (.addr 4 (.tmp 3)), none, false⟩, ⟨(some 25), (.load 1 false (.tmp 24)), none, false⟩, ⟨(some 26), (.call 48 [(.tmp 21), (.tmp 23), (.tmp 25)] 0), none, false⟩, ⟨(some 12), (.mv (.tmp 26)), none, true⟩, ⟨(some 27), (.ext 0 (.tmp 12)), none, true⟩, ⟨(some 28), (.ext 1 (.tmp 12)), none, true⟩, ⟨(some 29), (.ext 2 (.tmp 12)), none, true⟩, ⟨(some 5), (.alloci 33 0 [(.int .i64 0), .nilsl, .nilsl]), none, false⟩, ⟨(some 6), (.alloci 38 1 [(.int .i64 0), (.int .i64 0), (.int .i64 0), (.str ⟨#[]⟩), .nilsl]), none, false⟩, ⟨none, (.store 3 (.tmp 5) (.tmp 27)), none, true⟩, ⟨none, (.store 5 (.tmp 6) (.tmp 28)), none, true⟩, ⟨(some 7), (.mv (.tmp 29)), none, true⟩]) (.seq (.seq (.reg none [⟨(some 30), (.mv (.tmp 7)), none, true⟩, ⟨(some 31), (.bin .neq (.tmp 30) (.val (.int .i64 0))), none, true⟩]) (.cond (.tmp 31) (.seq (.reg none [⟨(some 32), (.mv (.tmp 7)), none, true⟩, ⟨(some 4), (.mv (.tmp 32)), none, true⟩]) .ret) .skip)) (.seq (.reg (some []) [⟨(some 33), (.mv (.tmp 0)), none, true⟩, ⟨(some 34), (.nilchk (.tmp 33)), none, false⟩, ⟨(some 35), (.addr 0 (.tmp 34)), none, false⟩, ⟨(some 36), (.addr 0 (.tmp 35)), none, false⟩, ⟨(some 37), (.load 1 false (.tmp 36)), none, false⟩, ⟨(some 38), (.addr 1 (.tmp 3)), none, false⟩, ⟨(some 39), (.load 1 false (.tmp 38)), none, false⟩, ⟨(some 40), (.load 3 true (.tmp 5)), none, false⟩, ⟨(some 41), (.iaddrS 3 (.tmp 37) (.tmp 39)), none, true⟩, ⟨none, (.store 3 (.tmp 41) (.tmp 40)), none, true⟩]) (.seq (.reg none [⟨(some 42), (.mv (.tmp 0)), none, true⟩, ⟨(some 43), (.addr 1 (.tmp 3)), none, true⟩, ⟨(some 44), (.load 1 false (.tmp 43)), none, true⟩, ⟨(some 45), (.bin .sub (.val (.int .i64 1)) (.tmp 44)), none, true⟩, ⟨(some 46), (.load 5 true (.tmp 6)), none, true⟩, ⟨(some 47), (.call 49 [(.tmp 42), (.tmp 45), (.tmp 46)] 0), none, true⟩]) (.seq (.reg none [⟨(some 4), (.mv (.val (.int .i64 0))), none, true⟩]) .ret))))) (.seq (.reg none [⟨(some 49), (.bin .eql (.tmp 9) (.val (.int .i64 5))), none, true⟩, ⟨(some 48), (.mv (.tmp 49)), none, true⟩]) (.cond (.tmp 48) (.seq (.reg none [⟨(some 50), (.mv (.tmp 0)), none, true⟩, ⟨(some 51), (.addr 1 (.tmp 3)), none, true⟩, ⟨(some 52), (.load 1 false (.tmp 51)), none, true⟩, ⟨(some 53), (.call 14 [(.tmp 50), (.tmp 52)] 0), none, true⟩, ⟨(some 4), (.mv (.tmp 53)), none, true⟩]) .ret) .skip)))))) (.seq (.seq (.reg (some []) [⟨(some 54), (.addr 2 (.tmp 3)), none, true⟩, ⟨(some 55), (.load 1 false (.tmp 54)), none, true⟩, ⟨(some 56), (.bin .lss (.tmp 55) (.val (.int .i64 0))), none, true⟩, ⟨(some 57), (.mv (.tmp 56)), none, true⟩, ⟨(some 58), (.addr 2 (.tmp 3)), (some (57, false)), false⟩, ⟨(some 59), (.load 1 false (.tmp 58)), (some (57, false)), false⟩, ⟨(some 60), (.mv (.tmp 0)), (some (57, false)), true⟩, ⟨(some 61), (.nilchk (.tmp 60)), (some (57, false)), false⟩, ⟨(some 62), (.addr 0 (.tmp 61)), (some (57, false)), false⟩, ⟨(some 63), (.addr 1 (.tmp 62)), (some (57, false)), false⟩, ⟨(some 64), (.load 1 false (.tmp 63)), (some (57, false)), false⟩, ⟨(some 65), (.addr 1 (.tmp 3)), (some (57, false)), false⟩, ⟨(some 66), (.load 1 false (.tmp 65)), (some (57, false)), false⟩, ⟨(some 67), (.iaddrS 1 (.tmp 64) (.tmp 66)), (some (57, false)), false⟩, ⟨(some 68), (.load 1 false (.tmp 67)), (some (57, false)), false⟩, ⟨(some 69), (.len false (.tmp 68)), (some (57, false)), false⟩, ⟨(some 70), (.bin .geq (.tmp 59) (.tmp 69)), (some (57, false)), true⟩, ⟨(some 71), (.pick (.tmp 57) (.val (.bool true)) (.tmp 70)), none, true⟩]) (.cond (.tmp 71) (.seq (.reg none [⟨(some 4), (.mv (.val (.int .i64 5))), none, true⟩]) .ret) .skip)) (.seq (.seq (.reg none [⟨(some 72), (.addr 0 (.tmp 3)), none, true⟩, ⟨(some 73), (.load 1 false (.tmp 72)), none, true⟩]) (.block 1 (.seq (.reg none [⟨(some 75), (.bin .eql (.tmp 73) (.val (.int .i64 2))), none, true⟩, ⟨(some 74), (.mv (.tmp 75)), none, true⟩]) (.cond (.tmp 74) (.seq (.reg (some [(1, 8), (2, 8)]) [⟨(some 76), (.mv (.tmp 0)), none, true⟩, ⟨(some 77), (.addr 1 (.tmp 3)), none, false⟩, ⟨(some 78), (.load 1 false (.tmp 77)), none, false⟩, ⟨(some 79), (.mv (.tmp 0)), none, true⟩, ⟨(some 80), (.addr 1 (.tmp 3)), none, false⟩, ⟨(some 81), (.load 1 false (.tmp 80)), none, false⟩, ⟨(some 82), (.addr 2 (.tmp 3)), none, false⟩, ⟨(some 83), (.load 1 false (.tmp 82)), none, false⟩, ⟨(some 84), (.call 50 [(.tmp 79), (.tmp 81), (.tmp 83)] 3), none, false⟩, ⟨(some 85), (.call 27 [(.tmp 76), (.tmp 78), (.tmp 84)] 0), none, true⟩, ⟨(some 4), (.mv (.tmp 85)), none, true⟩]) .ret) (.seq (.reg none [⟨(some 87), (.bin .eql (.tmp 73) (.val (.int .i64 3))), none, true⟩, ⟨(some 86), (.mv (.tmp 87)), none, true⟩]) (.cond (.tmp 86) (.reg none [⟨(some 88), (.mv (.tmp 0)), none, true⟩, ⟨(some 89), (.addr 1 (.tmp 3)), none, true⟩, ⟨(some 90), (.load 1 false (.tmp 89)), none, true⟩, ⟨(some 91), (.addr 2 (.tmp 3)), none, true⟩, ⟨(some 92), (.load 1 false (.tmp 91)), none, true⟩, ⟨(some 93), (.call 50 [(.tmp 88), (.tmp 90), (.tmp 92)] 3), none, true⟩]) (.seq (.reg none [⟨(some 95), (.bin .eql (.tmp 73) (.val (.int .i64 4))), none, true⟩, ⟨(some 94), (.mv (.tmp 95)), none, true⟩]) (.cond (.tmp 94) (.seq (.reg (some []) [⟨(some 96), (.mv (.tmp 0)), none, true⟩, ⟨(some 97), (.addr 1 (.tmp 3)), none, false⟩, ⟨(some 98), (.load 1 false (.tmp 97)), none, false⟩, ⟨(some 99), (.mv (.tmp 0)), none, true⟩, ⟨(some 100), (.nilchk (.tmp 99)), none, false⟩, ⟨(some 101), (.addr 0 (.tmp 100)), none, false⟩, ⟨(some 102), (.addr 1 (.tmp 101)), none, false⟩, ⟨(some 103), (.load 1 false (.tmp 102)), none, false⟩, ⟨(some 104), (.addr 1 (.tmp 3)), none, false⟩, ⟨(some 105), (.load 1 false (.tmp 104)), none, false⟩, ⟨(some 106), (.iaddrS 1 (.tmp 103) (.tmp 105)), none, false⟩, ⟨(some 107), (.load 1 false (.tmp 106)), none, false⟩, ⟨(some 108), (.addr 2 (.tmp 3)), none, false⟩, ⟨(some 109), (.load 1 false (.tmp 108)), none, false⟩, ⟨(some 110), (.iaddrS 5 (.tmp 107) (.tmp 109)), none, false⟩, ⟨(some 111), (.load 5 true (.tmp 110)), none, false⟩, ⟨(some 112), (.call 49 [(.tmp 96), (.tmp 98), (.tmp 111)] 0), none, true⟩, ⟨(some 113), (.not (.tmp 112)), none, true⟩]) (.cond (.tmp 113) (.seq (.reg none [⟨(some 4), (.mv (.val (.int .i64 2))), none, true⟩]) .ret) .skip)) .skip)))))))) (.seq (.reg none [⟨(some 4), (.mv (.val (.int .i64 0))), none, true⟩]) .ret)))))
def R36 : List LRes := [(.tmp 4)]
theorem low36 : Try.f36.body.bind (lowerCode Try.prog 114) = some L36 := by kernel_rfl
theorem res36 : lowerRes Try.prog Try.f36.results.toList = some R36 := by kernel_rfl
set_option maxRecDepth 100000 in
def L37 : LC := (.seq (.reg none [⟨(some 2), (.mv (.val .nilsl)), none, true⟩]) (.seq (.reg none [⟨(some 3), (.mv (.val .nilsl)), none, true⟩]) (.seq (.seq (.reg none [⟨(some 6), (.mv (.tmp 0)), none, true⟩, ⟨(some 7), (.len false (.tmp 6)), none, true⟩, ⟨(some 8), (.mv (.val (.int .i64 0))), none, true⟩]) (.block 0 (.loop (.seq (.reg none [⟨(some 9), (.bin .lss (.tmp 8) (.tmp 7)), none, true⟩]) (.seq (.cond (.tmp 9) .skip (.exit 0)) (.seq (.block 1 (.seq (.reg none [⟨(some 10), (.iaddrS 5 (.tmp 6) (.tmp 8)), none, true⟩, ⟨(some 11), (.load 5 true (.tmp 10)), none, true⟩, ⟨(some 5), (.alloc [(.int .i64 0), (.int .i64 0), (.int .i64 0), (.str ⟨#[]⟩), .nilsl]), none, true⟩, ⟨none, (.store 5 (.tmp 5) (.tmp 11)), none, true⟩]) (.reg none [⟨(some 12), (.mv (.tmp 3)), none, true⟩, ⟨(some 13), (.load 5 true (.tmp 5)), none, true⟩, ⟨(some 14), (.call 26 [(.tmp 13)] 0), none, true⟩, ⟨(some 15), (.mks 5 [(.int .i64 0), (.int .i64 0), (.int .i64 0), (.str ⟨#[]⟩), .nilsl] 1 [(0, (.tmp 14))]), none, true⟩, ⟨(some 16), (.append 38 5 64 (.tmp 12) (.tmp 15)), none, true⟩, ⟨(some 3), (.mv (.tmp 16)), none, true⟩]))) (.reg none [⟨(some 17), (.bin .add (.tmp 8) (.val (.int .i64 1))), none, true⟩, ⟨(some 8), (.mv (.tmp 17)), none, true⟩]))))))) (.seq (.reg none [⟨(some 18), (.mv (.tmp 3)), none, true⟩, ⟨(some 2), (.mv (.tmp 18)), none, true⟩]) .ret))))
def R37 : List LRes := [(.tmp 2)]
theorem low37 : Try.f37.body.bind (lowerCode Try.prog 19) = some L37 := by kernel_rfl
theorem res37 : lowerRes Try.prog Try.f37.results.toList = some R37 := by kernel_rfl
set_option maxRecDepth 100000 in
def L38 : LC := (.seq (.reg none [⟨(some 2), (.mv (.val .nilsl)), none, true⟩]) (.seq (.seq (.reg none [⟨(some 3), (.mv (.tmp 0)), none, true⟩, ⟨(some 4), (.isnil false (.tmp 3)), none, true⟩]) (.cond (.tmp 4) (.seq (.reg none [⟨(some 2), (.mv (.val .nilsl)), none, true⟩]) .ret) .skip)) (.seq (.reg none [⟨(some 5), (.mk0 35 2), none, true⟩, ⟨(some 6), (.mv (.tmp 0)), none, true⟩, ⟨(some 7), (.append 35 2 16 (.tmp 5) (.tmp 6)), none, true⟩, ⟨(some 2), (.mv (.tmp 7)), none, true⟩]) .ret)))
def R38 : List LRes := [(.tmp 2)]
theorem low38 : Try.f38.body.bind (lowerCode Try.prog 8) = some L38 := by kernel_rfl
theorem res38 : lowerRes Try.prog Try.f38.results.toList = some R38 := by kernel_rfl
set_option maxRecDepth 100000 in
def L39 : LC := (.seq (.reg none [⟨(some 2), (.box (.tmp 0)), none, true⟩, ⟨(some 3), (.box (.tmp 1)), none, true⟩, ⟨(some 4), (.alloc [(.int .i64 0), .nilsl, .nilsl]), none, true⟩, ⟨(some 5), (.mv (.val (.int .i64 0))), none, true⟩]) (.seq (.reg none [⟨(some 9), (.load 3 true (.tmp 2)), none, true⟩, ⟨(some 10), (.call 25 [(.tmp 9)] 0), none, true⟩, ⟨(some 11), (.build [(.int .i64 0), .nilsl, .nilsl] [(0, (3, (.tmp 10)))]), none, true⟩, ⟨(some 12), (.box (.tmp 11)), none, true⟩, ⟨(some 6), (.mv (.tmp 12)), none, true⟩]) (.seq (.seq (.reg none [⟨(some 13), (.addr 1 (.tmp 2)), none, true⟩, ⟨(some 14), (.load 1 false (.tmp 13)), none, true⟩, ⟨(some 15), (.addr 0 (.tmp 3)), none, true⟩, ⟨(some 16), (.load 2 true (.tmp 15)), none, true⟩, ⟨(some 17), (.call 31 [(.tmp 14), (.tmp 16)] 0), none, true⟩, ⟨(some 18), (.bin .geq (.tmp 17) (.val (.int .i64 0))), none, true⟩, ⟨(some 19), (.mv (.tmp 18)), none, true⟩, ⟨(some 20), (.addr 2 (.tmp 2)), (some (19, false)), true⟩, ⟨(some 21), (.load 1 false (.tmp 20)), (some (19, false)), true⟩, ⟨(some 22), (.addr 0 (.tmp 3)), (some (19, false)), true⟩, ⟨(some 23), (.load 2 true (.tmp 22)), (some (19, false)), true⟩, ⟨(some 24), (.call 31 [(.tmp 21), (.tmp 23)] 0), (some (19, false)), true⟩, ⟨(some 25), (.bin .geq (.tmp 24) (.val (.int .i64 0))), (some (19, false)), true⟩, ⟨(some 26), (.pick (.tmp 19) (.val (.bool true)) (.tmp 25)), none, true⟩]) (.cond (.tmp 26) (.seq (.reg none [⟨(some 27), (.mv (.tmp 6)), none, true⟩, ⟨(some 28), (.nilchk (.tmp 27)), none, true⟩, ⟨(some 29), (.addr 0 (.tmp 28)), none, true⟩, ⟨(some 30), (.load 3 true (.tmp 29)), none, true⟩, ⟨none, (.store 3 (.tmp 4) (.tmp 30)), none, true⟩, ⟨(some 5), (.mv (.val (.int .i64 0))), none, true⟩]) .ret) .skip)) (.seq (.seq (.reg none [⟨(some 31), (.addr 0 (.tmp 3)), none, true⟩, ⟨(some 32), (.addr 0 (.tmp 31)), none, true⟩, ⟨(some 33), (.load 1 false (.tmp 32)), none, true⟩, ⟨(some 34), (.addr 0 (.tmp 2)), none, true⟩, ⟨(some 35), (.load 1 false (.tmp 34)), none, true⟩, ⟨(some 36), (.bin .eql (.tmp 33) (.tmp 35)), none, true⟩]) (.cond (.tmp 36) (.seq (.reg none [⟨(some 37), (.build [(.int .i64 0), .nilsl, .nilsl] []), none, true⟩, ⟨none, (.store 3 (.tmp 4) (.tmp 37)), none, true⟩, ⟨(some 5), (.mv (.val (.int .i64 4))), none, true⟩]) .ret) .skip)) (.seq (.reg (some []) [⟨(some 39), (.mv (.tmp 6)), none, true⟩, ⟨(some 40), (.nilchk (.tmp 39)), none, false⟩, ⟨(some 41), (.addr 0 (.tmp 40)), none, false⟩, ⟨(some 42), (.addr 2 (.tmp 41)), none, false⟩, ⟨(some 43), (.load 1 false (.tmp 42)), none, false⟩, ⟨(some 44), (.addr 0 (.tmp 3)), none, false⟩, ⟨(some 45), (.load 2 true (.tmp 44)), none, false⟩, ⟨(some 46), (.call 51 [(.tmp 43), (.tmp 45), (.val (.clo 52 []))] 0), none, true⟩, ⟨(some 38), (.mv (.tmp 46)), none, true⟩, ⟨(some 47), (.ext 0 (.tmp 38)), none, true⟩, ⟨(some 48), (.ext 1 (.tmp 38)), none, true⟩, ⟨(some 7), (.mv (.tmp 47)), none, true⟩, ⟨(some 8), (.mv (.tmp 48)), none, true⟩]) (.seq (.reg (some []) [⟨(some 49), (.mv (.tmp 6)), none, true⟩, ⟨(some 50), (.mv (.tmp 6)), none, true⟩, ⟨(some 51), (.nilchk (.tmp 50)), none, false⟩, ⟨(some 52), (.addr 0 (.tmp 51)), none, false⟩, ⟨(some 53), (.addr 2 (.tmp 52)), none, false⟩, ⟨(some 54), (.load 1 false (.tmp 53)), none, false⟩, ⟨(some 55), (.mv (.tmp 7)), none, true⟩, ⟨(some 56), (.load 5 true (.tmp 3)), none, false⟩, ⟨(some 57), (.call 26 [(.tmp 56)] 0), none, false⟩, ⟨(some 58), (.mks 5 [(.int .i64 0), (.int .i64 0), (.int .i64 0), (.str ⟨#[]⟩), .nilsl] 1 [(0, (.tmp 57))]), none, true⟩, ⟨(some 59), (.call 53 [(.tmp 54), (.tmp 55), (.tmp 58)] 1), none, true⟩, ⟨(some 60), (.nilchk (.tmp 49)), none, true⟩, ⟨(some 61), (.addr 0 (.tmp 60)), none, true⟩, ⟨(some 62), (.addr 2 (.tmp 61)), none, true⟩, ⟨none, (.store 1 (.tmp 62) (.tmp 59)), none, true⟩]) (.seq (.reg none [⟨(some 63), (.mv (.tmp 6)), none, true⟩, ⟨(some 64), (.call 54 [(.tmp 63)] 0), none, true⟩]) (.seq (.seq (.reg none [⟨(some 65), (.mv (.tmp 6)), none, true⟩, ⟨(some 66), (.nilchk (.tmp 65)), none, true⟩, ⟨(some 67), (.addr 0 (.tmp 66)), none, true⟩, ⟨(some 68), (.addr 2 (.tmp 67)), none, true⟩, ⟨(some 69), (.load 1 false (.tmp 68)), none, true⟩, ⟨(some 70), (.len false (.tmp 69)), none, true⟩, ⟨(some 71), (.bin .gtr (.tmp 70) (.val (.int .i64 20))), none, true⟩, ⟨(some 72), (.mv (.tmp 71)), none, true⟩, ⟨(some 73), (.mv (.tmp 6)), (some (72, false)), true⟩, ⟨(some 74), (.nilchk (.tmp 73)), (some (72, false)), true⟩, ⟨(some 75), (.addr 0 (.tmp 74)), (some (72, false)), true⟩, ⟨(some 76), (.addr 1 (.tmp 75)), (some (72, false)), true⟩, ⟨(some 77), (.load 1 false (.tmp 76)), (some (72, false)), true⟩, ⟨(some 78), (.len false (.tmp 77)), (some (72, false)), true⟩, ⟨(some 79), (.bin .gtr (.tmp 78) (.val (.int .i64 40))), (some (72, false)), true⟩, ⟨(some 80), (.pick (.tmp 72) (.val (.bool true)) (.tmp 79)), none, true⟩]) (.cond (.tmp 80) (.seq (.reg none [⟨(some 81), (.build [(.int .i64 0), .nilsl, .nilsl] []), none, true⟩, ⟨none, (.store 3 (.tmp 4) (.tmp 81)), none, true⟩, ⟨(some 5), (.mv (.val (.int .i64 2))), none, true⟩]) .ret) .skip)) (.seq (.reg none [⟨(some 82), (.mv (.tmp 6)), none, true⟩, ⟨(some 83), (.nilchk (.tmp 82)), none, true⟩, ⟨(some 84), (.addr 0 (.tmp 83)), none, true⟩, ⟨(some 85), (.load 3 true (.tmp 84)), none, true⟩, ⟨none, (.store 3 (.tmp 4) (.tmp 85)), none, true⟩, ⟨(some 5), (.mv (.val (.int .i64 0))), none, true⟩]) .ret)))))))))
def R39 : List LRes := [(.cell 4 3 true), (.tmp 5)]
theorem low39 : Try.f39.body.bind (lowerCode Try.prog 86) = some L39 := by kernel_rfl
theorem res39 : lowerRes Try.prog Try.f39.results.toList = some R39 := by kernel_rfl
set_option maxRecDepth 100000 in
def L40 : LC := (.seq (.reg none [⟨(some 2), (.alloc [(.int .i64 0), (.int .i64 0)]), none, true⟩]) (.seq (.reg none [⟨(some 3), (.alloc [(.int .i64 0), (.int .i64 0)]), none, true⟩]) (.seq (.seq (.reg none [⟨(some 6), (.mv (.tmp 0)), none, true⟩, ⟨(some 7), (.len false (.tmp 6)), none, true⟩, ⟨(some 8), (.mv (.val (.int .i64 0))), none, true⟩]) (.block 0 (.loop (.seq (.reg none [⟨(some 9), (.bin .lss (.tmp 8) (.tmp 7)), none, true⟩]) (.seq (.cond (.tmp 9) .skip (.exit 0)) (.seq (.block 1 (.seq (.reg none [⟨(some 10), (.iaddrS 5 (.tmp 6) (.tmp 8)), none, true⟩, ⟨(some 11), (.load 5 true (.tmp 10)), none, true⟩, ⟨(some 5), (.alloc [(.int .i64 0), (.int .i64 0), (.int .i64 0), (.str ⟨#[]⟩), .nilsl]), none, true⟩, ⟨none, (.store 5 (.tmp 5) (.tmp 11)), none, true⟩]) (.reg none [⟨(some 12), (.addr 0 (.tmp 5)), none, true⟩, ⟨(some 13), (.addr 0 (.tmp 12)), none, true⟩, ⟨(some 14), (.load 1 false (.tmp 13)), none, true⟩, ⟨(some 15), (.iaddrA 1 2 (.tmp 3) (.tmp 14)), none, true⟩, ⟨(some 16), (.load 1 false (.tmp 15)), none, true⟩, ⟨(some 17), (.bin .add (.tmp 16) (.val (.int .i64 1))), none, true⟩, ⟨(some 18), (.iaddrA 1 2 (.tmp 3) (.tmp 14)), none, true⟩, ⟨none, (.store 1 (.tmp 18) (.tmp 17)), none, true⟩]))) (.reg none [⟨(some 19), (.bin .add (.tmp 8) (.val (.int .i64 1))), none, true⟩, ⟨(some 8), (.mv (.tmp 19)), none, true⟩]))))))) (.seq (.reg none [⟨(some 20), (.load 2 true (.tmp 3)), none, true⟩, ⟨none, (.store 2 (.tmp 2) (.tmp 20)), none, true⟩]) .ret))))
def R40 : List LRes := [(.cell 2 2 true)]
theorem low40 : Try.f40.body.bind (lowerCode Try.prog 21) = some L40 := by kernel_rfl
theorem res40 : lowerRes Try.prog Try.f40.results.toList = some R40 := by kernel_rfl
set_option maxRecDepth 100000 in
def L41 : LC := (.seq (.reg none [⟨(some 1), (.box (.tmp 0)), none, true⟩, ⟨(some 2), (.mv (.val (.bool false))), none, true⟩]) (.seq (.reg none [⟨(some 3), (.addr 0 (.tmp 1)), none, true⟩, ⟨(some 4), (.load 1 false (.tmp 3)), none, true⟩, ⟨(some 5), (.call 55 [(.tmp 4), (.val (.int .i64 0)), (.val (.int .i64 1))] 0), none, true⟩, ⟨(some 6), (.mv (.tmp 5)), none, true⟩, ⟨(some 7), (.addr 1 (.tmp 1)), (some (6, true)), true⟩, ⟨(some 8), (.load 1 false (.tmp 7)), (some (6, true)), true⟩, ⟨(some 9), (.call 55 [(.tmp 8), (.val (.int .i64 1)), (.val (.int .i64 20))] 0), (some (6, true)), true⟩, ⟨(some 10), (.pick (.tmp 6) (.tmp 9) (.val (.bool false))), none, true⟩, ⟨(some 2), (.mv (.tmp 10)), none, true⟩]) .ret))
def R41 : List LRes := [(.tmp 2)]
theorem low41 : Try.f41.body.bind (lowerCode Try.prog 11) = some L41 := by kernel_rfl
theorem res41 : lowerRes Try.prog Try.f41.results.toList = some R41 := by kernel_rfl
set_option maxRecDepth 100000 in
def L42 : LC := (.seq (.reg none [⟨(some 2), (.mv (.val (.bool false))), none, true⟩]) (.seq (.reg none [⟨(some 3), (.mv (.tmp 0)), none, true⟩, ⟨(some 4), (.call 55 [(.tmp 3), (.val (.int .i64 1)), (.val (.int .i64 7))] 0), none, true⟩, ⟨(some 2), (.mv (.tmp 4)), none, true⟩]) .ret))
def R42 : List LRes := [(.tmp 2)]
theorem low42 : Try.f42.body.bind (lowerCode Try.prog 5) = some L42 := by kernel_rfl
theorem res42 : lowerRes Try.prog Try.f42.results.toList = some R42 := by kernel_rfl
set_option maxRecDepth 100000 in
def L43 : LC := (.seq (.reg none [⟨(some 2), (.box (.tmp 0)), none, true⟩, ⟨(some 3), (.box (.tmp 1)), none, true⟩, ⟨(some 4), (.mv (.val (.int .i64 0))), none, true⟩]) (.seq (.reg none [⟨(some 5), (.mv (.val (.clo 56 []))), none, true⟩]) (.seq (.seq (.reg none [⟨(some 7), (.mv (.tmp 5)), none, true⟩, ⟨(some 8), (.addr 0 (.tmp 2)), none, true⟩, ⟨(some 9), (.load 1 false (.tmp 8)), none, true⟩, ⟨(some 10), (.addr 0 (.tmp 3)), none, true⟩, ⟨(some 11), (.load 1 false (.tmp 10)), none, true⟩, ⟨(some 12), (.callv (.tmp 7) [(.tmp 9), (.tmp 11)]), none, true⟩, ⟨(some 6), (.mv (.tmp 12)), none, true⟩]) (.seq (.reg none [⟨(some 13), (.mv (.tmp 6)), none, true⟩, ⟨(some 14), (.bin .neq (.tmp 13) (.val (.int .i64 0))), none, true⟩]) (.cond (.tmp 14) (.seq (.reg none [⟨(some 15), (.mv (.tmp 6)), none, true⟩, ⟨(some 4), (.mv (.tmp 15)), none, true⟩]) .ret) .skip))) (.seq (.reg none [⟨(some 16), (.mv (.tmp 5)), none, true⟩, ⟨(some 17), (.addr 1 (.tmp 2)), none, true⟩, ⟨(some 18), (.load 1 false (.tmp 17)), none, true⟩, ⟨(some 19), (.addr 1 (.tmp 3)), none, true⟩, ⟨(some 20), (.load 1 false (.tmp 19)), none, true⟩, ⟨(some 21), (.callv (.tmp 16) [(.tmp 18), (.tmp 20)]), none, true⟩, ⟨(some 4), (.mv (.tmp 21)), none, true⟩]) .ret))))
def R43 : List LRes := [(.tmp 4)]
theorem low43 : Try.f43.body.bind (lowerCode Try.prog 22) = some L43 := by kernel_rfl
theorem res43 : lowerRes Try.prog Try.f43.results.toList = some R43 := by kernel_rfl
set_option maxRecDepth 100000 in
def L44 : LC := (.seq (.reg none [⟨(some 2), (.box (.tmp 0)), none, true⟩, ⟨(some 3), (.mv (.val (.bool false))), none, true⟩]) (.seq (.reg none [⟨(some 4), (.addr 0 (.tmp 2)), none, true⟩, ⟨(some 5), (.load 2 true (.tmp 4)), none, true⟩, ⟨(some 6), (.load 2 true (.tmp 1)), none, true⟩, ⟨(some 7), (.eqag false [.i, .i] (.tmp 5) (.tmp 6)), none, true⟩, ⟨(some 3), (.mv (.tmp 7)), none, true⟩]) .ret))
def R44 : List LRes := [(.tmp 3)]
theorem low44 : Try.f44.body.bind (lowerCode Try.prog 8) = some L44 := by kernel_rfl
theorem res44 : lowerRes Try.prog Try.f44.results.toList = some R44 := by kernel_rfl
set_option maxRecDepth 100000 in
def L45 : LC := (.seq (.reg none [⟨(some 4), (.mv (.val (.bool false))), none, true⟩]) (.seq (.reg none [⟨(some 5), (.mv (.tmp 0)), none, true⟩, ⟨(some 6), (.mv (.tmp 1)), none, true⟩, ⟨(some 7), (.call 57 [(.tmp 5), (.tmp 6)] 0), none, true⟩, ⟨(some 8), (.bin .geq (.tmp 7) (.val (.int .i64 0))), none, true⟩, ⟨(some 4), (.mv (.tmp 8)), none, true⟩]) .ret))
def R45 : List LRes := [(.tmp 4)]
theorem low45 : Try.f45.body.bind (lowerCode Try.prog 9) = some L45 := by kernel_rfl
theorem res45 : lowerRes Try.prog Try.f45.results.toList = some R45 := by kernel_rfl
set_option maxRecDepth 100000 in
def L46 : LC := (.seq (.reg none [⟨(some 2), (.box (.tmp 0)), none, true⟩, ⟨(some 3), (.mv (.val (.bool false))), none, true⟩]) (.seq (.reg none [⟨(some 4), (.load 1 false (.tmp 1)), none, true⟩, ⟨(some 5), (.load 2 true (.tmp 2)), none, true⟩, ⟨(some 6), (.call 31 [(.tmp 4), (.tmp 5)] 0), none, true⟩, ⟨(some 7), (.bin .lss (.tmp 6) (.val (.int .i64 0))), none, true⟩, ⟨(some 3), (.mv (.tmp 7)), none, true⟩]) .ret))
def R46 : List LRes := [(.tmp 3)]
theorem low46 : Try.f46.body.bind (lowerCode Try.prog 8) = some L46 := by kernel_rfl
theorem res46 : lowerRes Try.prog Try.f46.results.toList = some R46 := by kernel_rfl
set_option maxRecDepth 100000 in
def L47 : LC := (.seq (.reg none [⟨(some 4), (.mv (.val (.bool false))), none, true⟩]) (.seq (.seq (.reg none [⟨(some 6), (.mv (.tmp 0)), none, true⟩, ⟨(some 7), (.len false (.tmp 6)), none, true⟩, ⟨(some 8), (.mv (.tmp 1)), none, true⟩, ⟨(some 9), (.len false (.tmp 8)), none, true⟩, ⟨(some 10), (.bin .neq (.tmp 7) (.tmp 9)), none, true⟩]) (.cond (.tmp 10) (.seq (.reg none [⟨(some 4), (.mv (.val (.bool false))), none, true⟩]) .ret) .skip)) (.seq (.seq (.reg none [⟨(some 11), (.mv (.tmp 0)), none, true⟩, ⟨(some 12), (.len false (.tmp 11)), none, true⟩, ⟨(some 13), (.mv (.val (.int .i64 0))), none, true⟩]) (.block 0 (.loop (.seq (.reg none [⟨(some 14), (.bin .lss (.tmp 13) (.tmp 12)), none, true⟩]) (.seq (.cond (.tmp 14) .skip (.exit 0)) (.seq (.block 1 (.seq (.reg none [⟨(some 15), (.mv (.tmp 13)), none, true⟩, ⟨(some 5), (.mv (.tmp 15)), none, true⟩]) (.seq (.reg (some []) [⟨(some 16), (.mv (.tmp 0)), none, true⟩, ⟨(some 17), (.mv (.tmp 5)), none, true⟩, ⟨(some 18), (.iaddrS 2 (.tmp 16) (.tmp 17)), none, false⟩, ⟨(some 19), (.load 2 true (.tmp 18)), none, false⟩, ⟨(some 20), (.mv (.tmp 1)), none, true⟩, ⟨(some 21), (.mv (.tmp 5)), none, true⟩, ⟨(some 22), (.iaddrS 2 (.tmp 20) (.tmp 21)), none, false⟩, ⟨(some 23), (.load 2 true (.tmp 22)), none, false⟩, ⟨(some 24), (.eqag true [.i, .i] (.tmp 19) (.tmp 23)), none, true⟩]) (.cond (.tmp 24) (.seq (.reg none [⟨(some 4), (.mv (.val (.bool false))), none, true⟩]) .ret) .skip)))) (.reg none [⟨(some 25), (.bin .add (.tmp 13) (.val (.int .i64 1))), none, true⟩, ⟨(some 13), (.mv (.tmp 25)), none, true⟩]))))))) (.seq (.reg none [⟨(some 4), (.mv (.val (.bool true))), none, true⟩]) .ret))))
def R47 : List LRes := [(.tmp 4)]
theorem low47 : Try.f47.body.bind (lowerCode Try.prog 26) = some L47 := by kernel_rfl
theorem res47 : lowerRes Try.prog Try.f47.results.toList = some R47 := by kernel_rfl
set_option maxRecDepth 100000 in
def L48 : LC := (.seq (.reg none [⟨(some 3), (.box (.tmp 0)), none, true⟩, ⟨(some 6), (.alloc [(.int .i64 0), .nilsl, .nilsl]), none, true⟩, ⟨(some 7), (.alloc [(.int .i64 0), (.int .i64 0), (.int .i64 0), (.str ⟨#[]⟩), .nilsl]), none, true⟩, ⟨(some 8), (.mv (.val (.int .i64 0))), none, true⟩]) (.seq (.seq (.reg none [⟨(some 10), (.load 3 true (.tmp 3)), none, true⟩, ⟨(some 11), (.call 17 [(.tmp 10)] 0), none, true⟩, ⟨(some 9), (.mv (.tmp 11)), none, true⟩]) (.seq (.reg none [⟨(some 12), (.mv (.tmp 9)), none, true⟩, ⟨(some 13), (.bin .neq (.tmp 12) (.val (.int .i64 0))), none, true⟩]) (.cond (.tmp 13) (.seq (.reg none [⟨(some 14), (.build [(.int .i64 0), .nilsl, .nilsl] []), none, true⟩, ⟨(some 15), (.build [(.int .i64 0), (.int .i64 0), (.int .i64 0), (.str ⟨#[]⟩), .nilsl] []), none, true⟩, ⟨(some 16), (.mv (.tmp 9)), none, true⟩, ⟨none, (.store 3 (.tmp 6) (.tmp 14)), none, true⟩, ⟨none, (.store 5 (.tmp 7) (.tmp 15)), none, true⟩, ⟨(some 8), (.mv (.tmp 16)), none, true⟩]) .ret) .skip))) (.seq (.reg none [⟨(some 17), (.load 3 true (.tmp 3)), none, true⟩, ⟨(some 18), (.mv (.tmp 1)), none, true⟩, ⟨(some 19), (.mv (.tmp 2)), none, true⟩, ⟨(some 20), (.call 58 [(.tmp 17), (.tmp 18), (.tmp 19)] 0), none, true⟩, ⟨(some 21), (.ext 0 (.tmp 20)), none, true⟩, ⟨(some 22), (.ext 1 (.tmp 20)), none, true⟩, ⟨(some 23), (.ext 2 (.tmp 20)), none, true⟩, ⟨none, (.store 3 (.tmp 6) (.tmp 21)), none, true⟩, ⟨none, (.store 5 (.tmp 7) (.tmp 22)), none, true⟩, ⟨(some 8), (.mv (.tmp 23)), none, true⟩]) .ret)))
def R48 : List LRes := [(.cell 6 3 true), (.cell 7 5 true), (.tmp 8)]
theorem low48 : Try.f48.body.bind (lowerCode Try.prog 24) = some L48 := by kernel_rfl
theorem res48 : lowerRes Try.prog Try.f48.results.toList = some R48 := by kernel_rfl
set_option maxRecDepth 100000 in
def L49 : LC := (.seq (.reg none [⟨(some 5), (.box (.tmp 2)), none, true⟩, ⟨(some 6), (.mv (.val (.bool false))), none, true⟩]) (.seq (.seq (.reg none [⟨(some 7), (.mv (.tmp 0)), none, true⟩, ⟨(some 8), (.nilchk (.tmp 7)), none, true⟩, ⟨(some 9), (.addr 0 (.tmp 8)), none, true⟩, ⟨(some 10), (.addr 1 (.tmp 9)), none, true⟩, ⟨(some 11), (.load 1 false (.tmp 10)), none, true⟩, ⟨(some 12), (.mv (.tmp 1)), none, true⟩, ⟨(some 13), (.iaddrS 1 (.tmp 11) (.tmp 12)), none, true⟩, ⟨(some 14), (.load 1 false (.tmp 13)), none, true⟩, ⟨(some 15), (.len false (.tmp 14)), none, true⟩, ⟨(some 16), (.bin .eql (.tmp 15) (.val (.int .i64 30))), none, true⟩]) (.cond (.tmp 16) (.seq (.reg none [⟨(some 6), (.mv (.val (.bool false))), none, true⟩]) .ret) .skip)) (.seq (.reg (some [(1, 17), (2, 17), (3, 17), (4, 17)]) [⟨(some 17), (.mv (.tmp 0)), none, true⟩, ⟨(some 18), (.nilchk (.tmp 17)), none, false⟩, ⟨(some 19), (.addr 0 (.tmp 18)), none, false⟩, ⟨(some 20), (.addr 1 (.tmp 19)), none, false⟩, ⟨(some 21), (.load 1 false (.tmp 20)), none, false⟩, ⟨(some 22), (.mv (.tmp 1)), none, true⟩, ⟨(some 23), (.mv (.tmp 0)), none, true⟩, ⟨(some 24), (.nilchk (.tmp 23)), none, false⟩, ⟨(some 25), (.addr 0 (.tmp 24)), none, false⟩, ⟨(some 26), (.addr 1 (.tmp 25)), none, false⟩, ⟨(some 27), (.load 1 false (.tmp 26)), none, false⟩, ⟨(some 28), (.mv (.tmp 1)), none, true⟩, ⟨(some 29), (.iaddrS 1 (.tmp 27) (.tmp 28)), none, false⟩, ⟨(some 30), (.load 1 false (.tmp 29)), none, false⟩, ⟨(some 31), (.load 5 true (.tmp 5)), none, false⟩, ⟨(some 32), (.call 26 [(.tmp 31)] 0), none, false⟩, ⟨(some 33), (.mks 5 [(.int .i64 0), (.int .i64 0), (.int .i64 0), (.str ⟨#[]⟩), .nilsl] 1 [(0, (.tmp 32))]), none, true⟩, ⟨(some 34), (.append 38 5 64 (.tmp 30) (.tmp 33)), none, false⟩, ⟨(some 35), (.iaddrS 1 (.tmp 21) (.tmp 22)), none, true⟩, ⟨none, (.store 1 (.tmp 35) (.tmp 34)), none, true⟩]) (.seq (.reg none [⟨(some 6), (.mv (.val (.bool true))), none, true⟩]) .ret))))
def R49 : List LRes := [(.tmp 6)]
theorem low49 : Try.f49.body.bind (lowerCode Try.prog 36) = some L49 := by kernel_rfl
theorem res49 : lowerRes Try.prog Try.f49.results.toList = some R49 := by kernel_rfl
set_option maxRecDepth 100000 in
def L50 : LC := (.seq (.reg none [⟨(some 6), (.alloc [(.int .i64 0), (.int .i64 0), (.int .i64 0), (.str ⟨#[]⟩), .nilsl]), none, true⟩]) (.seq (.reg none [⟨(some 8), (.mv (.tmp 0)), none, true⟩, ⟨(some 9), (.nilchk (.tmp 8)), none, true⟩, ⟨(some 10), (.addr 0 (.tmp 9)), none, true⟩, ⟨(some 11), (.addr 1 (.tmp 10)), none, true⟩, ⟨(some 12), (.load 1 false (.tmp 11)), none, true⟩, ⟨(some 13), (.mv (.tmp 1)), none, true⟩, ⟨(some 14), (.iaddrS 1 (.tmp 12) (.tmp 13)), none, true⟩, ⟨(some 15), (.load 1 false (.tmp 14)), none, true⟩, ⟨(some 16), (.mv (.tmp 2)), none, true⟩, ⟨(some 17), (.iaddrS 5 (.tmp 15) (.tmp 16)), none, true⟩, ⟨(some 18), (.load 5 true (.tmp 17)), none, true⟩, ⟨(some 7), (.alloc [(.int .i64 0), (.int .i64 0), (.int .i64 0), (.str ⟨#[]⟩), .nilsl]), none, true⟩, ⟨none, (.store 5 (.tmp 7) (.tmp 18)), none, true⟩]) (.seq (.reg (some [(1, 17), (2, 17), (3, 17), (4, 17)]) [⟨(some 19), (.mv (.tmp 0)), none, true⟩, ⟨(some 20), (.nilchk (.tmp 19)), none, false⟩, ⟨(some 21), (.addr 0 (.tmp 20)), none, false⟩, ⟨(some 22), (.addr 1 (.tmp 21)), none, false⟩, ⟨(some 23), (.load 1 false (.tmp 22)), none, false⟩, ⟨(some 24), (.mv (.tmp 1)), none, true⟩, ⟨(some 25), (.mv (.tmp 0)), none, true⟩, ⟨(some 26), (.nilchk (.tmp 25)), none, false⟩, ⟨(some 27), (.addr 0 (.tmp 26)), none, false⟩, ⟨(some 28), (.addr 1 (.tmp 27)), none, false⟩, ⟨(some 29), (.load 1 false (.tmp 28)), none, false⟩, ⟨(some 30), (.mv (.tmp 1)), none, true⟩, ⟨(some 31), (.iaddrS 1 (.tmp 29) (.tmp 30)), none, false⟩, ⟨(some 32), (.load 1 false (.tmp 31)), none, false⟩, ⟨(some 33), (.mv (.tmp 2)), none, true⟩, ⟨(some 34), (.mv (.tmp 2)), none, true⟩, ⟨(some 35), (.bin .add (.tmp 34) (.val (.int .i64 1))), none, true⟩, ⟨(some 36), (.call 59 [(.tmp 32), (.tmp 33), (.tmp 35)] 1), none, false⟩, ⟨(some 37), (.iaddrS 1 (.tmp 23) (.tmp 24)), none, true⟩, ⟨none, (.store 1 (.tmp 37) (.tmp 36)), none, true⟩]) (.seq (.reg none [⟨(some 38), (.load 5 true (.tmp 7)), none, true⟩, ⟨none, (.store 5 (.tmp 6) (.tmp 38)), none, true⟩]) .ret))))
def R50 : List LRes := [(.cell 6 5 true)]
theorem low50 : Try.f50.body.bind (lowerCode Try.prog 39) = some L50 := by kernel_rfl
theorem res50 : lowerRes Try.prog Try.f50.results.toList = some R50 := by kernel_rfl
set_option maxRecDepth 100000 in
def L51 : LC := (.seq (.reg none [⟨(some 4), (.box (.tmp 1)), none, true⟩, ⟨(some 6), (.mv (.val (.int .i64 0))), none, true⟩, ⟨(some 7), (.mv (.val (.bool false))), none, true⟩]) (.seq (.reg none [⟨(some 12), (.mv (.tmp 0)), none, true⟩, ⟨(some 13), (.len false (.tmp 12)), none, true⟩, ⟨(some 8), (.mv (.tmp 13)), none, true⟩]) (.seq (.reg none [⟨(some 14), (.mv (.tmp 8)), none, true⟩, ⟨(some 9), (.mv (.val (.int .i64 0))), none, true⟩, ⟨(some 10), (.mv (.tmp 14)), none, true⟩]) (.seq (.block 0 (.loop (.seq (.seq (.reg none [⟨(some 15), (.mv (.tmp 9)), none, true⟩, ⟨(some 16), (.mv (.tmp 10)), none, true⟩, ⟨(some 17), (.bin .lss (.tmp 15) (.tmp 16)), none, true⟩]) (.cond (.tmp 17) .skip (.exit 0))) (.block 1 (.seq (.reg none [⟨(some 18), (.mv (.tmp 9)), none, true⟩, ⟨(some 19), (.mv (.tmp 10)), none, true⟩, ⟨(some 20), (.bin .add (.tmp 18) (.tmp 19)), none, true⟩, ⟨(some 21), (.conv .u64 (.tmp 20)), none, true⟩, ⟨(some 22), (.bin .shr (.tmp 21) (.val (.int .u64 1))), none, true⟩, ⟨(some 23), (.conv .i64 (.tmp 22)), none, true⟩, ⟨(some 11), (.mv (.tmp 23)), none, true⟩]) (.seq (.reg (some []) [⟨(some 24), (.mv (.tmp 2)), none, true⟩, ⟨(some 25), (.mv (.tmp 0)), none, true⟩, ⟨(some 26), (.mv (.tmp 11)), none, true⟩, ⟨(some 27), (.iaddrS 5 (.tmp 25) (.tmp 26)), none, false⟩, ⟨(some 28), (.load 5 true (.tmp 27)), none, false⟩, ⟨(some 29), (.load 2 true (.tmp 4)), none, false⟩, ⟨(some 30), (.callv (.tmp 24) [(.tmp 28), (.tmp 29)]), none, true⟩, ⟨(some 31), (.bin .lss (.tmp 30) (.val (.int .i64 0))), none, true⟩]) (.cond (.tmp 31) (.reg none [⟨(some 32), (.mv (.tmp 11)), none, true⟩, ⟨(some 33), (.bin .add (.tmp 32) (.val (.int .i64 1))), none, true⟩, ⟨(some 9), (.mv (.tmp 33)), none, true⟩]) (.reg none [⟨(some 34), (.mv (.tmp 11)), none, true⟩, ⟨(some 10), (.mv (.tmp 34)), none, true⟩])))))))) (.seq (.reg (some []) [⟨(some 35), (.mv (.tmp 9)), none, true⟩, ⟨(some 36), (.mv (.tmp 9)), none, true⟩, ⟨(some 37), (.mv (.tmp 8)), none, true⟩, ⟨(some 38), (.bin .lss (.tmp 36) (.tmp 37)), none, true⟩, ⟨(some 39), (.mv (.tmp 38)), none, true⟩, ⟨(some 40), (.mv (.tmp 2)), (some (39, true)), true⟩, ⟨(some 41), (.mv (.tmp 0)), (some (39, true)), true⟩, ⟨(some 42), (.mv (.tmp 9)), (some (39, true)), true⟩, ⟨(some 43), (.iaddrS 5 (.tmp 41) (.tmp 42)), (some (39, true)), false⟩, ⟨(some 44), (.load 5 true (.tmp 43)), (some (39, true)), false⟩, ⟨(some 45), (.load 2 true (.tmp 4)), (some (39, true)), false⟩, ⟨(some 46), (.callv (.tmp 40) [(.tmp 44), (.tmp 45)]), (some (39, true)), true⟩, ⟨(some 47), (.bin .eql (.tmp 46) (.val (.int .i64 0))), (some (39, true)), true⟩, ⟨(some 48), (.pick (.tmp 39) (.tmp 47) (.val (.bool false))), none, true⟩, ⟨(some 6), (.mv (.tmp 35)), none, true⟩, ⟨(some 7), (.mv (.tmp 48)), none, true⟩]) .ret)))))
def R51 : List LRes := [(.tmp 6), (.tmp 7)]
theorem low51 : Try.f51.body.bind (lowerCode Try.prog 49) = some L51 := by kernel_rfl
theorem res51 : lowerRes Try.prog Try.f51.results.toList = some R51 := by kernel_rfl
set_option maxRecDepth 100000 in
def L52 : LC := (.seq (.reg none [⟨(some 2), (.box (.tmp 0)), none, true⟩, ⟨(some 3), (.box (.tmp 1)), none, true⟩, ⟨(some 4), (.mv (.val (.int .i64 0))), none, true⟩]) (.seq (.reg none [⟨(some 5), (.addr 0 (.tmp 2)), none, true⟩, ⟨(some 6), (.load 2 true (.tmp 5)), none, true⟩, ⟨(some 7), (.load 2 true (.tmp 3)), none, true⟩, ⟨(some 8), (.call 43 [(.tmp 6), (.tmp 7)] 0), none, true⟩, ⟨(some 4), (.mv (.tmp 8)), none, true⟩]) .ret))
def R52 : List LRes := [(.tmp 4)]
theorem low52 : Try.f52.body.bind (lowerCode Try.prog 9) = some L52 := by kernel_rfl
theorem res52 : lowerRes Try.prog Try.f52.results.toList = some R52 := by kernel_rfl
set_option maxRecDepth 100000 in
def L54 : LC := (.seq (.reg none [⟨(some 1), (.box (.tmp 0)), none, true⟩]) (.seq (.reg none [⟨(some 4), (.clo 62 [(.tmp 1)]), none, true⟩, ⟨(some 2), (.mv (.tmp 4)), none, true⟩]) (.seq (.reg none [⟨(some 5), (.load 1 false (.tmp 1)), none, true⟩, ⟨(some 6), (.nilchk (.tmp 5)), none, true⟩, ⟨(some 7), (.addr 0 (.tmp 6)), none, true⟩, ⟨(some 8), (.addr 2 (.tmp 7)), none, true⟩, ⟨(some 9), (.load 1 false (.tmp 8)), none, true⟩, ⟨(some 10), (.mv (.tmp 2)), none, true⟩, ⟨(some 11), (.call 34 [(.tmp 9), (.tmp 10)] 0), none, true⟩, ⟨(some 3), (.mv (.tmp 11)), none, true⟩]) (.block 0 (.loop (.seq (.seq (.reg none [⟨(some 12), (.mv (.tmp 3)), none, true⟩, ⟨(some 13), (.bin .geq (.tmp 12) (.val (.int .i64 0))), none, true⟩]) (.cond (.tmp 13) .skip (.exit 0))) (.seq (.block 1 (.seq (.reg (some [(0, 15)]) [⟨(some 21), (.load 1 false (.tmp 1)), none, false⟩, ⟨(some 22), (.load 1 false (.tmp 1)), none, false⟩, ⟨(some 23), (.nilchk (.tmp 22)), none, false⟩, ⟨(some 24), (.addr 0 (.tmp 23)), none, false⟩, ⟨(some 25), (.addr 1 (.tmp 24)), none, false⟩, ⟨(some 26), (.load 1 false (.tmp 25)), none, false⟩, ⟨(some 27), (.load 1 false (.tmp 1)), none, false⟩, ⟨(some 28), (.nilchk (.tmp 27)), none, false⟩, ⟨(some 29), (.addr 0 (.tmp 28)), none, false⟩, ⟨(some 30), (.addr 2 (.tmp 29)), none, false⟩, ⟨(some 31), (.load 1 false (.tmp 30)), none, false⟩, ⟨(some 32), (.mv (.tmp 3)), none, true⟩, ⟨(some 33), (.iaddrS 5 (.tmp 31) (.tmp 32)), none, false⟩, ⟨(some 34), (.load 5 true (.tmp 33)), none, false⟩, ⟨(some 35), (.mks 5 [(.int .i64 0), (.int .i64 0), (.int .i64 0), (.str ⟨#[]⟩), .nilsl] 1 [(0, (.tmp 34))]), none, true⟩, ⟨(some 36), (.append 38 5 64 (.tmp 26) (.tmp 35)), none, false⟩, ⟨(some 37), (.nilchk (.tmp 21)), none, true⟩, ⟨(some 38), (.addr 0 (.tmp 37)), none, true⟩, ⟨(some 39), (.addr 1 (.tmp 38)), none, true⟩, ⟨none, (.store 1 (.tmp 39) (.tmp 36)), none, true⟩]) (.reg (some [(0, 9)]) [⟨(some 40), (.load 1 false (.tmp 1)), none, false⟩, ⟨(some 41), (.load 1 false (.tmp 1)), none, false⟩, ⟨(some 42), (.nilchk (.tmp 41)), none, false⟩, ⟨(some 43), (.addr 0 (.tmp 42)), none, false⟩, ⟨(some 44), (.addr 2 (.tmp 43)), none, false⟩, ⟨(some 45), (.load 1 false (.tmp 44)), none, false⟩, ⟨(some 46), (.mv (.tmp 3)), none, true⟩, ⟨(some 47), (.mv (.tmp 3)), none, true⟩, ⟨(some 48), (.bin .add (.tmp 47) (.val (.int .i64 1))), none, true⟩, ⟨(some 49), (.call 59 [(.tmp 45), (.tmp 46), (.tmp 48)] 1), none, false⟩, ⟨(some 50), (.nilchk (.tmp 40)), none, true⟩, ⟨(some 51), (.addr 0 (.tmp 50)), none, true⟩, ⟨(some 52), (.addr 2 (.tmp 51)), none, true⟩, ⟨none, (.store 1 (.tmp 52) (.tmp 49)), none, true⟩]))) (.reg none [⟨(some 14), (.load 1 false (.tmp 1)), none, true⟩, ⟨(some 15), (.nilchk (.tmp 14)), none, true⟩, ⟨(some 16), (.addr 0 (.tmp 15)), none, true⟩, ⟨(some 17), (.addr 2 (.tmp 16)), none, true⟩, ⟨(some 18), (.load 1 false (.tmp 17)), none, true⟩, ⟨(some 19), (.mv (.tmp 2)), none, true⟩, ⟨(some 20), (.call 34 [(.tmp 18), (.tmp 19)] 0), none, true⟩, ⟨(some 3), (.mv (.tmp 20)), none, true⟩]))))))))
def R54 : List LRes := []
theorem low54 : Try.f54.body.bind (lowerCode Try.prog 53) = some L54 := by kernel_rfl
theorem res54 : lowerRes Try.prog Try.f54.results.toList = some R54 := by kernel_rfl
set_option maxRecDepth 100000 in
def L55 : LC := (.seq (.reg none [⟨(some 6), (.mv (.val (.bool false))), none, true⟩]) (.seq (.reg none [⟨(some 7), (.mv (.tmp 0)), none, true⟩, ⟨(some 8), (.mv (.tmp 1)), none, true⟩, ⟨(some 9), (.bin .geq (.tmp 7) (.tmp 8)), none, true⟩, ⟨(some 10), (.mv (.tmp 9)), none, true⟩, ⟨(some 11), (.mv (.tmp 0)), (some (10, true)), true⟩, ⟨(some 12), (.mv (.tmp 2)), (some (10, true)), true⟩, ⟨(some 13), (.bin .leq (.tmp 11) (.tmp 12)), (some (10, true)), true⟩, ⟨(some 14), (.pick (.tmp 10) (.tmp 13) (.val (.bool false))), none, true⟩, ⟨(some 6), (.mv (.tmp 14)), none, true⟩]) .ret))
def R55 : List LRes := [(.tmp 6)]
theorem low55 : Try.f55.body.bind (lowerCode Try.prog 15) = some L55 := by kernel_rfl
theorem res55 : lowerRes Try.prog Try.f55.results.toList = some R55 := by kernel_rfl
set_option maxRecDepth 100000 in
def L56 : LC := (.seq (.reg none [⟨(some 4), (.mv (.val (.int .i64 0))), none, true⟩]) (.seq (.block 0 (.seq (.reg none [⟨(some 6), (.mv (.tmp 0)), none, true⟩, ⟨(some 7), (.mv (.tmp 1)), none, true⟩, ⟨(some 8), (.bin .lss (.tmp 6) (.tmp 7)), none, true⟩, ⟨(some 5), (.mv (.tmp 8)), none, true⟩]) (.cond (.tmp 5) (.seq (.reg none [⟨(some 4), (.mv (.val (.int .i64 (-1)))), none, true⟩]) .ret) (.seq (.reg none [⟨(some 10), (.mv (.tmp 0)), none, true⟩, ⟨(some 11), (.mv (.tmp 1)), none, true⟩, ⟨(some 12), (.bin .gtr (.tmp 10) (.tmp 11)), none, true⟩, ⟨(some 9), (.mv (.tmp 12)), none, true⟩]) (.cond (.tmp 9) (.seq (.reg none [⟨(some 4), (.mv (.val (.int .i64 1))), none, true⟩]) .ret) .skip))))) (.seq (.reg none [⟨(some 4), (.mv (.val (.int .i64 0))), none, true⟩]) .ret)))
def R56 : List LRes := [(.tmp 4)]
theorem low56 : Try.f56.body.bind (lowerCode Try.prog 13) = some L56 := by kernel_rfl
theorem res56 : lowerRes Try.prog Try.f56.results.toList = some R56 := by kernel_rfl
set_option maxRecDepth 100000 in
def L57 : LC := (.seq (.reg none [⟨(some 4), (.mv (.val (.int .i64 0))), none, true⟩]) (.seq (.seq (.reg none [⟨(some 6), (.mv (.tmp 0)), none, true⟩, ⟨(some 7), (.len false (.tmp 6)), none, true⟩, ⟨(some 8), (.mv (.val (.int .i64 0))), none, true⟩]) (.block 0 (.loop (.seq (.reg none [⟨(some 9), (.bin .lss (.tmp 8) (.tmp 7)), none, true⟩]) (.seq (.cond (.tmp 9) .skip (.exit 0)) (.seq (.block 1 (.seq (.reg none [⟨(some 10), (.mv (.tmp 8)), none, true⟩, ⟨(some 5), (.mv (.tmp 10)), none, true⟩]) (.seq (.reg none [⟨(some 11), (.mv (.tmp 1)), none, true⟩, ⟨(some 12), (.mv (.tmp 0)), none, true⟩, ⟨(some 13), (.mv (.tmp 5)), none, true⟩, ⟨(some 14), (.iaddrS 2 (.tmp 12) (.tmp 13)), none, true⟩, ⟨(some 15), (.load 2 true (.tmp 14)), none, true⟩, ⟨(some 16), (.callv (.tmp 11) [(.tmp 15)]), none, true⟩]) (.cond (.tmp 16) (.seq (.reg none [⟨(some 17), (.mv (.tmp 5)), none, true⟩, ⟨(some 4), (.mv (.tmp 17)), none, true⟩]) .ret) .skip)))) (.reg none [⟨(some 18), (.bin .add (.tmp 8) (.val (.int .i64 1))), none, true⟩, ⟨(some 8), (.mv (.tmp 18)), none, true⟩]))))))) (.seq (.reg none [⟨(some 4), (.mv (.val (.int .i64 (-1)))), none, true⟩]) .ret)))
def R57 : List LRes := [(.tmp 4)]
theorem low57 : Try.f57.body.bind (lowerCode Try.prog 19) = some L57 := by kernel_rfl
theorem res57 : lowerRes Try.prog Try.f57.results.toList = some R57 := by kernel_rfl
set_option maxRecDepth 100000 in
def L58 : LC := (.seq (.reg none [⟨(some 3), (.box (.tmp 0)), none, true⟩, ⟨(some 6), (.alloc [(.int .i64 0), .nilsl, .nilsl]), none, true⟩, ⟨(some 7), (.alloc [(.int .i64 0), (.int .i64 0), (.int .i64 0), (.str ⟨#[]⟩), .nilsl]), none, true⟩, ⟨(some 8), (.mv (.val (.int .i64 0))), none, true⟩]) (.seq (.seq (.reg none [⟨(some 12), (.mv (.tmp 1)), none, true⟩, ⟨(some 13), (.call 42 [(.tmp 12)] 0), none, true⟩, ⟨(some 14), (.not (.tmp 13)), none, true⟩]) (.cond (.tmp 14) (.seq (.reg none [⟨(some 15), (.build [(.int .i64 0), .nilsl, .nilsl] []), none, true⟩, ⟨(some 16), (.build [(.int .i64 0), (.int .i64 0), (.int .i64 0), (.str ⟨#[]⟩), .nilsl] []), none, true⟩, ⟨none, (.store 3 (.tmp 6) (.tmp 15)), none, true⟩, ⟨none, (.store 5 (.tmp 7) (.tmp 16)), none, true⟩, ⟨(some 8), (.mv (.val (.int .i64 3))), none, true⟩]) .ret) .skip)) (.seq (.reg (some []) [⟨(some 17), (.addr 1 (.tmp 3)), none, false⟩, ⟨(some 18), (.load 1 false (.tmp 17)), none, false⟩, ⟨(some 19), (.call 40 [(.tmp 18)] 0), none, false⟩, ⟨(some 20), (.addr 0 (.tmp 3)), none, false⟩, ⟨(some 21), (.load 1 false (.tmp 20)), none, false⟩, ⟨(some 22), (.idxA 1 2 false (.tmp 19) (.tmp 21)), none, true⟩, ⟨(some 23), (.bin .add (.tmp 22) (.val (.int .i64 1))), none, true⟩, ⟨(some 9), (.mv (.tmp 23)), none, true⟩]) (.seq (.reg (some [(0, 11), (1, 11), (6, 11), (7, 11), (9, 11)]) [⟨(some 24), (.addr 0 (.tmp 3)), none, false⟩, ⟨(some 25), (.load 1 false (.tmp 24)), none, false⟩, ⟨(some 26), (.mv (.tmp 9)), none, true⟩, ⟨(some 27), (.build [(.int .i64 0), (.int .i64 0)] [(0, (1, (.tmp 25))), (1, (1, (.tmp 26)))]), none, true⟩, ⟨(some 28), (.mv (.tmp 1)), none, true⟩, ⟨(some 29), (.mv (.tmp 2)), none, true⟩, ⟨(some 30), (.addr 1 (.tmp 3)), none, false⟩, ⟨(some 31), (.load 1 false (.tmp 30)), none, false⟩, ⟨(some 32), (.mv (.tmp 1)), none, true⟩, ⟨(some 33), (.call 63 [(.tmp 31), (.tmp 32)] 0), none, false⟩, ⟨(some 34), (.build [(.int .i64 0), (.int .i64 0), (.int .i64 0), (.str ⟨#[]⟩), .nilsl] [(0, (2, (.tmp 27))), (2, (1, (.tmp 28))), (3, (1, (.tmp 29))), (4, (1, (.tmp 33)))]), none, true⟩, ⟨(some 10), (.alloc [(.int .i64 0), (.int .i64 0), (.int .i64 0), (.str ⟨#[]⟩), .nilsl]), none, false⟩, ⟨none, (.store 5 (.tmp 10) (.tmp 34)), none, true⟩]) (.seq (.seq (.reg none [⟨(some 35), (.mv (.tmp 2)), none, true⟩, ⟨(some 36), (.len true (.tmp 35)), none, true⟩, ⟨(some 37), (.bin .gtr (.tmp 36) (.val (.int .i64 12))), none, true⟩, ⟨(some 38), (.mv (.tmp 37)), none, true⟩, ⟨(some 39), (.mv (.tmp 9)), (some (38, false)), true⟩, ⟨(some 40), (.bin .gtr (.tmp 39) (.val (.int .i64 20))), (some (38, false)), true⟩, ⟨(some 41), (.pick (.tmp 38) (.val (.bool true)) (.tmp 40)), none, true⟩, ⟨(some 42), (.mv (.tmp 41)), none, true⟩, ⟨(some 43), (.addr 1 (.tmp 3)), (some (42, false)), true⟩, ⟨(some 44), (.load 1 false (.tmp 43)), (some (42, false)), true⟩, ⟨(some 45), (.len false (.tmp 44)), (some (42, false)), true⟩, ⟨(some 46), (.bin .eql (.tmp 45) (.val (.int .i64 40))), (some (42, false)), true⟩, ⟨(some 47), (.pick (.tmp 42) (.val (.bool true)) (.tmp 46)), none, true⟩, ⟨(some 48), (.mv (.tmp 47)), none, true⟩, ⟨(some 49), (.addr 4 (.tmp 10)), (some (48, false)), true⟩, ⟨(some 50), (.load 1 false (.tmp 49)), (some (48, false)), true⟩, ⟨(some 51), (.len false (.tmp 50)), (some (48, false)), true⟩, ⟨(some 52), (.bin .gtr (.tmp 51) (.val (.int .i64 6))), (some (48, false)), true⟩, ⟨(some 53), (.pick (.tmp 48) (.val (.bool true)) (.tmp 52)), none, true⟩]) (.cond (.tmp 53) (.seq (.reg none [⟨(some 54), (.build [(.int .i64 0), .nilsl, .nilsl] []), none, true⟩, ⟨(some 55), (.build [(.int .i64 0), (.int .i64 0), (.int .i64 0), (.str ⟨#[]⟩), .nilsl] []), none, true⟩, ⟨none, (.store 3 (.tmp 6) (.tmp 54)), none, true⟩, ⟨none, (.store 5 (.tmp 7) (.tmp 55)), none, true⟩, ⟨(some 8), (.mv (.val (.int .i64 2))), none, true⟩]) .ret) .skip)) (.seq (.reg none [⟨(some 56), (.load 3 true (.tmp 3)), none, true⟩, ⟨(some 57), (.call 25 [(.tmp 56)] 0), none, true⟩, ⟨(some 58), (.build [(.int .i64 0), .nilsl, .nilsl] [(0, (3, (.tmp 57)))]), none, true⟩, ⟨(some 59), (.box (.tmp 58)), none, true⟩, ⟨(some 11), (.mv (.tmp 59)), none, true⟩]) (.seq (.reg (some []) [⟨(some 60), (.mv (.tmp 11)), none, true⟩, ⟨(some 61), (.mv (.tmp 11)), none, true⟩, ⟨(some 62), (.nilchk (.tmp 61)), none, false⟩, ⟨(some 63), (.addr 0 (.tmp 62)), none, false⟩, ⟨(some 64), (.addr 1 (.tmp 63)), none, false⟩, ⟨(some 65), (.load 1 false (.tmp 64)), none, false⟩, ⟨(some 66), (.load 5 true (.tmp 10)), none, false⟩, ⟨(some 67), (.mks 5 [(.int .i64 0), (.int .i64 0), (.int .i64 0), (.str ⟨#[]⟩), .nilsl] 1 [(0, (.tmp 66))]), none, true⟩, ⟨(some 68), (.append 38 5 64 (.tmp 65) (.tmp 67)), none, true⟩, ⟨(some 69), (.nilchk (.tmp 60)), none, true⟩, ⟨(some 70), (.addr 0 (.tmp 69)), none, true⟩, ⟨(some 71), (.addr 1 (.tmp 70)), none, true⟩, ⟨none, (.store 1 (.tmp 71) (.tmp 68)), none, true⟩]) (.seq (.reg none [⟨(some 72), (.mv (.tmp 11)), none, true⟩, ⟨(some 73), (.call 54 [(.tmp 72)] 0), none, true⟩]) (.seq (.reg (some []) [⟨(some 74), (.mv (.tmp 11)), none, true⟩, ⟨(some 75), (.nilchk (.tmp 74)), none, false⟩, ⟨(some 76), (.addr 0 (.tmp 75)), none, false⟩, ⟨(some 77), (.load 3 true (.tmp 76)), none, false⟩, ⟨(some 78), (.load 5 true (.tmp 10)), none, false⟩, ⟨(some 79), (.call 26 [(.tmp 78)] 0), none, false⟩, ⟨none, (.store 3 (.tmp 6) (.tmp 77)), none, true⟩, ⟨none, (.store 5 (.tmp 7) (.tmp 79)), none, true⟩, ⟨(some 8), (.mv (.val (.int .i64 0))), none, true⟩]) .ret)))))))))
def R58 : List LRes := [(.cell 6 3 true), (.cell 7 5 true), (.tmp 8)]
theorem low58 : Try.f58.body.bind (lowerCode Try.prog 80) = some L58 := by kernel_rfl
theorem res58 : lowerRes Try.prog Try.f58.results.toList = some R58 := by kernel_rfl
set_option maxRecDepth 100000 in
def L62 : LC := (.seq (.reg none [⟨(some 2), (.box (.tmp 0)), none, true⟩, ⟨(some 3), (.mv (.val (.bool false))), none, true⟩]) (.seq (.reg (some []) [⟨(some 4), (.load 1 false (.tmp 1)), none, false⟩, ⟨(some 5), (.nilchk (.tmp 4)), none, false⟩, ⟨(some 6), (.addr 0 (.tmp 5)), none, false⟩, ⟨(some 7), (.addr 1 (.tmp 6)), none, false⟩, ⟨(some 8), (.load 1 false (.tmp 7)), none, false⟩, ⟨(some 9), (.load 5 true (.tmp 2)), none, false⟩, ⟨(some 10), (.call 32 [(.tmp 8), (.tmp 9)] 0), none, true⟩, ⟨(some 3), (.mv (.tmp 10)), none, true⟩]) .ret))
def R62 : List LRes := [(.tmp 3)]
theorem low62 : Try.f62.body.bind (lowerCode Try.prog 11) = some L62 := by kernel_rfl
theorem res62 : lowerRes Try.prog Try.f62.results.toList = some R62 := by kernel_rfl
set_option maxRecDepth 100000 in
def L63 : LC := (.seq (.reg none [⟨(some 4), (.mv (.val .nilsl)), none, true⟩]) (.seq (.reg none [⟨(some 10), (.mv (.tmp 0)), none, true⟩, ⟨(some 11), (.call 65 [(.tmp 10)] 0), none, true⟩, ⟨(some 5), (.alloc [.nilp]), none, true⟩, ⟨none, (.store 1 (.tmp 5) (.tmp 11)), none, true⟩]) (.seq (.reg none [⟨(some 12), (.mv (.tmp 0)), none, true⟩, ⟨(some 13), (.mv (.tmp 1)), none, true⟩, ⟨(some 14), (.call 66 [(.tmp 12), (.tmp 13)] 0), none, true⟩, ⟨(some 6), (.mv (.tmp 14)), none, true⟩]) (.seq (.reg none [⟨(some 7), (.mv (.val .nilsl)), none, true⟩]) (.seq (.seq (.reg none [⟨(some 15), (.mv (.tmp 6)), none, true⟩, ⟨(some 16), (.len false (.tmp 15)), none, true⟩, ⟨(some 17), (.mv (.val (.int .i64 0))), none, true⟩]) (.block 0 (.loop (.seq (.reg none [⟨(some 18), (.bin .lss (.tmp 17) (.tmp 16)), none, true⟩]) (.seq (.cond (.tmp 18) .skip (.exit 0)) (.seq (.block 1 (.seq (.reg none [⟨(some 19), (.iaddrS 5 (.tmp 15) (.tmp 17)), none, true⟩, ⟨(some 20), (.load 5 true (.tmp 19)), none, true⟩, ⟨(some 9), (.alloc [(.int .i64 0), (.int .i64 0), (.int .i64 0), (.str ⟨#[]⟩), .nilsl]), none, true⟩, ⟨none, (.store 5 (.tmp 9) (.tmp 20)), none, true⟩]) (.seq (.reg none [⟨(some 21), (.mv (.tmp 6)), none, true⟩, ⟨(some 22), (.clo 67 [(.tmp 5), (.tmp 9)]), none, true⟩, ⟨(some 23), (.call 21 [(.tmp 21), (.tmp 22)] 0), none, true⟩, ⟨(some 24), (.not (.tmp 23)), none, true⟩]) (.cond (.tmp 24) (.reg none [⟨(some 25), (.mv (.tmp 7)), none, true⟩, ⟨(some 26), (.addr 0 (.tmp 9)), none, true⟩, ⟨(some 27), (.load 2 true (.tmp 26)), none, true⟩, ⟨(some 28), (.mks 2 [(.int .i64 0), (.int .i64 0)] 1 [(0, (.tmp 27))]), none, true⟩, ⟨(some 29), (.append 35 2 16 (.tmp 25) (.tmp 28)), none, true⟩, ⟨(some 7), (.mv (.tmp 29)), none, true⟩]) .skip)))) (.reg none [⟨(some 30), (.bin .add (.tmp 17) (.val (.int .i64 1))), none, true⟩, ⟨(some 17), (.mv (.tmp 30)), none, true⟩]))))))) (.seq (.reg none [⟨(some 31), (.mv (.tmp 7)), none, true⟩, ⟨(some 32), (.call 69 [(.tmp 31), (.val (.clo 43 []))] 1), none, true⟩]) (.seq (.reg none [⟨(some 33), (.mv (.tmp 7)), none, true⟩, ⟨(some 4), (.mv (.tmp 33)), none, true⟩]) .ret)))))))
def R63 : List LRes := [(.tmp 4)]
theorem low63 : Try.f63.body.bind (lowerCode Try.prog 34) = some L63 := by kernel_rfl
theorem res63 : lowerRes Try.prog Try.f63.results.toList = some R63 := by kernel_rfl
set_option maxRecDepth 100000 in
def L65 : LC := (.seq (.reg none [⟨(some 2), (.mv (.val .nilp)), none, true⟩]) (.seq (.reg none [⟨(some 9), (.mv (.tmp 0)), none, true⟩, ⟨(some 10), (.build [.nilsl, .nilsl] [(0, (1, (.tmp 9)))]), none, true⟩, ⟨(some 11), (.box (.tmp 10)), none, true⟩, ⟨(some 3), (.mv (.tmp 11)), none, true⟩]) (.seq (.seq (.reg none [⟨(some 12), (.mv (.tmp 0)), none, true⟩, ⟨(some 13), (.len false (.tmp 12)), none, true⟩, ⟨(some 14), (.mv (.val (.int .i64 0))), none, true⟩]) (.block 0 (.loop (.seq (.reg none [⟨(some 15), (.bin .lss (.tmp 14) (.tmp 13)), none, true⟩]) (.seq (.cond (.tmp 15) .skip (.exit 0)) (.seq (.block 1 (.seq (.reg none [⟨(some 16), (.iaddrS 5 (.tmp 12) (.tmp 14)), none, true⟩, ⟨(some 17), (.load 5 true (.tmp 16)), none, true⟩, ⟨(some 5), (.alloc [(.int .i64 0), (.int .i64 0), (.int .i64 0), (.str ⟨#[]⟩), .nilsl]), none, true⟩, ⟨none, (.store 5 (.tmp 5) (.tmp 17)), none, true⟩]) (.seq (.reg none [⟨(some 6), (.mv (.val .nilsl)), none, true⟩]) (.seq (.seq (.reg none [⟨(some 18), (.addr 4 (.tmp 5)), none, true⟩, ⟨(some 19), (.load 1 false (.tmp 18)), none, true⟩, ⟨(some 20), (.len false (.tmp 19)), none, true⟩, ⟨(some 21), (.mv (.val (.int .i64 0))), none, true⟩]) (.block 2 (.loop (.seq (.reg none [⟨(some 22), (.bin .lss (.tmp 21) (.tmp 20)), none, true⟩]) (.seq (.cond (.tmp 22) .skip (.exit 2)) (.seq (.block 3 (.seq (.reg none [⟨(some 23), (.iaddrS 2 (.tmp 19) (.tmp 21)), none, true⟩, ⟨(some 24), (.load 2 true (.tmp 23)), none, true⟩, ⟨(some 8), (.alloc [(.int .i64 0), (.int .i64 0)]), none, true⟩, ⟨none, (.store 2 (.tmp 8) (.tmp 24)), none, true⟩]) (.reg (some [(3, 5)]) [⟨(some 25), (.mv (.tmp 6)), none, true⟩, ⟨(some 26), (.load 2 true (.tmp 8)), none, false⟩, ⟨(some 27), (.mks 2 [(.int .i64 0), (.int .i64 0)] 1 [(0, (.tmp 26))]), none, true⟩, ⟨(some 28), (.append 35 2 16 (.tmp 25) (.tmp 27)), none, false⟩, ⟨(some 29), (.mv (.tmp 3)), none, true⟩, ⟨(some 30), (.load 2 true (.tmp 8)), none, false⟩, ⟨(some 31), (.call 71 [(.tmp 29), (.tmp 30)] 0), none, true⟩, ⟨(some 32), (.append 35 2 16 (.tmp 28) (.tmp 31)), none, true⟩, ⟨(some 6), (.mv (.tmp 32)), none, true⟩]))) (.reg none [⟨(some 33), (.bin .add (.tmp 21) (.val (.int .i64 1))), none, true⟩, ⟨(some 21), (.mv (.tmp 33)), none, true⟩]))))))) (.seq (.reg none [⟨(some 34), (.mv (.tmp 6)), none, true⟩, ⟨(some 35), (.call 69 [(.tmp 34), (.val (.clo 43 []))] 1), none, true⟩]) (.reg (some [(2, 6), (3, 6), (4, 6)]) [⟨(some 36), (.mv (.tmp 3)), none, true⟩, ⟨(some 37), (.mv (.tmp 3)), none, true⟩, ⟨(some 38), (.nilchk (.tmp 37)), none, false⟩, ⟨(some 39), (.addr 1 (.tmp 38)), none, false⟩, ⟨(some 40), (.load 1 false (.tmp 39)), none, false⟩, ⟨(some 41), (.mv (.tmp 6)), none, true⟩, ⟨(some 42), (.call 72 [(.tmp 41)] 1), none, false⟩, ⟨(some 43), (.mks 1 [.nilsl] 1 [(0, (.tmp 42))]), none, true⟩, ⟨(some 44), (.append 36 1 24 (.tmp 40) (.tmp 43)), none, true⟩, ⟨(some 45), (.nilchk (.tmp 36)), none, true⟩, ⟨(some 46), (.addr 1 (.tmp 45)), none, true⟩, ⟨none, (.store 1 (.tmp 46) (.tmp 44)), none, true⟩])))))) (.reg none [⟨(some 47), (.bin .add (.tmp 14) (.val (.int .i64 1))), none, true⟩, ⟨(some 14), (.mv (.tmp 47)), none, true⟩]))))))) (.seq (.reg none [⟨(some 48), (.mv (.tmp 3)), none, true⟩, ⟨(some 2), (.mv (.tmp 48)), none, true⟩]) .ret))))
def R65 : List LRes := [(.tmp 2)]
theorem low65 : Try.f65.body.bind (lowerCode Try.prog 49) = some L65 := by kernel_rfl
theorem res65 : lowerRes Try.prog Try.f65.results.toList = some R65 := by kernel_rfl
set_option maxRecDepth 100000 in
def L66 : LC := (.seq (.reg none [⟨(some 4), (.mv (.val .nilsl)), none, true⟩]) (.seq (.reg none [⟨(some 5), (.mv (.val .nilsl)), none, true⟩]) (.seq (.seq (.reg none [⟨(some 8), (.mv (.tmp 0)), none, true⟩, ⟨(some 9), (.len false (.tmp 8)), none, true⟩, ⟨(some 10), (.mv (.val (.int .i64 0))), none, true⟩]) (.block 0 (.loop (.seq (.reg none [⟨(some 11), (.bin .lss (.tmp 10) (.tmp 9)), none, true⟩]) (.seq (.cond (.tmp 11) .skip (.exit 0)) (.seq (.block 1 (.seq (.reg none [⟨(some 12), (.iaddrS 5 (.tmp 8) (.tmp 10)), none, true⟩, ⟨(some 13), (.load 5 true (.tmp 12)), none, true⟩, ⟨(some 7), (.alloc [(.int .i64 0), (.int .i64 0), (.int .i64 0), (.str ⟨#[]⟩), .nilsl]), none, true⟩, ⟨none, (.store 5 (.tmp 7) (.tmp 13)), none, true⟩]) (.seq (.reg none [⟨(some 14), (.addr 2 (.tmp 7)), none, true⟩, ⟨(some 15), (.load 1 false (.tmp 14)), none, true⟩, ⟨(some 16), (.mv (.tmp 1)), none, true⟩, ⟨(some 17), (.bin .and (.tmp 15) (.tmp 16)), none, true⟩, ⟨(some 18), (.bin .neq (.tmp 17) (.val (.int .i64 0))), none, true⟩]) (.cond (.tmp 18) (.reg none [⟨(some 19), (.mv (.tmp 5)), none, true⟩, ⟨(some 20), (.load 5 true (.tmp 7)), none, true⟩, ⟨(some 21), (.mks 5 [(.int .i64 0), (.int .i64 0), (.int .i64 0), (.str ⟨#[]⟩), .nilsl] 1 [(0, (.tmp 20))]), none, true⟩, ⟨(some 22), (.append 38 5 64 (.tmp 19) (.tmp 21)), none, true⟩, ⟨(some 5), (.mv (.tmp 22)), none, true⟩]) .skip)))) (.reg none [⟨(some 23), (.bin .add (.tmp 10) (.val (.int .i64 1))), none, true⟩, ⟨(some 10), (.mv (.tmp 23)), none, true⟩]))))))) (.seq (.reg none [⟨(some 24), (.mv (.tmp 5)), none, true⟩, ⟨(some 4), (.mv (.tmp 24)), none, true⟩]) .ret))))
def R66 : List LRes := [(.tmp 4)]
theorem low66 : Try.f66.body.bind (lowerCode Try.prog 25) = some L66 := by kernel_rfl
theorem res66 : lowerRes Try.prog Try.f66.results.toList = some R66 := by kernel_rfl
set_option maxRecDepth 100000 in
def L67 : LC := (.seq (.reg none [⟨(some 3), (.box (.tmp 0)), none, true⟩, ⟨(some 4), (.mv (.val (.bool false))), none, true⟩]) (.seq (.reg none [⟨(some 5), (.load 1 false (.tmp 1)), none, true⟩, ⟨(some 6), (.addr 0 (.tmp 2)), none, true⟩, ⟨(some 7), (.load 2 true (.tmp 6)), none, true⟩, ⟨(some 8), (.addr 0 (.tmp 3)), none, true⟩, ⟨(some 9), (.load 2 true (.tmp 8)), none, true⟩, ⟨(some 10), (.call 68 [(.tmp 5), (.tmp 7), (.tmp 9)] 0), none, true⟩, ⟨(some 4), (.mv (.tmp 10)), none, true⟩]) .ret))
def R67 : List LRes := [(.tmp 4)]
theorem low67 : Try.f67.body.bind (lowerCode Try.prog 11) = some L67 := by kernel_rfl
theorem res67 : lowerRes Try.prog Try.f67.results.toList = some R67 := by kernel_rfl
set_option maxRecDepth 100000 in
def L68 : LC := (.seq (.reg none [⟨(some 4), (.box (.tmp 1)), none, true⟩, ⟨(some 5), (.box (.tmp 2)), none, true⟩, ⟨(some 6), (.mv (.val (.bool false))), none, true⟩]) (.seq (.reg (some []) [⟨(some 7), (.mv (.tmp 0)), none, true⟩, ⟨(some 8), (.load 2 true (.tmp 5)), none, false⟩, ⟨(some 9), (.call 71 [(.tmp 7), (.tmp 8)] 0), none, false⟩, ⟨(some 10), (.load 2 true (.tmp 4)), none, false⟩, ⟨(some 11), (.call 73 [(.tmp 9), (.tmp 10)] 0), none, true⟩, ⟨(some 6), (.mv (.tmp 11)), none, true⟩]) .ret))
def R68 : List LRes := [(.tmp 6)]
theorem low68 : Try.f68.body.bind (lowerCode Try.prog 12) = some L68 := by kernel_rfl
theorem res68 : lowerRes Try.prog Try.f68.results.toList = some R68 := by kernel_rfl
set_option maxRecDepth 100000 in
def L71 : LC := (.seq (.reg none [⟨(some 3), (.box (.tmp 1)), none, true⟩, ⟨(some 4), (.mv (.val .nilsl)), none, true⟩]) (.seq (.reg (some []) [⟨(some 5), (.mv (.tmp 0)), none, true⟩, ⟨(some 6), (.nilchk (.tmp 5)), none, false⟩, ⟨(some 7), (.addr 1 (.tmp 6)), none, false⟩, ⟨(some 8), (.load 1 false (.tmp 7)), none, false⟩, ⟨(some 9), (.mv (.tmp 0)), none, true⟩, ⟨(some 10), (.nilchk (.tmp 9)), none, false⟩, ⟨(some 11), (.addr 0 (.tmp 10)), none, false⟩, ⟨(some 12), (.load 1 false (.tmp 11)), none, false⟩, ⟨(some 13), (.load 2 true (.tmp 3)), none, false⟩, ⟨(some 14), (.call 31 [(.tmp 12), (.tmp 13)] 0), none, false⟩, ⟨(some 15), (.iaddrS 1 (.tmp 8) (.tmp 14)), none, true⟩, ⟨(some 16), (.load 1 false (.tmp 15)), none, true⟩, ⟨(some 4), (.mv (.tmp 16)), none, true⟩]) .ret))
def R71 : List LRes := [(.tmp 4)]
theorem low71 : Try.f71.body.bind (lowerCode Try.prog 17) = some L71 := by kernel_rfl
theorem res71 : lowerRes Try.prog Try.f71.results.toList = some R71 := by kernel_rfl
set_option maxRecDepth 100000 in
def L73 : LC := (.seq (.reg none [⟨(some 3), (.box (.tmp 1)), none, true⟩, ⟨(some 4), (.mv (.val (.bool false))), none, true⟩]) (.seq (.reg none [⟨(some 5), (.mv (.tmp 0)), none, true⟩, ⟨(some 6), (.load 2 true (.tmp 3)), none, true⟩, ⟨(some 7), (.call 76 [(.tmp 5), (.tmp 6)] 0), none, true⟩, ⟨(some 8), (.bin .geq (.tmp 7) (.val (.int .i64 0))), none, true⟩, ⟨(some 4), (.mv (.tmp 8)), none, true⟩]) .ret))
def R73 : List LRes := [(.tmp 4)]
theorem low73 : Try.f73.body.bind (lowerCode Try.prog 9) = some L73 := by kernel_rfl
theorem res73 : lowerRes Try.prog Try.f73.results.toList = some R73 := by kernel_rfl
set_option maxRecDepth 100000 in
def L76 : LC := (.seq (.reg none [⟨(some 3), (.box (.tmp 1)), none, true⟩, ⟨(some 4), (.mv (.val (.int .i64 0))), none, true⟩]) (.seq (.seq (.reg none [⟨(some 6), (.mv (.tmp 0)), none, true⟩, ⟨(some 7), (.len false (.tmp 6)), none, true⟩, ⟨(some 8), (.mv (.val (.int .i64 0))), none, true⟩]) (.block 0 (.loop (.seq (.reg none [⟨(some 9), (.bin .lss (.tmp 8) (.tmp 7)), none, true⟩]) (.seq (.cond (.tmp 9) .skip (.exit 0)) (.seq (.block 1 (.seq (.reg none [⟨(some 10), (.mv (.tmp 8)), none, true⟩, ⟨(some 5), (.mv (.tmp 10)), none, true⟩]) (.seq (.reg (some []) [⟨(some 11), (.load 2 true (.tmp 3)), none, false⟩, ⟨(some 12), (.mv (.tmp 0)), none, true⟩, ⟨(some 13), (.mv (.tmp 5)), none, true⟩, ⟨(some 14), (.iaddrS 2 (.tmp 12) (.tmp 13)), none, false⟩, ⟨(some 15), (.load 2 true (.tmp 14)), none, false⟩, ⟨(some 16), (.eqag false [.i, .i] (.tmp 11) (.tmp 15)), none, true⟩]) (.cond (.tmp 16) (.seq (.reg none [⟨(some 17), (.mv (.tmp 5)), none, true⟩, ⟨(some 4), (.mv (.tmp 17)), none, true⟩]) .ret) .skip)))) (.reg none [⟨(some 18), (.bin .add (.tmp 8) (.val (.int .i64 1))), none, true⟩, ⟨(some 8), (.mv (.tmp 18)), none, true⟩]))))))) (.seq (.reg none [⟨(some 4), (.mv (.val (.int .i64 (-1)))), none, true⟩]) .ret)))
def R76 : List LRes := [(.tmp 4)]
theorem low76 : Try.f76.body.bind (lowerCode Try.prog 19) = some L76 := by kernel_rfl
theorem res76 : lowerRes Try.prog Try.f76.results.toList = some R76 := by kernel_rfl
end Go.Proofs.Ytkgobnnkcnnfhaa
namespace Go.Proofs.Ytkgobnnkcnnfhaa
set_option linter.unusedSimpArgs false
set_option linter.unusedVariables false
open Go.RowKit
theorem within_meets (n a b : Int) : Meets Try.prog 55 [.int .i64 n, .int .i64 a, .int .i64 b] [] (.bool (wthn n a b)) [] := by
  refine Meets.of_walk Try.func55 Try.ntmps55 low55 res55 (by simp) fun x hx => ?_
  by_cases h : a ≤ n
  all_goals
    simp only [go_sem, Nat.reduceLT, Nat.reduceAdd, Nat.reduceEqDiff, Nat.reduceLeDiff, Nat.reduceSub, Nat.reduceMul, Int.reduceEq, eq_self, reduceIte, L55, R55, h, decide_true, decide_false]
    refine ret_pure hx ?_
    simp only [go_sem, Nat.reduceLT, Nat.reduceAdd, Nat.reduceEqDiff, Nat.reduceLeDiff, Nat.reduceSub, Nat.reduceMul, Int.reduceEq, eq_self, reduceIte, L55, R55, wthn, h, decide_false, true_and, false_and]
theorem id_meets (r n : Int) : Meets Try.prog 41 [.agg [.int .i64 r, .int .i64 n]] [] (.bool (okId ⟨r, n⟩)) [] := by
  refine Meets.of_walk Try.func41 Try.ntmps41 low41 res41 (by simp) fun x hx => ?_
  simp only [go_sem, Nat.reduceLT, Nat.reduceAdd, Nat.reduceEqDiff, Nat.reduceLeDiff, Nat.reduceSub, Nat.reduceMul, Int.reduceEq, eq_self, reduceIte, L41, R41]
  refine ops_call (.pure (within_meets _ _ _)) ?_
  cases h : wthn r 0 1
  · simp only [go_sem, Nat.reduceLT, Nat.reduceAdd, Nat.reduceEqDiff, Nat.reduceLeDiff, Nat.reduceSub, Nat.reduceMul, Int.reduceEq, eq_self, reduceIte]
    refine ret_pure hx ?_
    simp [go_sem, Nat.reduceLT, Nat.reduceAdd, Nat.reduceEqDiff, Nat.reduceLeDiff, Nat.reduceSub, Nat.reduceMul, Int.reduceEq, eq_self, reduceIte, L41, R41, okId, h]
  · simp only [go_sem, Nat.reduceLT, Nat.reduceAdd, Nat.reduceEqDiff, Nat.reduceLeDiff, Nat.reduceSub, Nat.reduceMul, Int.reduceEq, eq_self, reduceIte]
    refine ops_call (.pure (within_meets _ _ _)) ?_
    simp only [go_sem, Nat.reduceLT, Nat.reduceAdd, Nat.reduceEqDiff, Nat.reduceLeDiff, Nat.reduceSub, Nat.reduceMul, Int.reduceEq, eq_self, reduceIte]
    refine ret_pure hx ?_
    simp [go_sem, Nat.reduceLT, Nat.reduceAdd, Nat.reduceEqDiff, Nat.reduceLeDiff, Nat.reduceSub, Nat.reduceMul, Int.reduceEq, eq_self, reduceIte, L41, R41, okId, h]
end Go.Proofs.Ytkgobnnkcnnfhaa
namespace Go.Proofs.Ytkgobnnkcnnfhaa
set_option linter.unusedSimpArgs false
set_option linter.unusedVariables false
open Go.RowKit
theorem cmp_meets (a b : Int) : Meets Try.prog 56 [.int .i64 a, .int .i64 b] [] (.int .i64 (cmpI a b)) [] := by
  refine Meets.of_walk Try.func56 Try.ntmps56 low56 res56 (by simp) fun x hx => ?_
  by_cases h : a < b
  · simp only [go_sem, Nat.reduceLT, Nat.reduceAdd, Nat.reduceEqDiff, Nat.reduceLeDiff, Nat.reduceSub, Nat.reduceMul, Int.reduceEq, eq_self, reduceIte, L56, R56, h, decide_true]
    refine ret_pure hx ?_
    simp [go_sem, Nat.reduceLT, Nat.reduceAdd, Nat.reduceEqDiff, Nat.reduceLeDiff, Nat.reduceSub, Nat.reduceMul, Int.reduceEq, eq_self, reduceIte, L56, R56, cmpI, h]
  · by_cases h2 : b < a
    · simp only [go_sem, Nat.reduceLT, Nat.reduceAdd, Nat.reduceEqDiff, Nat.reduceLeDiff, Nat.reduceSub, Nat.reduceMul, Int.reduceEq, eq_self, reduceIte, L56, R56, h, h2, decide_true, decide_false]
      refine ret_pure hx ?_
      simp [go_sem, Nat.reduceLT, Nat.reduceAdd, Nat.reduceEqDiff, Nat.reduceLeDiff, Nat.reduceSub, Nat.reduceMul, Int.reduceEq, eq_self, reduceIte, L56, R56, cmpI, h, h2]
    · simp only [go_sem, Nat.reduceLT, Nat.reduceAdd, Nat.reduceEqDiff, Nat.reduceLeDiff, Nat.reduceSub, Nat.reduceMul, Int.reduceEq, eq_self, reduceIte, L56, R56, h, h2, decide_false]
      refine ret_pure hx ?_
      simp [go_sem, Nat.reduceLT, Nat.reduceAdd, Nat.reduceEqDiff, Nat.reduceLeDiff, Nat.reduceSub, Nat.reduceMul, Int.reduceEq, eq_self, reduceIte, L56, R56, cmpI, h, h2]
def cId (x : Id) : List PV := [.int .i64 x.r, .int .i64 x.n]
theorem order_meets (a b : Id) : Meets Try.prog 43 [.agg (cId a), .agg (cId b)] [] (.int .i64 (ordI a b)) [] := by
  refine Meets.of_walk Try.func43 Try.ntmps43 low43 res43 (by simp) fun x hx => ?_
  simp only [go_sem, Nat.reduceLT, Nat.reduceAdd, Nat.reduceEqDiff, Nat.reduceLeDiff, Nat.reduceSub, Nat.reduceMul, Int.reduceEq, eq_self, reduceIte, L43, R43, cId]
  refine ops_callv rfl (by kernel_rfl) (.pure (cmp_meets _ _)) ?_
  by_cases h : cmpI a.r b.r = 0
  · simp only [go_sem, Nat.reduceLT, Nat.reduceAdd, Nat.reduceEqDiff, Nat.reduceLeDiff, Nat.reduceSub, Nat.reduceMul, Int.reduceEq, eq_self, reduceIte, h, decide_true, decide_false]
    refine ops_callv rfl (by kernel_rfl) (.pure (cmp_meets _ _)) ?_
    simp only [go_sem, Nat.reduceLT, Nat.reduceAdd, Nat.reduceEqDiff, Nat.reduceLeDiff, Nat.reduceSub, Nat.reduceMul, Int.reduceEq, eq_self, reduceIte]
    refine ret_pure hx ?_
    simp [go_sem, Nat.reduceLT, Nat.reduceAdd, Nat.reduceEqDiff, Nat.reduceLeDiff, Nat.reduceSub, Nat.reduceMul, Int.reduceEq, eq_self, reduceIte, L43, R43, ordI, h]
  · simp only [go_sem, Nat.reduceLT, Nat.reduceAdd, Nat.reduceEqDiff, Nat.reduceLeDiff, Nat.reduceSub, Nat.reduceMul, Int.reduceEq, eq_self, reduceIte, h, decide_true, decide_false]
    refine ret_pure hx ?_
    simp [go_sem, Nat.reduceLT, Nat.reduceAdd, Nat.reduceEqDiff, Nat.reduceLeDiff, Nat.reduceSub, Nat.reduceMul, Int.reduceEq, eq_self, reduceIte, L43, R43, ordI, h]
theorem less_meets (a b : Id) : Meets Try.prog 30 [.agg (cId a), .agg (cId b)] [] (.bool (lessB a b)) [] := by
  refine Meets.of_walk Try.func30 Try.ntmps30 low30 res30 (by simp) fun x hx => ?_
  simp only [go_sem, Nat.reduceLT, Nat.reduceAdd, Nat.reduceEqDiff, Nat.reduceLeDiff, Nat.reduceSub, Nat.reduceMul, Int.reduceEq, eq_self, reduceIte, L30, R30, cId]
  refine ops_call (.pure (order_meets a b)) ?_
  have h : lessB a b = decide (ordI a b < 0) := by rw [Bool.eq_iff_iff, decide_eq_true_iff, ordI_lt]
  simp only [go_sem, Nat.reduceLT, Nat.reduceAdd, Nat.reduceEqDiff, Nat.reduceLeDiff, Nat.reduceSub, Nat.reduceMul, Int.reduceEq, eq_self, reduceIte]
  refine ret_pure hx ?_
  simp only [go_sem, Nat.reduceLT, Nat.reduceAdd, Nat.reduceEqDiff, Nat.reduceLeDiff, Nat.reduceSub, Nat.reduceMul, Int.reduceEq, eq_self, reduceIte, L30, R30, h]
theorem colors_meets (n : Int) : Meets Try.prog 42 [.int .i64 n] [] (.bool (wthn n 1 7)) [] := by
  refine Meets.of_walk Try.func42 Try.ntmps42 low42 res42 (by simp) fun x hx => ?_
  simp only [go_sem, Nat.reduceLT, Nat.reduceAdd, Nat.reduceEqDiff, Nat.reduceLeDiff, Nat.reduceSub, Nat.reduceMul, Int.reduceEq, eq_self, reduceIte, L42, R42]
  refine ops_call (.pure (within_meets _ _ _)) ?_
  simp only [go_sem, Nat.reduceLT, Nat.reduceAdd, Nat.reduceEqDiff, Nat.reduceLeDiff, Nat.reduceSub, Nat.reduceMul, Int.reduceEq, eq_self, reduceIte]
  refine ret_pure hx ?_
  simp only [go_sem, Nat.reduceLT, Nat.reduceAdd, Nat.reduceEqDiff, Nat.reduceLeDiff, Nat.reduceSub, Nat.reduceMul, Int.reduceEq, eq_self, reduceIte, L42, R42]
end Go.Proofs.Ytkgobnnkcnnfhaa
namespace Go.Proofs.Ytkgobnnkcnnfhaa
set_option linter.unusedSimpArgs false
set_option linter.unusedVariables false
open Go.RowKit
def cE (e : Entry) : List PV := [.int .i64 e.id.r, .int .i64 e.id.n, .int .i64 e.c, .str e.t, .list (e.ls.map cId)]
theorem check_meets (e : Entry) : Meets Try.prog 29 [.agg (cE e)] [] (.int .i64 (checkEntry e)) [] := by
  refine Meets.of_walk Try.func29 Try.ntmps29 low29 res29 (by simp) fun x hx => ?_
  simp only [go_sem, Nat.reduceLT, Nat.reduceAdd, Nat.reduceEqDiff, Nat.reduceLeDiff, Nat.reduceSub, Nat.reduceMul, Int.reduceEq, eq_self, reduceIte, L29, R29, cE]
  refine ops_call (.pure (id_meets _ _)) ?_
  cases h1 : okId e.id
  · simp only [go_sem, Nat.reduceLT, Nat.reduceAdd, Nat.reduceEqDiff, Nat.reduceLeDiff, Nat.reduceSub, Nat.reduceMul, Int.reduceEq, eq_self, reduceIte]
    refine ret_pure hx ?_
    simp [go_sem, Nat.reduceLT, Nat.reduceAdd, Nat.reduceEqDiff, Nat.reduceLeDiff, Nat.reduceSub, Nat.reduceMul, Int.reduceEq, eq_self, reduceIte, L29, R29, checkEntry, h1]
  simp only [go_sem, Nat.reduceLT, Nat.reduceAdd, Nat.reduceEqDiff, Nat.reduceLeDiff, Nat.reduceSub, Nat.reduceMul, Int.reduceEq, eq_self, reduceIte]
  refine ops_call (.pure (colors_meets _)) ?_
  cases h2 : wthn e.c 1 7
  · simp only [go_sem, Nat.reduceLT, Nat.reduceAdd, Nat.reduceEqDiff, Nat.reduceLeDiff, Nat.reduceSub, Nat.reduceMul, Int.reduceEq, eq_self, reduceIte]
    refine ret_pure hx ?_
    simp [go_sem, Nat.reduceLT, Nat.reduceAdd, Nat.reduceEqDiff, Nat.reduceLeDiff, Nat.reduceSub, Nat.reduceMul, Int.reduceEq, eq_self, reduceIte, L29, R29, checkEntry, h1, h2]
  by_cases h3 : 12 < e.t.size
  · have h3' : decide ((12 : Int) < e.t.size) = true := by simp; omega
    simp only [go_sem, Nat.reduceLT, Nat.reduceAdd, Nat.reduceEqDiff, Nat.reduceLeDiff, Nat.reduceSub, Nat.reduceMul, Int.reduceEq, eq_self, reduceIte, h3']
    refine ret_pure hx ?_
    simp [go_sem, Nat.reduceLT, Nat.reduceAdd, Nat.reduceEqDiff, Nat.reduceLeDiff, Nat.reduceSub, Nat.reduceMul, Int.reduceEq, eq_self, reduceIte, L29, R29, checkEntry, h1, h2, h3]
  have h3' : decide ((12 : Int) < e.t.size) = false := by simp; omega
  by_cases h4 : 6 < e.ls.length
  · have h4' : decide ((6 : Int) < (e.ls.length : Nat)) = true := by simp; omega
    simp only [go_sem, Nat.reduceLT, Nat.reduceAdd, Nat.reduceEqDiff, Nat.reduceLeDiff, Nat.reduceSub, Nat.reduceMul, Int.reduceEq, eq_self, reduceIte, h3', h4']
    refine ret_pure hx ?_
    simp [go_sem, Nat.reduceLT, Nat.reduceAdd, Nat.reduceEqDiff, Nat.reduceLeDiff, Nat.reduceSub, Nat.reduceMul, Int.reduceEq, eq_self, reduceIte, L29, R29, checkEntry, h1, h2, h3, h4]
  have h4' : decide ((6 : Int) < (e.ls.length : Nat)) = false := by simp; omega
  have hc : checkEntry e = firstNZ (linkErr e.id e.ls) e.ls.length := by simp [checkEntry, h1, h2, h3, h4]
  simp only [go_sem, Nat.reduceLT, Nat.reduceAdd, Nat.reduceEqDiff, Nat.reduceLeDiff, Nat.reduceSub, Nat.reduceMul, Int.reduceEq, eq_self, reduceIte, h3', h4', hc]
  refine loop_inv [1, 28, 29, 30] 1 (fun n st => ∃ k : Nat, k + n = e.ls.length ∧ firstNZ (linkErr e.id e.ls) k = 0 ∧
    st = ⟨mkE .top [(1, .ptr 0 0), (28, .list (e.ls.map cId)), (29, .int .i64 e.ls.length), (30, .int .i64 k)], [.box (cE e)]⟩) e.ls.length (by simp [hx]) (by simp) ?_ ?_
  · refine ⟨0, by omega, rfl, ?_⟩
    simp [trim_mk, go_sem, Nat.reduceLT, Nat.reduceAdd, Nat.reduceEqDiff, Nat.reduceLeDiff, Nat.reduceSub, Nat.reduceMul, Int.reduceEq, eq_self, reduceIte, subHeap, renObj, pos, List.range_succ, cE]
  · rintro n st ⟨k, hk, hz, rfl⟩
    simp only [go_sem, Nat.reduceLT, Nat.reduceAdd, Nat.reduceEqDiff, Nat.reduceLeDiff, Nat.reduceSub, Nat.reduceMul, Int.reduceEq, eq_self, reduceIte, cE]
    by_cases hlt : k < e.ls.length
    · have hg : e.ls[k]? = some (nth e.ls k) := nth_get? _ _ hlt
      simp only [go_sem, Nat.reduceLT, Nat.reduceAdd, Nat.reduceEqDiff, Nat.reduceLeDiff, Nat.reduceSub, Nat.reduceMul, Int.reduceEq, eq_self, reduceIte, hlt, hg, cId]
      refine ops_call (.pure (id_meets _ _)) ?_
      cases h5 : okId (nth e.ls k)
      · have h5' : okId ⟨(nth e.ls k).r, (nth e.ls k).n⟩ = false := h5
        simp only [go_sem, Nat.reduceLT, Nat.reduceAdd, Nat.reduceEqDiff, Nat.reduceLeDiff, Nat.reduceSub, Nat.reduceMul, Int.reduceEq, eq_self, reduceIte, h5']
        refine ret_pure hx ?_
        have : linkErr e.id e.ls k = 3 := by simp [linkErr, h5]
        simp only [go_sem, Nat.reduceLT, Nat.reduceAdd, Nat.reduceEqDiff, Nat.reduceLeDiff, Nat.reduceSub, Nat.reduceMul, Int.reduceEq, eq_self, reduceIte, hc, firstNZ_hit hz (by rw [this]; decide) hlt, this]
      have h5' : okId ⟨(nth e.ls k).r, (nth e.ls k).n⟩ = true := h5
      have w1 : IntKind.i64.wrap ((k : Int) + 1) = ((k + 1 : Nat) : Int) := by rw [IntWalk.i64_in _ (by omega)]; omega
      have okw : (k = 0 ∨ ordI (nth e.ls (k - 1)) (nth e.ls k) < 0) → lessB (nth e.ls (k - 1)) (nth e.ls k) = true ∨ k = 0 := fun h => by
        rcases h with h | h
        · exact .inr h
        · exact .inl (ordI_lt.1 h)
      by_cases hb : 0 < k ∧ 0 ≤ ordI (nth e.ls (k - 1)) (nth e.ls k)
      · obtain ⟨h0, h6⟩ := hb
        have hg1 : e.ls[k - 1]? = some (nth e.ls (k - 1)) := nth_get? _ _ (by omega)
        have e1 : IntKind.i64.wrap ((k : Int) - 1) = ((k - 1 : Nat) : Int) := by rw [IntWalk.i64_in _ (by omega)]; omega
        have d0 : decide ((0 : Int) < (k : Int)) = true := by simp; omega
        have hlt1 : k - 1 < e.ls.length := by omega
        simp only [go_sem, Nat.reduceLT, Nat.reduceAdd, Nat.reduceEqDiff, Nat.reduceLeDiff, Nat.reduceSub, Nat.reduceMul, Int.reduceEq, eq_self, reduceIte, h5', d0, hlt1, hg1, e1, cId]
        refine ops_call (.pure (order_meets (nth e.ls (k - 1)) (nth e.ls k))) ?_
        simp only [go_sem, Nat.reduceLT, Nat.reduceAdd, Nat.reduceEqDiff, Nat.reduceLeDiff, Nat.reduceSub, Nat.reduceMul, Int.reduceEq, eq_self, reduceIte, h6]
        refine ret_pure hx ?_
        have hl : lessB (nth e.ls (k - 1)) (nth e.ls k) = false := by rw [← Bool.not_eq_true, ← ordI_lt]; omega
        have : linkErr e.id e.ls k = 4 := by simp [linkErr, h5, h0, hl]
        simp only [go_sem, Nat.reduceLT, Nat.reduceAdd, Nat.reduceEqDiff, Nat.reduceLeDiff, Nat.reduceSub, Nat.reduceMul, Int.reduceEq, eq_self, reduceIte, hc, firstNZ_hit hz (by rw [this]; decide) hlt, this]
      · have hok : k = 0 ∨ lessB (nth e.ls (k - 1)) (nth e.ls k) = true := by
          rcases Nat.eq_zero_or_pos k with h | h
          · exact .inl h
          · exact .inr (ordI_lt.1 (by omega))
        have fin : ∀ H : List AObj, 1 ≤ H.length → H.take 1 = [.box (cE e)] → True := fun _ _ _ => trivial
        by_cases h0 : 0 < k
        · have hg1 : e.ls[k - 1]? = some (nth e.ls (k - 1)) := nth_get? _ _ (by omega)
          have e1 : IntKind.i64.wrap ((k : Int) - 1) = ((k - 1 : Nat) : Int) := by rw [IntWalk.i64_in _ (by omega)]; omega
          have d0 : decide ((0 : Int) < (k : Int)) = true := by simp; omega
          have hlt1 : k - 1 < e.ls.length := by omega
          have h6 : ¬ 0 ≤ ordI (nth e.ls (k - 1)) (nth e.ls k) := fun h => hb ⟨h0, h⟩
          have hl : lessB (nth e.ls (k - 1)) (nth e.ls k) = true := ordI_lt.1 (by omega)
          simp only [go_sem, Nat.reduceLT, Nat.reduceAdd, Nat.reduceEqDiff, Nat.reduceLeDiff, Nat.reduceSub, Nat.reduceMul, Int.reduceEq, eq_self, reduceIte, h5', d0, hlt1, hg1, e1, cId]
          refine ops_call (.pure (order_meets (nth e.ls (k - 1)) (nth e.ls k))) ?_
          by_cases h7 : (nth e.ls k).r = e.id.r <;> by_cases h8 : e.id.n ≤ (nth e.ls k).n <;> simp only [go_sem, Nat.reduceLT, Nat.reduceAdd, Nat.reduceEqDiff, Nat.reduceLeDiff, Nat.reduceSub, Nat.reduceMul, Int.reduceEq, eq_self, reduceIte, h6, h7, h8]
          · refine ret_pure hx ?_
            have : linkErr e.id e.ls k = 4 := by simp [linkErr, h5, hl, h7, h8]
            simp only [go_sem, Nat.reduceLT, Nat.reduceAdd, Nat.reduceEqDiff, Nat.reduceLeDiff, Nat.reduceSub, Nat.reduceMul, Int.reduceEq, eq_self, reduceIte, hc, firstNZ_hit hz (by rw [this]; decide) hlt, this]
          all_goals
            have : linkErr e.id e.ls k = 0 := by simp [linkErr, h5, hl, h7, h8]
            refine ⟨by simp, n - 1, by omega, k + 1, by omega, firstNZ_succ hz this, ?_⟩
            simp [trim_mk, go_sem, Nat.reduceLT, Nat.reduceAdd, Nat.reduceEqDiff, Nat.reduceLeDiff, Nat.reduceSub, Nat.reduceMul, Int.reduceEq, eq_self, reduceIte, subHeap, renObj, pos, List.range_succ, cE, w1]
        · have d0 : decide ((0 : Int) < (k : Int)) = false := by simp; omega
          by_cases h7 : (nth e.ls k).r = e.id.r <;> by_cases h8 : e.id.n ≤ (nth e.ls k).n <;> simp only [go_sem, Nat.reduceLT, Nat.reduceAdd, Nat.reduceEqDiff, Nat.reduceLeDiff, Nat.reduceSub, Nat.reduceMul, Int.reduceEq, eq_self, reduceIte, h5', d0, h7, h8]
          · refine ret_pure hx ?_
            have : linkErr e.id e.ls k = 4 := by simp [linkErr, h5, h0, h7, h8]
            simp only [go_sem, Nat.reduceLT, Nat.reduceAdd, Nat.reduceEqDiff, Nat.reduceLeDiff, Nat.reduceSub, Nat.reduceMul, Int.reduceEq, eq_self, reduceIte, hc, firstNZ_hit hz (by rw [this]; decide) hlt, this]
          all_goals
            have : linkErr e.id e.ls k = 0 := by simp [linkErr, h5, h0, h7, h8]
            refine ⟨by simp, n - 1, by omega, k + 1, by omega, firstNZ_succ hz this, ?_⟩
            simp [trim_mk, go_sem, Nat.reduceLT, Nat.reduceAdd, Nat.reduceEqDiff, Nat.reduceLeDiff, Nat.reduceSub, Nat.reduceMul, Int.reduceEq, eq_self, reduceIte, subHeap, renObj, pos, List.range_succ, cE, w1]
    · simp only [go_sem, Nat.reduceLT, Nat.reduceAdd, Nat.reduceEqDiff, Nat.reduceLeDiff, Nat.reduceSub, Nat.reduceMul, Int.reduceEq, eq_self, reduceIte, hlt]
      refine ret_pure hx ?_
      simp only [go_sem, Nat.reduceLT, Nat.reduceAdd, Nat.reduceEqDiff, Nat.reduceLeDiff, Nat.reduceSub, Nat.reduceMul, Int.reduceEq, eq_self, reduceIte]
      first | rw [hc, show e.ls.length = k by omega, hz] | rw [show e.ls.length = k by omega, hz]
end Go.Proofs.Ytkgobnnkcnnfhaa
/- What the law texts say of entries, in words of their own: contracts. -/
namespace Go.Proofs.Ytkgobnnkcnnfhaa
set_option linter.unusedSimpArgs false
set_option linter.unusedVariables false
open Go.RowKit
end Go.Proofs.Ytkgobnnkcnnfhaa
/- Ids and entries that are the same. -/
namespace Go.Proofs.Ytkgobnnkcnnfhaa
set_option linter.unusedSimpArgs false
set_option linter.unusedVariables false
open Go.RowKit
theorem ids_ext' {x y : List Id} (hl : x.length = y.length) (h : ∀ k, k < x.length → nth x k = nth y k) : x = y := by
  refine List.ext_getElem hl fun k h1 h2 => ?_
  have := h k h1
  rwa [nth_eq _ _ h1, nth_eq _ _ h2] at this
theorem i64_up {k : Nat} (h : k < 9223372036854775807) : IntKind.i64.wrap ((k : Int) + 1) = ((k + 1 : Nat) : Int) := by
  rw [IntWalk.i64_in _ (by omega)]; omega
theorem beqId (a b : Id) : (decide (a.r = b.r) && decide (a.n = b.n)) = decide (a = b) := by
  rw [Bool.eq_iff_iff]; simp [Id.eq_iff]
theorem sameIds_meets (a b : List Id) (hm : a.length ≤ 9223372036854775807) : Meets Try.prog 22 [.list (a.map cId), .list (b.map cId)] [] (.bool (decide (a = b))) [] := by
  refine Meets.of_walk Try.func22 Try.ntmps22 low22 res22 (by simp) fun x hx => ?_
  by_cases hl : a.length = b.length
  · have hl' : ((a.length : Int) = (b.length : Int)) = True := by simp [hl]
    simp only [go_sem, Nat.reduceLT, Nat.reduceAdd, Nat.reduceEqDiff, Nat.reduceLeDiff, Nat.reduceSub, Nat.reduceMul, Int.reduceEq, eq_self, reduceIte, L22, R22, hl']
    refine loop_inv [0, 1, 5] 0 (fun n st => ∃ k : Nat, k + n = a.length ∧ (∀ j, j < k → nth a j = nth b j) ∧
      st = ⟨mkE .top [(0, .list (a.map cId)), (1, .list (b.map cId)), (5, .int .i64 k)], []⟩) a.length (by simp [hx]) (by simp) ?_ ?_
    · refine ⟨0, by omega, fun j h => by omega, ?_⟩
      simp [trim_mk, go_sem, Nat.reduceLT, Nat.reduceAdd, Nat.reduceEqDiff, Nat.reduceLeDiff, Nat.reduceSub, Nat.reduceMul, Int.reduceEq, eq_self, reduceIte, subHeap, renObj, pos, List.range_succ]
    · rintro n st ⟨k, hk, hz, rfl⟩
      simp only [go_sem, Nat.reduceLT, Nat.reduceAdd, Nat.reduceEqDiff, Nat.reduceLeDiff, Nat.reduceSub, Nat.reduceMul, Int.reduceEq, eq_self, reduceIte]
      by_cases hlt : k < a.length
      · have hg : a[k]? = some (nth a k) := nth_get? _ _ hlt
        have hlt2 : k < b.length := by omega
        have hg2 : b[k]? = some (nth b k) := nth_get? _ _ hlt2
        have hw := i64_up (k := k) (by omega)
        by_cases he : nth a k = nth b k
        · simp only [go_sem, Nat.reduceLT, Nat.reduceAdd, Nat.reduceEqDiff, Nat.reduceLeDiff, Nat.reduceSub, Nat.reduceMul, Int.reduceEq, eq_self, reduceIte, hlt, hlt2, hg, hg2, cId, he, hw]
          refine ⟨by simp, n - 1, by omega, k + 1, by omega, fun j hj => ?_, ?_⟩
          · by_cases e : j = k
            · rw [e]; exact he
            · exact hz j (by omega)
          · simp [trim_mk, go_sem, Nat.reduceLT, Nat.reduceAdd, Nat.reduceEqDiff, Nat.reduceLeDiff, Nat.reduceSub, Nat.reduceMul, Int.reduceEq, eq_self, reduceIte, subHeap, renObj, pos]
        · simp only [go_sem, Nat.reduceLT, Nat.reduceAdd, Nat.reduceEqDiff, Nat.reduceLeDiff, Nat.reduceSub, Nat.reduceMul, Int.reduceEq, eq_self, reduceIte, hlt, hlt2, hg, hg2, cId, beqId, he]
          refine ret_pure hx ?_
          have : ¬ a = b := fun e => he (by rw [e])
          simp [go_sem, Nat.reduceLT, Nat.reduceAdd, Nat.reduceEqDiff, Nat.reduceLeDiff, Nat.reduceSub, Nat.reduceMul, Int.reduceEq, eq_self, reduceIte, L22, R22, this]
      · simp only [go_sem, Nat.reduceLT, Nat.reduceAdd, Nat.reduceEqDiff, Nat.reduceLeDiff, Nat.reduceSub, Nat.reduceMul, Int.reduceEq, eq_self, reduceIte, hlt, decide_false]
        refine ret_pure hx ?_
        have : a = b := ids_ext' hl fun j hj => hz j (by omega)
        simp [go_sem, Nat.reduceLT, Nat.reduceAdd, Nat.reduceEqDiff, Nat.reduceLeDiff, Nat.reduceSub, Nat.reduceMul, Int.reduceEq, eq_self, reduceIte, L22, R22, this]
  · have hl' : ((a.length : Int) = (b.length : Int)) = False := by simp; omega
    simp only [go_sem, Nat.reduceLT, Nat.reduceAdd, Nat.reduceEqDiff, Nat.reduceLeDiff, Nat.reduceSub, Nat.reduceMul, Int.reduceEq, eq_self, reduceIte, L22, R22, hl']
    refine ret_pure hx ?_
    have : ¬ a = b := fun e => hl (by rw [e])
    simp [go_sem, Nat.reduceLT, Nat.reduceAdd, Nat.reduceEqDiff, Nat.reduceLeDiff, Nat.reduceSub, Nat.reduceMul, Int.reduceEq, eq_self, reduceIte, L22, R22, this]
end Go.Proofs.Ytkgobnnkcnnfhaa
/- Entries that are the same; what is wrong with an entry, in the law text's words. -/
namespace Go.Proofs.Ytkgobnnkcnnfhaa
set_option linter.unusedSimpArgs false
set_option linter.unusedVariables false
open Go.RowKit
def sameE (a b : Entry) : Bool := decide (a.id = b.id) && decide (a.c = b.c) && decide (a.t = b.t) && decide (a.ls = b.ls)
theorem sameEntry_meets (a b : Entry) : Meets Try.prog 9 [.agg (cE a), .agg (cE b)] [] (.bool (sameE a b)) [] := by
  refine Meets.len2 0 4 rfl (by simp [cE]; rfl) fun hm => ?_
  have hm' : a.ls.length ≤ 9223372036854775807 := by simp [maxLen] at hm; omega
  refine Meets.of_walk Try.func9 Try.ntmps9 low9 res9 (by simp) fun x hx => ?_
  by_cases h1 : a.id = b.id
  · by_cases h2 : a.c = b.c
    · by_cases h3 : a.t = b.t
      · simp only [go_sem, Nat.reduceLT, Nat.reduceAdd, Nat.reduceEqDiff, Nat.reduceLeDiff, Nat.reduceSub, Nat.reduceMul, Int.reduceEq, eq_self, reduceIte, L9, R9, cE, beqId, h1, h2, h3]
        refine ops_call (.pure (sameIds_meets _ _ hm')) ?_
        simp only [go_sem, Nat.reduceLT, Nat.reduceAdd, Nat.reduceEqDiff, Nat.reduceLeDiff, Nat.reduceSub, Nat.reduceMul, Int.reduceEq, eq_self, reduceIte]
        refine ret_pure hx ?_
        simp [go_sem, Nat.reduceLT, Nat.reduceAdd, Nat.reduceEqDiff, Nat.reduceLeDiff, Nat.reduceSub, Nat.reduceMul, Int.reduceEq, eq_self, reduceIte, L9, R9, sameE, h1, h2, h3]
      · simp only [go_sem, Nat.reduceLT, Nat.reduceAdd, Nat.reduceEqDiff, Nat.reduceLeDiff, Nat.reduceSub, Nat.reduceMul, Int.reduceEq, eq_self, reduceIte, L9, R9, cE, beqId, h1, h2, h3]
        refine ret_pure hx ?_
        simp [go_sem, Nat.reduceLT, Nat.reduceAdd, Nat.reduceEqDiff, Nat.reduceLeDiff, Nat.reduceSub, Nat.reduceMul, Int.reduceEq, eq_self, reduceIte, L9, R9, sameE, h1, h2, h3]
    · simp only [go_sem, Nat.reduceLT, Nat.reduceAdd, Nat.reduceEqDiff, Nat.reduceLeDiff, Nat.reduceSub, Nat.reduceMul, Int.reduceEq, eq_self, reduceIte, L9, R9, cE, beqId, h1, h2]
      refine ret_pure hx ?_
      simp [go_sem, Nat.reduceLT, Nat.reduceAdd, Nat.reduceEqDiff, Nat.reduceLeDiff, Nat.reduceSub, Nat.reduceMul, Int.reduceEq, eq_self, reduceIte, L9, R9, sameE, h1, h2]
  · simp only [go_sem, Nat.reduceLT, Nat.reduceAdd, Nat.reduceEqDiff, Nat.reduceLeDiff, Nat.reduceSub, Nat.reduceMul, Int.reduceEq, eq_self, reduceIte, L9, R9, cE, beqId, h1]
    refine ret_pure hx ?_
    simp [go_sem, Nat.reduceLT, Nat.reduceAdd, Nat.reduceEqDiff, Nat.reduceLeDiff, Nat.reduceSub, Nat.reduceMul, Int.reduceEq, eq_self, reduceIte, L9, R9, sameE, h1]
end Go.Proofs.Ytkgobnnkcnnfhaa
/- slices.Compact at ids: in memory. -/
namespace Go.Proofs.Ytkgobnnkcnnfhaa
open Go.RowKit Go.Lib Go.Sort
open Go.Shelf

def eId (x : Id) : List Value := [.int .i64 x.r, .int .i64 x.n]
theorem setMany_flat {α : Type} [Inhabited α] (enc : α → List Value) (k : Nat) (hk : ∀ x, (enc x).length = k) (d : Array α) (i : Nat) (hi : i < d.size) (x : α) : setMany (flatK enc k d) (i * k) (enc x) = flatK enc k (d.setIfInBounds i x) := by
  refine ext_get! (by simp) fun t ht => ?_
  have ht' : t < d.size * k := by simpa using ht
  have k0 : 0 < k := by rcases Nat.eq_zero_or_pos k with h | h; · subst h; simp at ht'
                        · exact h
  rw [get_setMany _ _ _ t (by simpa using ht'), get_flatK _ _ _ t ht', get_flatK _ _ _ t (by simpa using ht'), hk]
  by_cases a : t / k = i
  · have m : t - i * k = t % k := by subst a; rw [Nat.mod_eq_sub_div_mul]
    rw [if_pos ((blk_iff k i t k0).2 a), m, a, getElem!_set_same d i x hi]
  · rw [if_neg (fun h => a ((blk_iff k i t k0).1 h)), getElem!_set_other d i _ x a]

/-- 'clear(s)' at elements of k cells -/
theorem run_clear_cells {P : Program} (w : World) (t e ty : TypeId) (z : Value) (ht : P.underlying t = some (.slice e)) (hv : ∀ w, (zeroValue e).run P w = .ok z w) (h1 : ∀ v ∈ z.cells, v.oneCell' = true) (b o n c : Nat) (hn : 0 < n)
    (hc : ∀ j, j < n * z.cells.size → (w.cell? ⟨b, o + j, none⟩).isSome = true) (hf : ∀ j, j < n * z.cells.size → w.frozen? ⟨b, o + j, none⟩ = false) :
    ∃ zs : List Value, zs.length = n * z.cells.size ∧ (Builtin.clear_ #[t] ty #[.slice (some ⟨b, o, none⟩) n c]).run P w = .ok (.tuple #[]) (w.setCells b o zs) := by
  refine ⟨(Builtin.zeroCells z.cells n).toList, by simp [Builtin.zeroCells, Nat.mul_comm], ?_⟩
  have hst := run_storeCells_cells (P := P) b o (Builtin.zeroCells z.cells n).toList 0 w (by simpa [Builtin.zeroCells, Nat.mul_comm] using hc) (by simpa [Builtin.zeroCells, Nat.mul_comm] using hf) (by
    intro v hv'
    obtain ⟨i, hi, rfl⟩ := List.mem_iff_getElem.1 hv'
    simp only [Builtin.zeroCells, Array.getElem_toList, Array.getElem_map, Array.getElem_range]
    have hs : 0 < z.cells.size := by
      rcases Nat.eq_zero_or_pos z.cells.size with h | h
      · simp [Builtin.zeroCells, h] at hi
      · exact h
    have := Nat.mod_lt i hs
    exact h1 _ (by simp [getElem!_pos, this]))
  simp only [Nat.add_zero] at hst
  obtain ⟨m, rfl⟩ : ∃ m, n = m + 1 := ⟨n - 1, by omega⟩
  simp [Builtin.clear_, run_underlying ht, hv, hst]
theorem eId_len (x : Id) : (eId x).length = 2 := rfl
theorem eId_one (x : Id) : ∀ v ∈ eId x, v.oneCell' = true := by
  intro v hv; simp [eId] at hv; rcases hv with rfl | rfl <;> rfl
theorem holdsK_two {w : World} {blk off : Nat} {d : Array Id} (h : HoldsK eId 2 w blk off d) {i : Nat} (hi : i < d.size) :
    w.cell? ⟨blk, off + i * 2, none⟩ = some (.int .i64 d[i]!.r) ∧ w.cell? ⟨blk, off + i * 2 + 1, none⟩ = some (.int .i64 d[i]!.n) ∧ w.frozen? ⟨blk, off + i * 2, none⟩ = false ∧ w.frozen? ⟨blk, off + i * 2 + 1, none⟩ = false :=
  ⟨(h.cell hi (c := 0) (by omega)).1, (h.cell hi (c := 1) (by omega)).1, (h.cell hi (c := 0) (by omega)).2, (h.cell hi (c := 1) (by omega)).2⟩
theorem store_world_id {w wr : World} {n blk off : Nat} {dk : Array Id} {i : Nat} (hi : i < dk.size) (hwr : wr = putRowK eId 2 (Sort.ahead w n) blk off dk) (x : Id) :
    wr.setCells blk (off + i * 2) (eId x) = putRowK eId 2 (Sort.ahead w n) blk off (dk.setIfInBounds i x) := by
  subst hwr
  unfold putRowK
  rw [setCells_putRow _ _ _ _ _ _ (by rw [size_flatK, eId_len]; omega), setMany_flat eId 2 eId_len dk i hi x]

/-- what a row holds behind Compact -/
def CompOut (w : World) (blk off : Nat) (d : Array Id) (w' : World) : Prop :=
  ∃ (q : Nat) (F : Array Value), F.size = d.size * 2 ∧ (∀ t, t < (compactUpTo d d.size).length * 2 → F[t]! = (flatK eId 2 (compactUpTo d d.size).toArray)[t]!) ∧ w' = putRow id (Sort.ahead w q) blk off F
theorem compOut_same {w : World} {blk off : Nat} {d : Array Id} (hH : HoldsK eId 2 w blk off d) (q : Nat) (hall : ∀ j, j < d.size → keeps d j = true) : (compactUpTo d d.size).length = d.size ∧ CompOut w blk off d (w.drewN q) := by
  have e : compactUpTo d d.size = d.toList := by rw [compactUpTo_all d _ hall, range_map_get]
  refine ⟨by rw [e]; simp, q, flatK eId 2 d, size_flatK _ _ _, fun t _ => by rw [e], ?_⟩
  exact (putRow_self id (Sort.ahead w q) blk off _ (holdsK_ahead eId 2 w q blk off d hH)).symm

set_option maxHeartbeats 4000000 in
set_option maxRecDepth 1000000 in
theorem compactI_calls (blk off cap : Nat) (d : Array Id) (w : World) (hH : HoldsK eId 2 w blk off d) (hsz : d.size ≤ 9223372036854775807) (hcap : d.size ≤ cap) :
    Calls Try.prog 72 #[.slice (some ⟨blk, off, none⟩) d.size cap] w fun e w' => e = .returned (.slice (some ⟨blk, off, none⟩) (compactUpTo d d.size).length cap) ∧ CompOut w blk off d w' := by
  have mixed : Try.prog.follows Departure.mixedOrders = true := rfl
  have HS : Aside (∀ q, (∀ j, j < d.size → keeps d j = true) → (compactUpTo d d.size).length = d.size ∧ CompOut w blk off d (w.drewN q)) := fun q => compOut_same hH q
  by_cases h2 : d.size < 2
  · have HH : Aside (HoldsK eId 2 w blk off d) := hH
    clear hH
    go_enter Try.func72, Try.ntmps72
    go_wp2
    go_ret
    obtain ⟨e1, e2⟩ := HS.out 0 (fun j hj => keeps_lt_one d j (by omega))
    exact ⟨by rw [e1]; rfl, e2⟩
  · go_enter Try.func72, Try.ntmps72
    go_wp2
    go_loopg [3] d.size (fun g s3 wr => ∃ k q : Nat, 1 ≤ k ∧ k ≤ d.size ∧ d.size - k ≤ g ∧ s3 = .int .i64 k ∧ wr = w.drewN q ∧ ∀ j, j < k → keeps d j = true)
    case atStart => exact ⟨1, 0, Nat.le_refl _, by omega, by omega, rfl, rfl, keeps_lt_one d⟩
    case round =>
      obtain ⟨k, q, hk1, hk, hg, rfl, rfl, hall⟩ := hrel
      by_cases hlt : k < d.size
      · obtain ⟨c1, c1', f1, f1'⟩ := holdsK_two hH hlt
        obtain ⟨c0, c0', f0, f0'⟩ := holdsK_two hH (i := k - 1) (by omega)
        have A : Aside (∀ j, j < k → keeps d j = true) := hall
        have HH : Aside (HoldsK eId 2 w blk off d) := hH
        clear hall hH f1 f1' f0 f0'
        generalize hx : d[k]! = x at c1 c1'
        generalize hy : d[k - 1]! = y at c0 c0'
        have B : Aside (d[k]! = x ∧ d[k - 1]! = y) := ⟨hx, hy⟩
        clear hx hy
        by_cases hdup : x = y
        · subst hdup
          go_wp2_with fail
          go_region_o
          go_wp2
          clear c0 c1 c0' c1'
          go_loopg [3, 5] d.size (fun g s3 s5 wr => ∃ (kk k2 q2 : Nat) (dk : Array Id), s3 = .int .i64 kk ∧ s5 = .int .i64 k2 ∧ 1 ≤ k2 ∧ k + k2 ≤ d.size ∧ d.size - (k + k2) ≤ g ∧ wr = putRowK eId 2 (Sort.ahead w q2) blk off dk ∧ CompInv d (k + k2) kk dk)
          case atStart => exact ⟨k, 1, q + 1, d, rfl, rfl, Nat.le_refl _, by omega, by omega, (putRowK_self eId 2 (Sort.ahead w (q + 1)) blk off d (holdsK_ahead eId 2 w (q + 1) blk off d HH.out)).symm, CompInv.start A.out (keeps_neg (by omega) (by rw [B.out.1, B.out.2]))⟩
          case round =>
            obtain ⟨kk, k2, q2, dk, rfl, rfl, h1, hle, hg2, hwr, hI⟩ := hrel
            have hkk := hI.lt
            have hds := hI.size
            have hHk : HoldsK eId 2 wr blk off dk := by rw [hwr]; exact holdsK_putRowK eId 2 _ blk off d dk (holdsK_ahead eId 2 w q2 blk off d HH.out) hds
            have W2 : Aside (wr = putRowK eId 2 (Sort.ahead w q2) blk off dk) := hwr
            have I2 : Aside (CompInv d (k + k2) kk dk) := hI
            clear hwr
            by_cases hlt2 : k + k2 < d.size
            · obtain ⟨cm, cm', -, -⟩ := holdsK_two hHk (i := k + k2) (by omega)
              obtain ⟨cp, cp', -, -⟩ := holdsK_two hHk (i := k + k2 - 1) (by omega)
              obtain ⟨ck, ck', fk, fk'⟩ := holdsK_two hHk (i := kk) (by omega)
              rw [hI.high (k + k2) (by omega), show off + (k + k2) * 2 = off + k * 2 + k2 * 2 by omega] at cm cm'
              rw [hI.high (k + k2 - 1) (by omega), show off + (k + k2 - 1) * 2 = off + k * 2 + (k2 - 1) * 2 by omega] at cp cp'
              clear hHk hI
              generalize hu : d[k + k2]! = u at cm cm'
              generalize hv : d[k + k2 - 1]! = v at cp cp'
              generalize dk[kk]! = old at ck ck'
              have C : Aside (d[k + k2]! = u ∧ d[k + k2 - 1]! = v) := ⟨hu, hv⟩
              clear hu hv
              by_cases huv : u = v
              · subst huv
                go_wp2_with fail
                go_region_o
                go_wp2
                go_roundg (d.size - (k + (k2 + 1)))
                case measure => omega
                case rel => exact ⟨kk, k2 + 1, q2 + 1, dk, rfl, by go_num, by omega, by omega, Nat.le_refl _, by rw [W2.out]; rfl, I2.out.skip (keeps_neg (by omega) (by rw [C.out.1, C.out.2]))⟩
              · have N : Aside (u ≠ v) := huv
                obtain ⟨ur, un⟩ := u
                obtain ⟨vr, vn⟩ := v
                simp only at cm cm' cp cp'
                by_cases hr : ur = vr
                · subst hr
                  have hn : un ≠ vn := fun e => huv (by rw [e])
                  clear huv
                  go_wp2_with fail
                  go_region_o
                  go_wp2
                  go_roundg (d.size - (k + (k2 + 1)))
                  case measure => omega
                  case rel =>
                    refine ⟨kk + 1, k2 + 1, q2 + 1, dk.setIfInBounds kk ⟨ur, un⟩, by go_num, by go_num, by omega, by omega, Nat.le_refl _, ?_, ?_⟩
                    · exact store_world_id (wr := wr.drew) (n := q2 + 1) (by omega) (by rw [W2.out]; rfl) ⟨ur, un⟩
                    · have := I2.out.keep hlt2 (keeps_pos (by rw [C.out.1, C.out.2]; exact N.out)); rwa [C.out.1] at this
                · clear huv
                  go_wp2_with fail
                  go_region_o
                  go_wp2
                  go_roundg (d.size - (k + (k2 + 1)))
                  case measure => omega
                  case rel =>
                    refine ⟨kk + 1, k2 + 1, q2 + 1, dk.setIfInBounds kk ⟨ur, un⟩, by go_num, by go_num, by omega, by omega, Nat.le_refl _, ?_, ?_⟩
                    · exact store_world_id (wr := wr.drew) (n := q2 + 1) (by omega) (by rw [W2.out]; rfl) ⟨ur, un⟩
                    · have := I2.out.keep hlt2 (keeps_pos (by rw [C.out.1, C.out.2]; exact N.out)); rwa [C.out.1] at this
            · have hend : k + k2 = d.size := by omega
              obtain ⟨zs, hzl, hcl⟩ : ∃ zs : List Value, zs.length = (d.size - kk) * 2 ∧ ∀ ty, (Builtin.clear_ #[36] ty #[.slice (some ⟨blk, off + kk * 2, none⟩) (d.size - kk) (cap - kk)]).run Try.prog wr = .ok (.tuple #[]) (wr.setCells blk (off + kk * 2) zs) := by
                obtain ⟨zs, h1, h2⟩ := run_clear_cells (P := Try.prog) wr 36 35 0 (.agg #[.int .i64 0, .int .i64 0]) rfl (fun _ => by kernel_rfl) (by intro v hv; simp [Value.cells] at hv; rcases hv with rfl | rfl <;> rfl) blk (off + kk * 2) (d.size - kk) (cap - kk) (by omega)
                  (fun j hj => by
                    have hj' : j < (d.size - kk) * 2 := hj
                    have := (hHk (kk * 2 + j) (by rw [size_flatK]; omega)).1
                    rw [← Nat.add_assoc] at this
                    rw [this]; rfl) (fun j hj => by
                    have hj' : j < (d.size - kk) * 2 := hj
                    have := (hHk (kk * 2 + j) (by rw [size_flatK]; omega)).2
                    rwa [← Nat.add_assoc] at this)
                exact ⟨zs, h1, fun ty => h2⟩
              clear hHk hI
              go_wp2
              go_ret
              have hI := I2.out
              rw [hend] at hI
              refine ⟨by rw [hI.len]; rfl, q2, setMany (flatK eId 2 dk) (kk * 2) zs, by simp [hI.size], fun t ht => ?_, ?_⟩
              · rw [hI.len] at ht
                have hts : t < dk.size * 2 := by have := hI.size; omega
                have hq : t / 2 < kk := by omega
                rw [get_setMany _ _ _ t (by rw [size_flatK]; exact hts), if_neg (by omega), get_flatK _ _ _ _ hts, get_flatK _ _ _ _ (by simp [hI.len]; omega)]
                have := hI.low (t / 2) hq
                rw [show (compactUpTo d d.size).toArray[t / 2]! = dk[t / 2]! by simp [this]]
              · rw [W2.out]
                unfold putRowK
                exact setCells_putRow _ _ _ _ _ _ (by rw [size_flatK, hzl]; have := hI.size; omega)
        · have B' : Aside (x ≠ y) := hdup
          obtain ⟨xr, xn⟩ := x
          obtain ⟨yr, yn⟩ := y
          simp only at c0 c0' c1 c1'
          by_cases hr : xr = yr
          · subst hr
            have hn : xn ≠ yn := fun e => hdup (by rw [e])
            clear hdup
            go_wp2_with fail
            go_region_o
            go_wp2
            go_roundg (d.size - (k + 1))
            case measure => omega
            case rel =>
              refine ⟨k + 1, q + 1, by omega, by omega, Nat.le_refl _, by go_num, rfl, fun j hj => ?_⟩
              by_cases e : j = k
              · subst e
                exact keeps_pos (by rw [B.out.1, B.out.2]; exact B'.out)
              · exact A.out j (by omega)
          · clear hdup
            go_wp2_with fail
            go_region_o
            go_wp2
            go_roundg (d.size - (k + 1))
            case measure => omega
            case rel =>
              refine ⟨k + 1, q + 1, by omega, by omega, Nat.le_refl _, by go_num, rfl, fun j hj => ?_⟩
              by_cases e : j = k
              · subst e
                exact keeps_pos (by rw [B.out.1, B.out.2]; exact B'.out)
              · exact A.out j (by omega)
      · have : k = d.size := by omega
        subst this
        have HH : Aside (HoldsK eId 2 w blk off d) := hH
        clear hH
        go_wp2
        go_ret
        obtain ⟨e1, e2⟩ := HS.out q hall
        exact ⟨by rw [e1]; rfl, e2⟩
set_option maxHeartbeats 1000000 in
theorem compactI_nil (w : World) : Calls Try.prog 72 #[.slice none 0 0] w fun e w' => e = .returned (.slice none 0 0) ∧ w' = w := by
  go_enter Try.func72, Try.ntmps72
  go_wp2
  go_ret
  exact ⟨rfl, rfl⟩
end Go.Proofs.Ytkgobnnkcnnfhaa
/- slices.Compact at ids: as a contract: an array becomes a list. -/
namespace Go.Proofs.Ytkgobnnkcnnfhaa
open Go.RowKit
open Go.Sort (flatK putRowK HoldsK size_flatK get_flatK putCells mapBlock onCells)

theorem flat_id : Flat cId eId 2 where
  k0 := by omega
  len := fun _ => rfl
  lenp := fun _ => rfl
  one := eId_one
  fit := fun S w a j p h => by
    rcases j with _ | _ | j
    · cases h; exact .int _ _
    · cases h; exact .int _ _
    · simp [cId] at h
  back := fun S w a j p u h hr => by
    rcases j with _ | _ | j
    · cases h; cases hr; rfl
    · cases h; cases hr; rfl
    · simp [cId] at h

section
variable {x : Cx} {C : Conc} {H : List AObj} {w w' : World}
theorem HR.dropNil (hr : HR x C H w) {id v T sz : Nat} {sto ipu : Bool} (hid : H[id]? = some (.arr v sto ipu T sz [])) :
    HR x C (H.set id .gone) w ∧ (∀ p u, RepV (Stab x C H w) w C p u → RepV (Stab x C (H.set id .gone) w) w C p u) :=
  hr.change (C' := C) hid (ob' := .gone) (step_refl w) rfl (fun _ => rfl) (fun _ _ => ⟨rfl, rfl⟩) (.inl ⟨rfl, rfl⟩) (fun b o hb hf => trivial) (fun b o hb hf => rfl) (fun b hb => hb.elim) (fun _ _ => trivial)

theorem row_worldF (w : World) (g m : Nat) (F : Array Value) {cur : Array Value} {T : TypeId} {fr : Nat × Nat} (hc : w.heap[g]? = some (.cells cur T fr)) :
    ∃ cur' : Array Value, (Go.Sort.putRow id (Go.Sort.ahead w m) g 0 F).heap[g]? = some (.cells cur' T fr) ∧ cur'.size = cur.size ∧
      (∀ t y, t < F.size → cur'[t]? = some y → y = F[t]!) ∧ Step w (Go.Sort.putRow id (Go.Sort.ahead w m) g 0 F) (fun b => b = g) := by
  have hlt : g < w.heap.size := (Array.getElem?_eq_some_iff.1 hc).1
  have hh : (Go.Sort.putRow id (Go.Sort.ahead w m) g 0 F).heap = w.heap.modify g (onCells (putCells id 0 F)) := rfl
  refine ⟨putCells id 0 F cur, ?_, by simp [putCells], fun t y ht hy => ?_, ?_⟩
  · rw [hh, Array.getElem?_modify, if_pos rfl, hc]
    rfl
  · rw [putCells, Array.getElem?_mapIdx] at hy
    cases hcu : cur[t]? with
    | none => rw [hcu] at hy; cases hy
    | some z =>
      rw [hcu, Option.map_some, if_pos ⟨Nat.zero_le _, by omega⟩] at hy
      exact (Option.some.inj hy).symm
  · refine ⟨by rw [hh]; simp, rfl, rfl, rfl, fun b hb hne => ?_⟩
    rw [hh, Array.getElem?_modify, if_neg (fun e => hne e.symm)]
end

theorem one_arg {vs : Array Value} (h : vs.toList.length = 1) : ∃ a, vs = #[a] ∧ vs.toList[0]? = some a := by
  obtain ⟨l⟩ := vs
  obtain ⟨a, rfl⟩ := List.length_eq_one_iff.1 h
  exact ⟨a, rfl, rfl⟩
theorem two_args {vs : Array Value} (h : vs.toList.length = 2) : ∃ a b, vs = #[a, b] ∧ vs.toList[0]? = some a ∧ vs.toList[1]? = some b := by
  obtain ⟨l⟩ := vs
  match l, h with
  | [a, b], _ => exact ⟨a, b, rfl, rfl, rfl⟩

/-- neighbours that are one are one -/
def compI (l : List Id) : List Id := Lib.compact l

theorem compactIds_meets (l : List Id) (v T : Nat) (hl : l.length ≤ 9223372036854775807) :
    Meets Try.prog 72 [.arr 0 v] [.arr v true false T 2 (l.map cId)] (.list ((compI l).map cId)) [.gone] := by
  intro x vs hx h0 hp
  obtain ⟨a, rfl, h1⟩ := one_arg hp.1
  have ha := hp.2 0 _ _ rfl h1
  obtain ⟨e1, e2, e3⟩ := h0.row (id := 0) rfl ha
  rcases e3 with ⟨rfl, hnil⟩ | ⟨g, cap, cur, rfl, hc, hcap, hm, hz, hrow⟩
  · have : l = [] := by simpa using hnil
    subst this
    refine (compactI_nil x.w0).mono ?_
    rintro e w' ⟨rfl, rfl⟩
    obtain ⟨k1, k2⟩ := h0.dropNil (id := 0) (v := v) (T := T) (sz := 2) rfl
    exact ⟨_, x.C0, rfl, k1, .pure repP_nil⟩
  · have hH := flat_id.holds l hc hrow
    have key := compactI_calls g 0 cap l.toArray x.w0 hH (by simpa using hl) (by simpa using hcap)
    rw [List.length_map]
    refine Calls.mono key ?_
    rintro e w' ⟨rfl, q, F, f1, f2, rfl⟩
    obtain ⟨cur', c1, c2, c3, c4⟩ := row_worldF x.w0 g q F hc
    have hown : (x.C0.sv 0).ownBlock = some g := by rw [← e1]; rfl
    have hle : (compI l).length ≤ l.length := by
      show (Lib.compactUpTo l.toArray l.length).length ≤ _
      unfold Lib.compactUpTo
      rw [List.length_map]
      exact Nat.le_trans (List.length_filter_le _ _) (by simp)
    have hcl : ((compI l).map cId).length ≤ cap := by rw [List.length_map]; rw [List.length_map] at hcap; omega
    obtain ⟨k1, k2, k3⟩ := h0.drop (id := 0) (g := g) (cap' := cap) (rows' := (compI l).map cId) (cur' := cur') rfl
      ⟨c4.size, c4.os, c4.tape, c4.output, fun b hb hne => c4.blk b hb fun e => hne (by rw [hown, e])⟩ hown c1 hcl hm (by rw [c2, hz])
      (fun row hr => by obtain ⟨y, -, rfl⟩ := List.mem_map.1 hr; rfl)
      (fun k row j p u a b c => (flat_id.rep (d' := (compI l).toArray) (cur' := cur') (fun t y ht hy => by
        rw [c3 t y (by rw [f1]; simp at ht ⊢; omega) hy]
        refine f2 t ?_
        rw [List.size_toArray] at ht
        rw [List.size_toArray]
        exact ht) (compI l).length (fun i hi => by simp [hi]) rfl (by simp) k row j p u a b c).2)
    refine ⟨_, x.C0, rfl, k1, .pure ?_⟩
    rw [List.length_map] at k3
    exact k3
end Go.Proofs.Ytkgobnnkcnnfhaa
/- slices.Delete of one element of k cells: in memory, and as a contract. -/
namespace Go.Proofs.Ytkgobnnkcnnfhaa
open Go.RowKit Go.Lib Go.Sort
open Go.Shelf

/-- cells of a row whose element i went away -/
def DelF (k n i : Nat) (cs F : Array Value) : Prop := F.size = cs.size ∧ ∀ t, t < (n - 1) * k → F[t]! = if t < i * k then cs[t]! else cs[t + k]!
def DelOut (k n i : Nat) (w : World) (blk : Nat) (cs : Array Value) (w' : World) : Prop := ∃ (q : Nat) (F : Array Value), DelF k n i cs F ∧ w' = putRow id (Sort.ahead w q) blk 0 F

theorem delF_of {k n i : Nat} {cs : Array Value} (hz : n * k ≤ cs.size) (hi : i < n) (news zs : List Value) (hn : news.length = (n - (i + 1)) * k) (hnew : ∀ t, t < news.length → news[t]! = cs[(i + 1) * k + t]!) :
    DelF k n i cs (setMany (setMany cs (i * k) news) ((n - 1) * k) zs) := by
  refine ⟨by simp, fun t ht => ?_⟩
  obtain ⟨m, rfl⟩ : ∃ m, n = i + 1 + m := ⟨n - (i + 1), by omega⟩
  have e1 : i + 1 + m - (i + 1) = m := by omega
  have e2 : i + 1 + m - 1 = i + m := by omega
  rw [e1] at hn
  rw [e2] at ht ⊢
  have e3 : (i + 1 + m) * k = i * k + k + m * k := by rw [Nat.add_mul, Nat.add_mul, Nat.one_mul]
  have e4 : (i + m) * k = i * k + m * k := Nat.add_mul _ _ _
  have e5 : (i + 1) * k = i * k + k := by rw [Nat.add_mul, Nat.one_mul]
  rw [e3] at hz
  rw [e4] at ht ⊢
  rw [e5] at hnew
  rw [get_setMany _ _ _ t (by simp; omega), if_neg (by omega), get_setMany _ _ _ t (by omega)]
  by_cases h : t < i * k
  · rw [if_neg (by omega), if_pos h]
  · rw [if_pos (by omega), if_neg h, hnew _ (by omega), show i * k + k + (t - i * k) = t + k by omega]

theorem three_args {vs : Array Value} (h : vs.toList.length = 3) : ∃ a b c, vs = #[a, b, c] ∧ vs.toList[0]? = some a ∧ vs.toList[1]? = some b ∧ vs.toList[2]? = some c := by
  obtain ⟨l⟩ := vs
  match l, h with
  | [a, b, c], _ => exact ⟨a, b, c, rfl, rfl, rfl, rfl⟩
theorem del_rep {S : Nat → Nat → Prop} {w : World} {rows : List (List PV)} {cur cur' F : Array Value} {sz n i : Nat} (hn : rows.length = n) (hi : i < n) (hz : ∀ row ∈ rows, row.length = sz) (hcs : n * sz ≤ cur.size) (hF : DelF sz n i cur F)
    (hc' : ∀ t y, t < F.size → cur'[t]? = some y → y = F[t]!)
    (hrow : ∀ (k : Nat) row (j : Nat) p, rows[k]? = some row → row[j]? = some p → ∃ y, cur[k * sz + j]? = some y ∧ y.oneCell' = true ∧ RepP S w p y) :
    ∀ (k : Nat) row (j : Nat) p u, (rows.eraseIdx i)[k]? = some row → row[j]? = some p → cur'[k * sz + j]? = some u → u.oneCell' = true ∧ RepP S w p u := by
  intro k row j p u a b c
  have hk : k < n - 1 := by
    have := (List.getElem?_eq_some_iff.1 a).1
    rw [List.length_eraseIdx, if_pos (by omega)] at this; omega
  have hj : j < sz := by rw [← hz row (List.mem_of_mem_eraseIdx (List.mem_of_getElem? a))]; exact (List.getElem?_eq_some_iff.1 b).1
  have hle : (k + 1) * sz ≤ (n - 1) * sz := Nat.mul_le_mul_right _ (by omega)
  have hle2 : (n - 1) * sz ≤ n * sz := Nat.mul_le_mul_right _ (by omega)
  rw [Nat.add_mul, Nat.one_mul] at hle
  have hu := hc' _ _ (by rw [hF.1]; omega) c
  rw [hF.2 _ (by omega)] at hu
  rw [List.getElem?_eraseIdx] at a
  by_cases hki : k < i
  · rw [if_pos hki] at a
    have : (k + 1) * sz ≤ i * sz := Nat.mul_le_mul_right _ (by omega)
    rw [Nat.add_mul, Nat.one_mul] at this
    rw [if_pos (by omega)] at hu
    obtain ⟨y, y1, y2, y3⟩ := hrow k row j p a b
    obtain ⟨y4, y5⟩ := Array.getElem?_eq_some_iff.1 y1
    rw [getElem!_pos cur _ y4, y5] at hu
    subst hu
    exact ⟨y2, y3⟩
  · rw [if_neg hki] at a
    have : i * sz ≤ k * sz := Nat.mul_le_mul_right _ (by omega)
    rw [if_neg (by omega)] at hu
    obtain ⟨y, y1, y2, y3⟩ := hrow (k + 1) row j p a b
    rw [show (k + 1) * sz + j = k * sz + j + sz by rw [Nat.add_mul, Nat.one_mul]; omega] at y1
    obtain ⟨y4, y5⟩ := Array.getElem?_eq_some_iff.1 y1
    rw [getElem!_pos cur _ y4, y5] at hu
    subst hu
    exact ⟨y2, y3⟩
theorem holds_cur {w : World} {g T : Nat} {cur : Array Value} (hc : w.heap[g]? = some (.cells cur T (0, 0))) : Holds id w g 0 cur := by
  intro t ht
  refine ⟨?_, ?_⟩
  · simp [World.cell?, hc, getElem!_pos cur t ht, ht]
  · simp [World.frozen?, hc]

set_option maxHeartbeats 4000000 in
set_option maxRecDepth 1000000 in
theorem delE_calls (blk off cap n i j : Nat) (cs : Array Value) (w : World) (h0 : off = 0) (hj : j = i + 1) (hH : Holds id w blk off cs) (hz : cs.size = cap * 5) (h1 : ∀ t, t < n * 5 → (cs[t]!).oneCell' = true) (hn : n ≤ cap) (hm : cap ≤ 9223372036854775807) (hi : i < n) :
    Calls Try.prog 59 #[.slice (some ⟨blk, off, none⟩) n cap, .int .i64 i, .int .i64 j] w fun e w' => e = .returned (.slice (some ⟨blk, off, none⟩) (n - 1) cap) ∧ DelOut 5 n i w blk cs w' := by
  have mixed : Try.prog.follows Departure.mixedOrders = true := rfl
  have hcz : n * 5 ≤ cs.size := by rw [hz]; exact Nat.mul_le_mul_right _ hn
  obtain ⟨news, hnews⟩ : ∃ news : List Value, news = (List.range ((n - j) * 5)).map fun t => cs[j * 5 + t]! := ⟨_, rfl⟩
  have hlen : news.length = (n - j) * 5 := by rw [hnews]; simp
  have hget : ∀ t u, news[t]? = some u → t < (n - j) * 5 ∧ u = cs[j * 5 + t]! := by
    intro t u hu
    have ht : t < news.length := (List.getElem?_eq_some_iff.1 hu).1
    rw [hlen] at ht
    rw [hnews, List.getElem?_map, List.getElem?_range ht] at hu
    exact ⟨ht, (Option.some.inj hu).symm⟩
  obtain ⟨A, hA, hsrc⟩ : ∃ A : Addr, (if cap = j then some (⟨blk, off, none⟩ : Addr) else some ⟨blk, off + j * 5, none⟩) = some A ∧ Hid (∀ t u, news[t]? = some u → w.drew.cell? (A.add t) = some u) := by
    by_cases h : cap = j
    · refine ⟨⟨blk, off, none⟩, by simp [h], fun t u hu => ?_⟩
      have := (hget t u hu).1
      have e : n - j = 0 := by omega
      rw [e] at this; omega
    · refine ⟨⟨blk, off + j * 5, none⟩, by simp [h], fun t u hu => ?_⟩
      obtain ⟨ht, rfl⟩ := hget t u hu
      rw [Addr.add_lit, Nat.add_assoc]
      exact (hH _ (by omega)).1
  have s1 : Hid (news.length = (n - j) * 5) := hlen
  have s2 : Hid (∀ u ∈ news, u.oneCell' = true) := by
    intro u hu
    obtain ⟨t, ht, rfl⟩ := List.getElem_of_mem hu
    obtain ⟨h2, h3⟩ := hget t _ (List.getElem?_eq_getElem ht)
    rw [h3]
    exact h1 _ (by omega)
  have s3 : Hid (∀ t, t < news.length → (w.drew.cell? ⟨blk, off + i * 5 + t, none⟩).isSome = true ∧ w.drew.frozen? ⟨blk, off + i * 5 + t, none⟩ = false) := by
    intro t ht
    rw [hlen] at ht
    rw [Nat.add_assoc]
    exact ⟨by show (w.cell? _).isSome = true; rw [(hH (i * 5 + t) (by omega)).1]; rfl, (hH (i * 5 + t) (by omega)).2⟩
  obtain ⟨W1, hW1⟩ : ∃ W1, W1 = w.drew.setCells blk (off + i * 5) news := ⟨_, rfl⟩
  have hput : W1 = putRow id (Sort.ahead w 1) blk off (setMany cs (i * 5) news) := by
    rw [hW1, ← setCells_putRow _ _ _ _ _ _ (by omega), putRow_self id (Sort.ahead w 1) blk off cs (holds_ahead id w 1 blk off cs hH)]
    rfl
  have hH1 : Holds id W1 blk off (setMany cs (i * 5) news) := by rw [hput]; exact holds_putRow id _ blk off cs _ (holds_ahead id w 1 blk off cs hH) (by simp)
  obtain ⟨zs, hzl, hcl⟩ : ∃ zs : List Value, zs.length = (n - (i + (n - j))) * 5 ∧ ∀ ty, (Builtin.clear_ #[31] ty #[.slice (some ⟨blk, off + (i + (n - j)) * 5, none⟩) (n - (i + (n - j))) (cap - (i + (n - j)))]).run Try.prog W1 = .ok (.tuple #[]) (W1.setCells blk (off + (i + (n - j)) * 5) zs) := by
    obtain ⟨zs, e1, e2⟩ := run_clear_cells (P := Try.prog) W1 31 38 0 (.agg #[.int .i64 0, .int .i64 0, .int .i64 0, .string ⟨#[]⟩, .slice none 0 0]) rfl (fun _ => by kernel_rfl) (by intro v hv; simp [Value.cells] at hv; first | (rcases hv with rfl | rfl | rfl <;> rfl) | (rcases hv with rfl | rfl | rfl | rfl | rfl <;> rfl)) blk (off + (i + (n - j)) * 5) (n - (i + (n - j))) (cap - (i + (n - j))) (by omega)
      (fun s hs => by
        have hs' : s < (n - (i + (n - j))) * 5 := hs
        have := (hH1 ((i + (n - j)) * 5 + s) (by rw [size_setMany]; omega)).1
        rw [← Nat.add_assoc] at this
        rw [this]; rfl) (fun s hs => by
        have hs' : s < (n - (i + (n - j))) * 5 := hs
        have := (hH1 ((i + (n - j)) * 5 + s) (by rw [size_setMany]; omega)).2
        rwa [← Nat.add_assoc] at this)
    exact ⟨zs, e1, fun ty => e2⟩
  have fin : Aside (DelOut 5 n i w blk cs (W1.setCells blk (off + (i + (n - j)) * 5) zs)) := by
    subst h0 hj
    refine ⟨1, _, delF_of hcz hi news zs hlen (fun t ht => ?_), ?_⟩
    · rw [getElem!_pos news t ht]
      exact (hget t _ (List.getElem?_eq_getElem ht)).2
    · rw [hput, setCells_putRow _ _ _ _ _ _ (by rw [size_setMany, hzl]; omega), show i + (n - (i + 1)) = n - 1 by omega]
  have hW : Hid (W1 = w.drew.setCells blk (off + i * 5) news) := hW1
  have hic : i ≤ cap := by omega
  have hjc : j ≤ cap := by omega
  obtain ⟨i0, hi0, hz0, hz1, hz2⟩ := info_parts (P := Try.prog) (e := 38) (z := .agg #[.int .i64 0, .int .i64 0, .int .i64 0, .string ⟨#[]⟩, .slice none 0 0]) (size := 5) (bytes := 64) (by kernel_rfl)
  clear hput hW1 hH1 hH hget hnews hlen h1 hz hcz h0
  have hij : ¬ i = j := by omega
  have hijle : i ≤ j := by omega
  have hjn : j ≤ n := by omega
  have hA' : Hid (j = i + 1) := hj
  clear hj
  go_enter Try.func59, Try.ntmps59
  go_wp2_with fail
  go_region_law_o (refine step_append_room rfl (.tmp 22) (.tmp 25) 31 rfl 38 i0 5 rfl hi0 hz1 blk off i cap (by simp [Act.eval, Act.put]) A (n - j) (cap - j) news (by simp [Act.eval, Act.put]) s1.out hsrc.out s2.out (by omega) s3.out ?_; rw [← hW.out])
  go_wp2
  go_ret
  have hj := hA'.out
  exact ⟨by rw [show n - 1 = i + (n - j) by omega]; rfl, fin.out⟩

theorem delE_meets (rows : List (List PV)) (v T i : Nat) (hi : i < rows.length) :
    Meets Try.prog 59 [.arr 0 v, .int .i64 i, .int .i64 ((i + 1 : Nat) : Int)] [.arr v true false T 5 rows] (.arr 0 (v + 1)) [.arr (v + 1) true false T 5 (rows.eraseIdx i)] := by
  intro x vs hx h0 hp
  obtain ⟨a, b, c, rfl, p1, p2, p3⟩ := three_args hp.1
  have ha := hp.2 0 _ _ rfl p1
  obtain rfl := (hp.2 1 _ _ rfl p2).int_inv
  obtain rfl := (hp.2 2 _ _ rfl p3).int_inv
  obtain ⟨e1, e2, e3⟩ := h0.row (id := 0) rfl ha
  rcases e3 with ⟨rfl, hnil⟩ | ⟨g, cap, cur, rfl, hc, hcap, hm, hz, hrow⟩
  · subst hnil; simp at hi
  · have hH := holds_cur hc
    have hcs : rows.length * 5 ≤ cur.size := by rw [hz]; exact Nat.mul_le_mul_right _ hcap
    have key := delE_calls g 0 cap rows.length i (i + 1) cur x.w0 rfl rfl hH hz (fun t ht => by
      have hk : t / 5 < rows.length := Nat.div_lt_of_lt_mul (by omega)
      have hj : t % 5 < (rows[t / 5]'hk).length := by rw [e2 _ (List.getElem_mem hk)]; exact Nat.mod_lt _ (by omega)
      obtain ⟨y, y1, y2, -⟩ := hrow (t / 5) _ (t % 5) _ (List.getElem?_eq_getElem hk) (List.getElem?_eq_getElem hj)
      rw [show t / 5 * 5 + t % 5 = t by omega] at y1
      obtain ⟨y4, y5⟩ := Array.getElem?_eq_some_iff.1 y1
      rw [getElem!_pos cur _ y4, y5]; exact y2) hcap (by simp [maxLen] at hm; omega) hi
    refine key.mono ?_
    rintro e w' ⟨rfl, q, F, hF, rfl⟩
    obtain ⟨cur', c1, c2, c3, c4⟩ := row_worldF x.w0 g q F hc
    have hown : (x.C0.sv 0).ownBlock = some g := by rw [← e1]; rfl
    have hlen : (rows.eraseIdx i).length = rows.length - 1 := by rw [List.length_eraseIdx, if_pos hi]
    obtain ⟨C', k1, k2, k3⟩ := h0.rerow (id := 0) (v' := v + 1) (g' := g) (cap' := cap) (rows' := rows.eraseIdx i) (cur' := cur') rfl (by
      refine ⟨c4.size, c4.os, c4.tape, c4.output, fun b hb hne => c4.blk b hb fun e => hne (by rw [hown, e])⟩) (.inl hown) (.inr (by omega)) c1 (by rw [hlen]; omega) hm (by rw [c2, hz])
      (fun row hr => e2 row (List.mem_of_mem_eraseIdx hr)) (del_rep rfl hi e2 hcs hF c3 hrow)
    rw [hlen] at k3
    exact ⟨_, C', rfl, k1, k3⟩
end Go.Proofs.Ytkgobnnkcnnfhaa
/- slices.Insert of one element of k cells: in memory. -/
namespace Go.Proofs.Ytkgobnnkcnnfhaa
open Go.RowKit Go.Lib Go.Sort
open Go.Shelf

/-- cells of a row, an element laid in at i -/
def InsF (k n i : Nat) (cs : Array Value) (vs : List Value) (F : Array Value) : Prop := ∀ t, t < (n + 1) * k → F[t]! = if t < i * k then cs[t]! else if t < i * k + k then vs[t - i * k]! else cs[t - k]!

/-- 'overlaps': the second is a row of one's own -/
theorem run_overlaps_own {P : Program} (w : World) (tS tR e : TypeId) (ht : P.underlying tS = some (.slice e)) (size : Nat) (hz : ∀ w, (Go.sizeOf e).run P w = .ok size w)
    (a b : Addr) (la ca lb cb : Nat) (hne : a.block ≠ b.block) (tA tB : TypeId) (kA kB : Nat)
    (hsa : w.shape? a.block = some (tA, kA)) (hsb : w.shape? b.block = some (tB, kB)) (hkB : kB ≠ 0) (hkA : kA ≠ 0)
    (hfa : w.frozen? b = false) (hfe : w.frozen? { block := b.block, off := kB } = false) :
    (Extern.SlicesOverlaps.overlaps #[tS, tS] #[tR] #[.slice (some a) la ca, .slice (some b) lb cb]).run P w = .ok (.bool false) w := by
  have hnb : (a.block != b.block) = true := by simpa using hne
  have hnb' : (a.block == b.block) = false := by simpa using hne
  change Sem.run P (α := Value) (do
    let some t := (#[tS, tS] : Array TypeId)[0]? | stuck "slices.overlaps: no parameter types"
    let .slice elem ← underlying t | stuck "slices.overlaps: slice type expected"
    let size ← sizeOf elem
    match (some a : Option Addr), (some b : Option Addr) with
    | some a, some b =>
      if la = 0 ∨ lb = 0 ∨ size = 0 then pure (Value.bool false)
      else if a.block != b.block && (← frozen a) && (← frozen b) then unsupported .addressObserved
      else do
        if a.block != b.block then do
          noView a; noView b
          if ← mayBeOne a b then return Value.bool ((← choose (.extern "sameAddr.stringBytes" 2)) == 1)
        pure (Value.bool (a.block == b.block && a.off < b.off + lb * size && b.off < a.off + la * size))
    | _, _ => pure (Value.bool false)) w = _
  by_cases h0 : la = 0 ∨ lb = 0 ∨ size = 0
  · simp [run_underlying ht, hz, h0]
  · cases kB with
    | zero => exact absurd rfl hkB
    | succ kB =>
     cases kA with
     | zero => exact absurd rfl hkA
     | succ kA =>
      cases h1 : w.frozen? a <;> cases h2 : w.frozen? { block := a.block, off := kA + 1 } <;>
        simp [run_underlying ht, hz, h0, hnb, hnb', frozen, noView, viewAt, mayBeOne, stringish, shape, Sem.run, hsa, hsb, hfa, hfe, h1, h2]

theorem run_copy_cellsK {P : Program} (w : World) (dT sT ty elem : TypeId) (k : Nat) (b o dLen dCap : Nat) (a : Addr) (sLen sCap m : Nat) (cs : List Value)
    (hu : P.underlying dT = some (.slice elem)) (hs : (P.info? elem).map (·.size) = some k) (hm : m = Nat.min sLen dLen) (hn : cs.length = m * k)
    (hsrc : ∀ j v, cs[j]? = some v → w.cell? (a.add j) = some v) (hc : ∀ j, j < cs.length → (w.cell? ⟨b, o + j, none⟩).isSome = true) (hf : ∀ j, j < cs.length → w.frozen? ⟨b, o + j, none⟩ = false) (h1 : ∀ v ∈ cs, v.oneCell' = true) :
    (Builtin.copy_ #[dT, sT] ty #[.slice (some ⟨b, o, none⟩) dLen dCap, .slice (some a) sLen sCap]).run P w = .ok (goInt m) (w.setCells b o cs) := by
  have hl := run_loadCells_list (P := P) w a cs hsrc
  have hst := run_storeCells_cells (P := P) b o cs 0 w (by simpa using hc) (by simpa using hf) h1
  cases hq : P.info? elem with
  | none => simp [hq] at hs
  | some i =>
    have hi : i.size = k := by simpa [hq] using hs
    rw [hn] at hl
    simp [Builtin.copy_, run_underlying hu, Builtin.lenOf, Builtin.firstCells, sizeOf, typeInfo, hq, hi, ← hm, hl, hst]

/-- the cells of a row from s on, m of them -/
def seg (cs : Array Value) (s m : Nat) : List Value := (List.range m).map fun t => cs[s + t]!
theorem seg_len (cs : Array Value) (s m : Nat) : (seg cs s m).length = m := by simp [seg]
theorem seg_get {cs : Array Value} {s m t : Nat} {u : Value} (h : (seg cs s m)[t]? = some u) : t < m ∧ u = cs[s + t]! := by
  have ht : t < (seg cs s m).length := (List.getElem?_eq_some_iff.1 h).1
  rw [seg_len] at ht
  rw [seg, List.getElem?_map, List.getElem?_range ht] at h
  exact ⟨ht, (Option.some.inj h).symm⟩
theorem seg_get! {cs : Array Value} {s m t : Nat} (h : t < m) : (seg cs s m)[t]! = cs[s + t]! := by
  rw [getElem!_pos _ t (by rw [seg_len]; exact h)]
  simp [seg]
theorem seg_one {cs : Array Value} {s m e : Nat} (h1 : ∀ t, t < e → (cs[t]!).oneCell' = true) (he : s + m ≤ e) : ∀ v ∈ seg cs s m, v.oneCell' = true := by
  intro v hv
  obtain ⟨t, ht, rfl⟩ := List.getElem_of_mem hv
  obtain ⟨h2, h3⟩ := seg_get (List.getElem?_eq_getElem ht)
  rw [h3]; exact h1 _ (by omega)
theorem insF_of {k n i : Nat} {cs : Array Value} {vs : List Value} (hz : (n + 1) * k ≤ cs.size) (hi : i ≤ n) (hv : vs.length = k) :
    InsF k n i cs vs (setMany (setMany cs ((i + 1) * k) (seg cs (i * k) ((n - i) * k))) (i * k) vs) := by
  intro t ht
  obtain ⟨m, rfl⟩ : ∃ m, n = i + m := ⟨n - i, by omega⟩
  have e1 : (i + m + 1) * k = i * k + m * k + k := by rw [Nat.add_mul, Nat.add_mul, Nat.one_mul]
  have e2 : (i + 1) * k = i * k + k := by rw [Nat.add_mul, Nat.one_mul]
  have e3 : i + m - i = m := by omega
  rw [e1] at hz ht
  rw [e2, e3, get_setMany _ _ _ t (by simp; omega), hv]
  by_cases h1 : t < i * k
  · rw [if_neg (by omega), if_pos h1, get_setMany _ _ _ t (by omega), if_neg (by omega)]
  · by_cases h2 : t < i * k + k
    · rw [if_pos (by omega), if_neg h1, if_pos h2]
    · rw [if_neg (by omega), if_neg h1, if_neg h2, get_setMany _ _ _ t (by omega), seg_len, if_pos (by omega), seg_get! (by omega), show i * k + (t - (i * k + k)) = t - k by omega]

theorem wpList_append_room_k {P : Program} (w : World) {ops : Array Oper} {rest : List Oper} {o : Oper} {a : Act} {Q : Exit → Act → World → Prop}
    (hg : o.guard = none) (s x : Operand) (t : TypeId) (hop : o.op = Op.call { callee := Callee.builtin Builtin.append, args := #[s, x], argTypes := #[t, t] })
    (e : TypeId) (i : TypeInfo) (size : Nat) (h1 : P.underlying t = some (.slice e)) (h2 : P.info? e = some i) (h4 : i.size = size)
    (b off n cap : Nat) (hs : a.eval s = .slice (some ⟨b, off, none⟩) n cap) (ad : Addr) (m c : Nat) (news : List Value) (hx : a.eval x = .slice (some ad) m c) (hn : news.length = m * size)
    (hc : ∀ j u, news[j]? = some u → w.cell? (ad.add j) = some u) (h1c : ∀ u ∈ news, u.oneCell' = true) (hroom : n + m ≤ cap)
    (hspare : ∀ j, j < news.length → (w.cell? ⟨b, off + n * size + j, none⟩).isSome = true ∧ w.frozen? ⟨b, off + n * size + j, none⟩ = false)
    (hK : wpList P ops Q rest (a.put o.dst (.slice (some ⟨b, off, none⟩) (n + m) cap)) (w.setCells b (off + n * size) news)) :
    wpList P ops Q (o :: rest) a w := by
  refine wpList_plain hg fun K hK' => ?_
  subst h4
  have hrun := run_append_room_cells (P := P) w t o.type e i h1 h2 b off n cap ad m c news hn hc h1c hroom (fun j hj => (hspare j hj).1) (fun j hj => (hspare j hj).2)
  unfold Oper.wp
  simp [execOp, hop, resolve, invoke, builtin, hs, hx, hrun, Result.andThen]
  exact hK' _ _ hK

set_option maxHeartbeats 4000000 in
set_option maxRecDepth 1000000 in
theorem insE_shift (blk off cap n i m vb voff vc tA kA : Nat) (cs : Array Value) (vs : List Value) (w : World) (h0 : off = 0) (hm1 : m = 1) (hH : Holds id w blk off cs) (hz : cs.size = cap * 5) (h1 : ∀ t, t < n * 5 → (cs[t]!).oneCell' = true)
    (hvl : vs.length = 5) (hvs : ∀ j v, vs[j]? = some v → w.cell? ⟨vb, voff + j, none⟩ = some v) (h1v : ∀ v ∈ vs, v.oneCell' = true) (hvb : vb ≠ blk) (hsa : w.shape? vb = some (tA, kA)) (hkA : kA ≠ 0) (tB : TypeId) (hsb : w.shape? blk = some (tB, cap * 5)) (hfb : ∀ o, w.frozen? ⟨blk, o, none⟩ = false)
    (hm : cap ≤ 9223372036854775807) (hi : i < n) (hroom : n + m ≤ cap) :
    Calls Try.prog 53 #[.slice (some ⟨blk, off, none⟩) n cap, .int .i64 i, .slice (some ⟨vb, voff, none⟩) m vc] w fun e w' => e = .returned (.slice (some ⟨blk, off, none⟩) (n + m) cap) ∧ ∃ (q : Nat) (F : Array Value), F.size = cs.size ∧ InsF 5 n i cs vs F ∧ w' = putRow id (Sort.ahead w q) blk 0 F := by
  have mixed : Try.prog.follows Departure.mixedOrders = true := rfl
  have hz1 : ¬ ((m : Int) = 0) := by omega
  have hz2 : ¬ ((i : Int) = (n : Int)) := by omega
  have hsz : (Try.prog.info? 38).map (·.size) = some 5 := by kernel_rfl
  have hov : ∀ lb cb, (callFunc 60 #[.slice (some ⟨vb, voff, none⟩) m vc, .slice (some ⟨blk, off + (i + m) * 5, none⟩) lb cb]).run Try.prog w = .ok (.value (.bool false)) w := fun lb cb => by
    rw [run_callFunc_extern Try.func60 (by kernel_rfl) (by kernel_rfl) (by kernel_rfl) (e := Extern.SlicesOverlaps.overlaps #[31, 31] #[4]) (by kernel_rfl),
      run_overlaps_own w 31 4 38 rfl 5 (fun _ => by kernel_rfl) ⟨vb, voff, none⟩ ⟨blk, off + (i + m) * 5, none⟩ m vc lb cb hvb tA tB kA (cap * 5) hsa hsb (by omega) hkA (hfb _) (hfb _)]
    rfl
  have hw1 : IntKind.i64.wrap ((i : Int) + (m : Int)) = (i : Int) + (m : Int) := by rw [IntKind.wrap_i64]; omega
  have hb1 : (0 : Int) ≤ (i : Int) + (m : Int) := by omega
  have hin : i ≤ n := by omega
  have htn : ((i : Int) + (m : Int)).toNat = i + m := by omega
  have hb2 : ¬ (cap = i + m) := by omega
  have hb3 : (i : Int) ≤ (n : Int) + (m : Int) := by omega
  have hb4 : ¬ (cap = i) := by omega
  have hcz : n * 5 ≤ cs.size := by rw [hz]; exact Nat.mul_le_mul_right _ (by omega)
  have hcz1 : (n + m) * 5 ≤ cs.size := by rw [hz]; exact Nat.mul_le_mul_right _ hroom
  obtain ⟨news, hnews⟩ : ∃ news, news = seg cs (i * 5) ((n - i) * 5) := ⟨_, rfl⟩
  have hnl : news.length = (n - i) * 5 := by rw [hnews, seg_len]
  have hcp1 : ∀ ty dc sc, (Builtin.copy_ #[31, 31] ty #[.slice (some ⟨blk, off + (i + m) * 5, none⟩) (n + m - (i + m)) dc, .slice (some ⟨blk, off + i * 5, none⟩) (n + m - i) sc]).run Try.prog w.drew = .ok (goInt ((n - i : Nat) : Int)) (w.drew.setCells blk (off + (i + m) * 5) news) := fun ty dc sc =>
    run_copy_cellsK w.drew _ _ ty 38 5 blk (off + (i + m) * 5) (n + m - (i + m)) dc ⟨blk, off + i * 5, none⟩ (n + m - i) sc (n - i) news rfl hsz (by simp only [Nat.min_def]; split <;> omega) hnl
      (fun j v hj => by
        rw [hnews] at hj
        obtain ⟨ht, rfl⟩ := seg_get hj
        rw [Addr.add_lit, Nat.add_assoc]; exact (hH _ (by omega)).1)
      (fun j hj => by rw [hnl] at hj; rw [Nat.add_assoc]; show (w.cell? _).isSome = true; rw [(hH _ (by omega)).1]; rfl) (fun j hj => by exact hfb _)
      (by rw [hnews]; exact seg_one h1 (by omega))
  obtain ⟨W1, hW1⟩ : ∃ W1, W1 = w.drew.setCells blk (off + (i + m) * 5) news := ⟨_, rfl⟩
  have hput : W1 = putRow id (Sort.ahead w 1) blk off (setMany cs ((i + m) * 5) news) := by
    rw [hW1, ← setCells_putRow _ _ _ _ _ _ (by omega), putRow_self id (Sort.ahead w 1) blk off cs (holds_ahead id w 1 blk off cs hH)]
    rfl
  have hH1 : Holds id W1 blk off (setMany cs ((i + m) * 5) news) := by rw [hput]; exact holds_putRow id _ blk off cs _ (holds_ahead id w 1 blk off cs hH) (by simp)
  have hcp2 : ∀ (W : World), W = W1 → ∀ ty dc, (Builtin.copy_ #[31, 31] ty #[.slice (some ⟨blk, off + i * 5, none⟩) (n + m - i) dc, .slice (some ⟨vb, voff, none⟩) m vc]).run Try.prog W = .ok (goInt m) (W.setCells blk (off + i * 5) vs) := fun W hWc ty dc => by
    subst hWc
    refine run_copy_cellsK W _ _ ty 38 5 blk (off + i * 5) (n + m - i) dc ⟨vb, voff, none⟩ m vc m vs rfl hsz (by simp only [Nat.min_def]; split <;> omega) (by omega)
      (fun j v hj => by
        rw [Addr.add_lit, hW1, World.cell?_setCells_out blk _ _ _ _ (fun h _ => absurd h hvb)]
        exact hvs j v hj)
      (fun j hj => by rw [Nat.add_assoc, (hH1 _ (by rw [size_setMany]; omega)).1]; rfl) (fun j hj => by rw [Nat.add_assoc]; exact (hH1 _ (by rw [size_setMany]; omega)).2) h1v
  have fin : Aside (∃ (q : Nat) (F : Array Value), F.size = cs.size ∧ InsF 5 n i cs vs F ∧ W1.setCells blk (off + i * 5) vs = putRow id (Sort.ahead w q) blk 0 F) := by
    subst h0 hm1
    refine ⟨1, _, ?_, insF_of hcz1 (by omega) hvl, ?_⟩
    · simp
    · rw [hput, setCells_putRow _ _ _ _ _ _ (by rw [size_setMany]; omega), hnews]
  rw [← hW1] at hcp1
  clear hkA hput hH hH1 hnews hnl hz hcz hcz1 h1 hvs h1v hsa hsb hfb hvl h0 hm1 hvb
  go_enter Try.func53, Try.ntmps53
  go_wp2_with (simp only [hov])
  go_region_law_o (refine step_copy_runI rfl _ _ 31 31 rfl _ _ (by simp [Act.eval, Act.put]) (by simp [Act.eval, Act.put]) (hcp1 _ _ _) ?_)
  go_wp2_with (at_builtin; refine wpList_copy_runI _ rfl _ _ 31 31 rfl _ _ rfl rfl (hcp2 _ rfl _ _) ?_)
  go_ret
  exact ⟨rfl, by rw [← hW1]; exact fin.out⟩

set_option maxHeartbeats 4000000 in
set_option maxRecDepth 1000000 in
theorem insE_end_room (blk off cap n m vb voff vc : Nat) (cs : Array Value) (vs : List Value) (w : World) (h0 : off = 0) (hm1 : m = 1) (hH : Holds id w blk off cs) (hz : cs.size = cap * 5)
    (hvl : vs.length = 5) (hvs : ∀ j v, vs[j]? = some v → w.cell? ⟨vb, voff + j, none⟩ = some v) (h1v : ∀ v ∈ vs, v.oneCell' = true)
    (hm : cap ≤ 9223372036854775807) (hroom : n + m ≤ cap) :
    Calls Try.prog 53 #[.slice (some ⟨blk, off, none⟩) n cap, .int .i64 n, .slice (some ⟨vb, voff, none⟩) m vc] w fun e w' => e = .returned (.slice (some ⟨blk, off, none⟩) (n + m) cap) ∧ ∃ (q : Nat) (F : Array Value), F.size = cs.size ∧ InsF 5 n n cs vs F ∧ w' = putRow id (Sort.ahead w q) blk 0 F := by
  have mixed : Try.prog.follows Departure.mixedOrders = true := rfl
  have hz1 : ¬ ((m : Int) = 0) := by omega
  have hcz1 : (n + m) * 5 ≤ cs.size := by rw [hz]; exact Nat.mul_le_mul_right _ hroom
  obtain ⟨i0, hi0, hz0, hzs, hzb⟩ := info_parts (P := Try.prog) (e := 38) (z := .agg #[.int .i64 0, .int .i64 0, .int .i64 0, .string ⟨#[]⟩, .slice none 0 0]) (size := 5) (bytes := 64) (by kernel_rfl)
  have s1 : Hid (∀ j u, vs[j]? = some u → w.cell? (Addr.add ⟨vb, voff, none⟩ j) = some u) := fun j u hj => by rw [Addr.add_lit]; exact hvs j u hj
  have s2 : Hid (∀ u ∈ vs, u.oneCell' = true) := h1v
  have s3 : Hid (∀ j, j < vs.length → (w.cell? ⟨blk, off + n * 5 + j, none⟩).isSome = true ∧ w.frozen? ⟨blk, off + n * 5 + j, none⟩ = false) := fun j hj => by
    rw [Nat.add_assoc]; exact ⟨by rw [(hH _ (by omega)).1]; rfl, (hH _ (by omega)).2⟩
  have s5 : Hid (vs.length = m * 5) := by show vs.length = m * 5; omega
  have s6 : Hid (∀ j u, (seg cs 0 (n * 5))[j]? = some u → w.cell? ⟨blk, off + j, none⟩ = some u) := fun j u hj => by
    obtain ⟨ht, rfl⟩ := seg_get hj
    rw [Nat.zero_add]; exact (hH _ (by omega)).1
  have fin : Aside (∃ (q : Nat) (F : Array Value), F.size = cs.size ∧ InsF 5 n n cs vs F ∧ w.setCells blk (off + n * 5) vs = putRow id (Sort.ahead w q) blk 0 F) := by
    subst h0 hm1
    refine ⟨0, setMany cs (n * 5) vs, by simp, fun t ht => ?_, ?_⟩
    · rw [get_setMany _ _ _ t (by omega), hvl]
      by_cases h1 : t < n * 5
      · rw [if_neg (by omega), if_pos h1]
      · rw [if_pos (by omega), if_neg h1, if_pos (by omega)]
    · rw [← setCells_putRow _ _ _ _ _ _ (by omega), putRow_self id (Sort.ahead w 0) blk 0 cs (holds_ahead id w 0 blk 0 cs hH)]
      rfl
  have hml : n + m ≤ maxLen := by unfold maxLen; omega
  clear hH hz hcz1 hvs h1v hvl h0 hm1
  go_enter Try.func53, Try.ntmps53
  go_wp2_with (at_builtin; refine wpList_append_room_k _ rfl _ _ 31 rfl 38 i0 5 rfl hi0 hzs blk off n cap rfl ⟨vb, voff, none⟩ m vc vs rfl s5.out s1.out s2.out hroom s3.out ?_)
  go_ret
  exact ⟨rfl, fin.out⟩

set_option maxHeartbeats 4000000 in
set_option maxRecDepth 1000000 in
theorem insE_end_grow (ao : Option Addr) (cap n m vb voff vc : Nat) (olds vs : List Value) (w : World) (hm1 : m = 1) (hnone : ao = none → n = 0 ∧ cap = 0) (hlo : olds.length = n * 5) (holds : ∀ b, ao = some b → ∀ j u, olds[j]? = some u → w.cell? (b.add j) = some u)
    (hvl : vs.length = 5) (hvs : ∀ j v, vs[j]? = some v → w.cell? ⟨vb, voff + j, none⟩ = some v) (h1v : ∀ v ∈ vs, v.oneCell' = true)
    (hnc : n ≤ cap) (hfull : cap < n + m) (hbig : (n + m) * 64 ≤ 140737488355328) :
    Calls Try.prog 53 #[.slice ao n cap, .int .i64 n, .slice (some ⟨vb, voff, none⟩) m vc] w fun e w' => ∃ v', e = .returned v' ∧ w'.ownsRow w.heap.size 38 5 v' (n + m) (olds ++ vs) ∧ w.grownBy w' none := by
  have mixed : Try.prog.follows Departure.mixedOrders = true := rfl
  have hz1 : ¬ ((m : Int) = 0) := by omega
  obtain ⟨i0, hi0, hz0, hzs, hzb⟩ := info_parts (P := Try.prog) (e := 38) (z := .agg #[.int .i64 0, .int .i64 0, .int .i64 0, .string ⟨#[]⟩, .slice none 0 0]) (size := 5) (bytes := 64) (by kernel_rfl)
  have s1 : Hid (∀ j u, vs[j]? = some u → w.cell? (Addr.add ⟨vb, voff, none⟩ j) = some u) := fun j u hj => by rw [Addr.add_lit]; exact hvs j u hj
  have s2 : Hid (∀ u ∈ vs, u.oneCell' = true) := h1v
  have s5 : Hid (vs.length = m * 5) := by show vs.length = m * 5; omega
  have s6 : Hid (∀ b, ao = some b → ∀ j u, olds[j]? = some u → w.cell? (b.add j) = some u) := holds
  have s7 : Hid (ao = none → n = 0 ∧ cap = 0) := hnone
  have hml : n + m ≤ maxLen := by unfold maxLen; omega
  clear hvs h1v hvl hm1 holds hnone
  go_enter Try.func53, Try.ntmps53
  go_wp2_with (at_builtin; refine wpList_append_grows _ rfl _ _ 31 rfl 38 i0 (.agg #[.int .i64 0, .int .i64 0, .int .i64 0, .string ⟨#[]⟩, .slice none 0 0]) 5 64 rfl hi0 hz0 hzs hzb rfl (by omega) ao n cap olds rfl s7.out hlo s6.out ⟨vb, voff, none⟩ m vc vs rfl s5.out s1.out s2.out hfull hml hbig (fun v' w' r1 r2 => ?_))
  all_goals
    go_ret
    exact ⟨_, rfl, by assumption, by assumption⟩
end Go.Proofs.Ytkgobnnkcnnfhaa
/- slices.Insert of one element of k cells where there is no room: in memory. -/
namespace Go.Proofs.Ytkgobnnkcnnfhaa
open Go.RowKit Go.Lib Go.Sort
open Go.Shelf

theorem insF_grow {k n i : Nat} {cs ROW : Array Value} {vs : List Value} (hz : (n + 1) * k ≤ ROW.size) (hi : i ≤ n) (hv : vs.length = k) (hrow : ∀ t, t < i * k → ROW[t]! = cs[t]!) :
    InsF k n i cs vs (setMany (setMany ROW (i * k) vs) ((i + 1) * k) (seg cs (i * k) ((n - i) * k))) := by
  intro t ht
  obtain ⟨m, rfl⟩ : ∃ m, n = i + m := ⟨n - i, by omega⟩
  have e1 : (i + m + 1) * k = i * k + m * k + k := by rw [Nat.add_mul, Nat.add_mul, Nat.one_mul]
  have e2 : (i + 1) * k = i * k + k := by rw [Nat.add_mul, Nat.one_mul]
  have e3 : i + m - i = m := by omega
  rw [e1] at hz ht
  rw [e2, e3, get_setMany _ _ _ t (by simp; omega), seg_len]
  by_cases h1 : t < i * k
  · rw [if_neg (by omega), if_pos h1, get_setMany _ _ _ t (by omega), if_neg (by omega), hrow t h1]
  · by_cases h2 : t < i * k + k
    · rw [if_neg (by omega), if_neg h1, if_pos h2, get_setMany _ _ _ t (by omega), hv, if_pos (by omega)]
    · rw [if_pos (by omega), if_neg h1, if_neg h2, seg_get! (by omega), show i * k + (t - (i * k + k)) = t - k by omega]

set_option maxHeartbeats 4000000 in
set_option maxRecDepth 1000000 in
theorem insE_grow (blk off cap n i m vb voff vc : Nat) (cs : Array Value) (vs : List Value) (w : World) (h0 : off = 0) (hm1 : m = 1) (hH : Holds id w blk off cs) (hz : cs.size = cap * 5) (h1 : ∀ t, t < n * 5 → (cs[t]!).oneCell' = true)
    (hvl : vs.length = 5) (hvs : ∀ j v, vs[j]? = some v → w.cell? ⟨vb, voff + j, none⟩ = some v) (h1v : ∀ v ∈ vs, v.oneCell' = true)
    (hi : i < n) (hnc : n ≤ cap) (hroom : cap < n + m) (hbig : (n + m) * 64 ≤ 140737488355328) :
    Calls Try.prog 53 #[.slice (some ⟨blk, off, none⟩) n cap, .int .i64 i, .slice (some ⟨vb, voff, none⟩) m vc] w fun e w' => ∃ (q G : Nat) (ROW F : Array Value), e = .returned (.slice (some ⟨w.heap.size, 0, none⟩) (n + m) G) ∧ n + m ≤ G ∧ G ≤ maxLen ∧ ROW.size = G * 5 ∧ F.size = ROW.size ∧ InsF 5 n i cs vs F ∧ w' = putRow id (Sort.ahead (w.alloc (.cells ROW 38)) q) w.heap.size 0 F := by
  have mixed : Try.prog.follows Departure.mixedOrders = true := rfl
  have hz1 : ¬ ((m : Int) = 0) := by omega
  have hz2 : ¬ ((i : Int) = (n : Int)) := by omega
  have hz3 : (cap : Int) < (n : Int) + (m : Int) := by omega
  have hsz : (Try.prog.info? 38).map (·.size) = some 5 := by kernel_rfl
  obtain ⟨i0, hi0, hz0, hzs, hzb⟩ := info_parts (P := Try.prog) (e := 38) (z := .agg #[.int .i64 0, .int .i64 0, .int .i64 0, .string ⟨#[]⟩, .slice none 0 0]) (size := 5) (bytes := 64) (by kernel_rfl)
  have hcz : n * 5 ≤ cs.size := by rw [hz]; exact Nat.mul_le_mul_right _ hnc
  have hbw : blk < w.heap.size := block_lt_of_cell (hH 0 (by omega)).1
  have hvw : vb < w.heap.size := block_lt_of_cell (hvs 0 _ (List.getElem?_eq_getElem (by omega)))
  have hkk : (n : Int) + (m : Int) - (i : Int) = ((n + m - i : Nat) : Int) := by omega
  have hik : i + (n + m - i) = n + m := by omega
  have hold : (Builtin.firstCells i0.size i (.slice (some ⟨blk, off, none⟩) i cap)).run Try.prog w.drew = .ok (seg cs 0 (i * 5)).toArray w.drew := by
    rw [hzs]
    exact run_firstCells_some w.drew 5 i ⟨blk, off, none⟩ i cap (seg cs 0 (i * 5)) (seg_len _ _ _) (fun j v hj => by
      obtain ⟨ht, rfl⟩ := seg_get hj
      rw [Addr.add_lit, Nat.zero_add]
      exact (hH _ (by omega)).1)
  obtain ⟨G, hG⟩ : ∃ G, G = grownCap w (n + m) cap 38 := ⟨_, rfl⟩
  obtain ⟨ROW, hROW⟩ : ∃ ROW : Array Value, ROW = (seg cs 0 (i * 5)).toArray ++ Builtin.zeroCells (Value.cells (.agg #[.int .i64 0, .int .i64 0, .int .i64 0, .string ⟨#[]⟩, .slice none 0 0])) (n + m - i) ++ Builtin.zeroCells (Value.cells (.agg #[.int .i64 0, .int .i64 0, .int .i64 0, .string ⟨#[]⟩, .slice none 0 0])) (G - (n + m)) := ⟨_, rfl⟩
  have hrz : ∀ ty, (Builtin.append_ #[31, 3] ty #[.slice (some ⟨blk, off, none⟩) i cap, .int .i64 ((n : Int) + (m : Int) - (i : Int))]).run Try.prog w =
      .ok (.slice (some ⟨w.heap.size, 0, none⟩) (n + m) G) (w.drew.alloc (.cells ROW 38)) := fun ty => by
    have h := Lib.run_append_grow_zeros w 31 3 ty 38 i0 _ .i64 .i64 rfl rfl hi0 hz0 (some ⟨blk, off, none⟩) i cap (seg cs 0 (i * 5)) hold (n + m - i) (by omega) (by omega) (by omega) (by omega) (by rw [hzb]; omega) (by rw [hzb, hik]; exact growslice_fits hroom hbig)
    rw [hik, ← hG, ← hROW] at h
    rw [hkk]
    exact h
  have hGn : n + m ≤ G := by rw [hG]; exact grownCap_ge w _ _ _
  have hGm : G ≤ maxLen := by rw [hG]; exact grownCap_le_maxLen w (n + m) cap 38 (by unfold maxLen; omega)
  have hG63 : G ≤ 9223372036854775807 := by have := hGm; unfold maxLen at this; omega
  have hRs : ROW.size = G * 5 := by
    rw [hROW]
    simp [Builtin.zeroCells, Value.cells, seg_len]
    omega
  have hRow : ∀ t, t < i * 5 → ROW[t]! = cs[t]! := fun t ht => by
    rw [getElem!_pos ROW t (by omega)]
    simp only [hROW]
    rw [Array.getElem_append_left (by simp [seg_len]; omega), Array.getElem_append_left (by simp [seg_len]; omega)]
    have := seg_get! (cs := cs) (s := 0) ht
    rw [getElem!_pos _ t (by rw [seg_len]; exact ht), Nat.zero_add] at this
    simpa using this
  obtain ⟨W1, hW1⟩ : ∃ W1, W1 = w.drew.alloc (.cells ROW 38) := ⟨_, rfl⟩
  have hN : Holds id W1 w.heap.size 0 ROW := fun j hj => by
    rw [Nat.zero_add, hW1]
    refine ⟨?_, World.frozen?_alloc_at (w := w.drew) ROW _ w.heap.size j rfl⟩
    rw [World.cell?_alloc_at (w := w.drew) ROW _ w.heap.size j rfl, Array.getElem?_eq_getElem hj, getElem!_pos ROW j hj]; rfl
  have hOb : ∀ j v, w.cell? ⟨blk, j, none⟩ = some v → W1.cell? ⟨blk, j, none⟩ = some v := fun j v h => by rw [hW1, World.cell?_alloc_past (w := w.drew) _ blk j hbw]; exact h
  have hOv : ∀ j v, w.cell? ⟨vb, j, none⟩ = some v → W1.cell? ⟨vb, j, none⟩ = some v := fun j v h => by rw [hW1, World.cell?_alloc_past (w := w.drew) _ vb j hvw]; exact h
  have hRn : (n + m) * 5 ≤ ROW.size := by rw [hRs]; exact Nat.mul_le_mul_right _ hGn
  have hcpA : ∀ ty dc, (Builtin.copy_ #[31, 31] ty #[.slice (some ⟨w.heap.size, i * 5, none⟩) (n + m - i) dc, .slice (some ⟨vb, voff, none⟩) m vc]).run Try.prog W1 = .ok (goInt m) (W1.setCells w.heap.size (i * 5) vs) := fun ty dc =>
    run_copy_cellsK W1 _ _ ty 38 5 w.heap.size (i * 5) (n + m - i) dc ⟨vb, voff, none⟩ m vc m vs rfl hsz (by simp only [Nat.min_def]; split <;> omega) (by omega)
      (fun j v hj => by rw [Addr.add_lit]; exact hOv _ v (hvs j v hj))
      (fun j hj => by have := (hN (i * 5 + j) (by omega)).1; rw [Nat.zero_add] at this; rw [this]; rfl) (fun j hj => by have := (hN (i * 5 + j) (by omega)).2; rwa [Nat.zero_add] at this) h1v
  obtain ⟨news, hnews⟩ : ∃ news, news = seg cs (i * 5) ((n - i) * 5) := ⟨_, rfl⟩
  have hnl : news.length = (n - i) * 5 := by rw [hnews, seg_len]
  obtain ⟨W2, hW2⟩ : ∃ W2, W2 = W1.setCells w.heap.size (i * 5) vs := ⟨_, rfl⟩
  have hself : putRow id W1 w.heap.size 0 ROW = W1 := putRow_self id W1 w.heap.size 0 ROW hN
  have hput : W2 = putRow id W1 w.heap.size 0 (setMany ROW (i * 5) vs) := by
    rw [← setCells_putRow _ _ _ _ _ _ (by omega), hself, hW2, Nat.zero_add]
  have hN2 : Holds id W2 w.heap.size 0 (setMany ROW (i * 5) vs) := by rw [hput]; exact holds_putRow id _ _ _ ROW _ hN (by simp)
  have hbN : blk ≠ w.heap.size := by omega
  have hcpB : ∀ ty dc sc, (Builtin.copy_ #[31, 31] ty #[.slice (some ⟨w.heap.size, (i + m) * 5, none⟩) (n + m - (i + m)) dc, .slice (some ⟨blk, off + i * 5, none⟩) (n - i) sc]).run Try.prog W2.drew = .ok (goInt ((n - i : Nat) : Int)) (W2.drew.setCells w.heap.size ((i + m) * 5) news) := fun ty dc sc =>
    run_copy_cellsK W2.drew _ _ ty 38 5 w.heap.size ((i + m) * 5) (n + m - (i + m)) dc ⟨blk, off + i * 5, none⟩ (n - i) sc (n - i) news rfl hsz (by simp only [Nat.min_def]; split <;> omega) hnl
      (fun j v hj => by
        rw [hnews] at hj
        obtain ⟨ht, rfl⟩ := seg_get hj
        rw [Addr.add_lit, Nat.add_assoc]
        show W2.cell? _ = _
        rw [hW2, World.cell?_setCells_out _ _ _ _ _ (fun h _ => absurd h hbN)]
        exact hOb _ _ (hH _ (by omega)).1)
      (fun j hj => by have := (hN2 ((i + m) * 5 + j) (by rw [size_setMany]; omega)).1; rw [Nat.zero_add] at this; show (W2.cell? _).isSome = true; rw [this]; rfl)
      (fun j hj => by have := (hN2 ((i + m) * 5 + j) (by rw [size_setMany]; omega)).2; rw [Nat.zero_add] at this; exact this) (by rw [hnews]; exact seg_one h1 (by omega))
  have fin : Aside (∃ (q : Nat) (F : Array Value), F.size = ROW.size ∧ InsF 5 n i cs vs F ∧ W2.drew.setCells w.heap.size ((i + m) * 5) news = putRow id (Sort.ahead (w.alloc (.cells ROW 38)) q) w.heap.size 0 F) := by
    subst h0 hm1
    refine ⟨2, _, ?_, insF_grow hRn (by omega) hvl hRow, ?_⟩
    · simp
    · have e : W2.drew = putRow id (Sort.ahead (w.alloc (.cells ROW 38)) 2) w.heap.size 0 (setMany ROW (i * 5) vs) := by rw [hput, hW1]; rfl
      rw [← setCells_putRow _ _ _ _ _ _ (by rw [size_setMany, seg_len]; omega), ← e, hnews, Nat.zero_add]
  rw [← hW1] at hrz
  rw [← hW2] at hcpA
  have B : Aside (ROW.size = G * 5 ∧ G ≤ maxLen) := ⟨hRs, hGm⟩
  have hGi : ¬ (G = i) := by omega
  have hGim : ¬ (G = i + m) := by omega
  have hci : ¬ (cap = i) := by omega
  have hw1 : IntKind.i64.wrap ((i : Int) + (m : Int)) = (i : Int) + (m : Int) := by rw [IntKind.wrap_i64]; omega
  have hb1 : (0 : Int) ≤ (i : Int) + (m : Int) := by omega
  have hin : i ≤ n := by omega
  have htn : ((i : Int) + (m : Int)).toNat = i + m := by omega
  have hb3 : (i : Int) ≤ (n : Int) := by omega
  clear hself hput hN2 hW1 hW2 hnews hnl hOb hOv hN hRow hRn hRs hROW hG hold hH hz hcz h1 hvs h1v hvl h0 hm1 hkk hik hGm hbig hzb hzs hz0 hi0
  go_enter Try.func53, Try.ntmps53
  go_wp2_with (first
    | (at_builtin; refine Lib.wpList_append_run _ rfl _ _ _ _ rfl _ _ rfl rfl _ _ (hrz _) ?_)
    | (at_builtin; refine wpList_copy_runI _ rfl _ _ 31 31 rfl _ _ rfl rfl (hcpA _ _) ?_))
  go_region_law_o (refine step_copy_runI rfl _ _ 31 31 rfl (.slice (some ⟨w.heap.size, (i + m) * 5, none⟩) (n + m - (i + m)) (G - (i + m))) (.slice (some ⟨blk, off + i * 5, none⟩) (n - i) (cap - i)) (by simp [Act.eval, Act.put]) (by simp [Act.eval, Act.put]) (hcpB _ _ _) ?_)
  go_wp2
  go_ret
  obtain ⟨q, F, f1, f2, f3⟩ := fin.out
  exact ⟨q, G, ROW, F, rfl, hGn, B.out.2, B.out.1, f1, f2, f3⟩
end Go.Proofs.Ytkgobnnkcnnfhaa
/- slices.Insert of one element of k cells, as a contract. -/
namespace Go.Proofs.Ytkgobnnkcnnfhaa
open Go.RowKit Go.Lib Go.Sort
open Go.Shelf

theorem ins_rep {S : Nat → Nat → Prop} {w : World} {rows : List (List PV)} {row0 : List PV} {cs cur' : Array Value} {vs : List Value} {sz n i : Nat} (hn : rows.length = n) (hi : i ≤ n) (hz : ∀ row ∈ rows, row.length = sz) (hz0 : row0.length = sz)
    (hget : ∀ t y, t < (n + 1) * sz → cur'[t]? = some y → y = if t < i * sz then cs[t]! else if t < i * sz + sz then vs[t - i * sz]! else cs[t - sz]!)
    (hrow : ∀ (k : Nat) row (j : Nat) p, rows[k]? = some row → row[j]? = some p → ∃ y, cs[k * sz + j]? = some y ∧ y.oneCell' = true ∧ RepP S w p y)
    (hnew : ∀ (j : Nat) p, row0[j]? = some p → ∃ y, vs[j]? = some y ∧ y.oneCell' = true ∧ RepP S w p y) :
    ∀ (k : Nat) row (j : Nat) p u, (rows.insertIdx i row0)[k]? = some row → row[j]? = some p → cur'[k * sz + j]? = some u → u.oneCell' = true ∧ RepP S w p u := by
  intro k row j p u a b c
  have hk : k < n + 1 := by
    have := (List.getElem?_eq_some_iff.1 a).1
    rw [List.length_insertIdx, if_pos (by omega)] at this; omega
  have hrl : row.length = sz := by
    rw [List.getElem?_insertIdx] at a
    split at a
    · exact hz _ (List.mem_of_getElem? a)
    · split at a
      · split at a
        · cases a; exact hz0
        · cases a
      · exact hz _ (List.mem_of_getElem? a)
  have hj : j < sz := by rw [← hrl]; exact (List.getElem?_eq_some_iff.1 b).1
  have hle : (k + 1) * sz ≤ (n + 1) * sz := Nat.mul_le_mul_right _ (by omega)
  rw [Nat.add_mul, Nat.one_mul] at hle
  have hu := hget _ _ (by omega) c
  rw [List.getElem?_insertIdx] at a
  by_cases h1 : k < i
  · rw [if_pos h1] at a
    have : (k + 1) * sz ≤ i * sz := Nat.mul_le_mul_right _ (by omega)
    rw [Nat.add_mul, Nat.one_mul] at this
    rw [if_pos (by omega)] at hu
    obtain ⟨y, y1, y2, y3⟩ := hrow k row j p a b
    obtain ⟨y4, y5⟩ := Array.getElem?_eq_some_iff.1 y1
    rw [getElem!_pos cs _ y4, y5] at hu
    subst hu
    exact ⟨y2, y3⟩
  · rw [if_neg h1] at a
    have hik : i * sz ≤ k * sz := Nat.mul_le_mul_right _ (by omega)
    by_cases h2 : k = i
    · subst h2
      rw [if_pos rfl, if_pos (by omega)] at a
      cases a
      rw [if_neg (by omega), if_pos (by omega), show k * sz + j - k * sz = j by omega] at hu
      obtain ⟨y, y1, y2, y3⟩ := hnew j p b
      obtain ⟨y4, y5⟩ := List.getElem?_eq_some_iff.1 y1
      rw [getElem!_pos vs _ y4, y5] at hu
      subst hu
      exact ⟨y2, y3⟩
    · rw [if_neg h2] at a
      have h3 : (i + 1) * sz ≤ k * sz := Nat.mul_le_mul_right _ (by omega)
      rw [Nat.add_mul, Nat.one_mul] at h3
      rw [if_neg (by omega), if_neg (by omega)] at hu
      obtain ⟨y, y1, y2, y3⟩ := hrow (k - 1) row j p a b
      obtain ⟨k', rfl⟩ : ∃ k', k = k' + 1 := ⟨k - 1, by omega⟩
      rw [Nat.add_sub_cancel] at y1
      rw [show (k' + 1) * sz + j - sz = k' * sz + j by rw [Nat.add_mul, Nat.one_mul]; omega] at hu
      obtain ⟨y4, y5⟩ := Array.getElem?_eq_some_iff.1 y1
      rw [getElem!_pos cs _ y4, y5] at hu
      subst hu
      exact ⟨y2, y3⟩

theorem RepV.list_one {S : Nat → Nat → Prop} {w : World} {C : Conc} {row : List PV} {v : Value} (h : RepV S w C (.list [row]) v) (h0 : 0 < row.length) :
    ∃ (b o c : Nat) (x : Nat → Value), v = .slice (some ⟨b, o, none⟩) 1 c ∧ ∀ (j : Nat) p, row[j]? = some p → S b (o + j) ∧ w.cell? ⟨b, o + j, none⟩ = some (x j) ∧ RepP S w p (x j) := by
  cases h.list_inv with
  | list _ a c sz x hc hm hsz hz hl hr =>
    obtain ⟨b, o, ha, -, -⟩ := hl 0 row 0 row[0] rfl (List.getElem?_eq_getElem h0)
    refine ⟨b, o, c, x 0, by rw [ha]; rfl, fun j p hp => ?_⟩
    obtain ⟨b', o', ha', h1, h2⟩ := hl 0 row j p rfl hp
    rw [ha] at ha'
    cases ha'
    rw [Nat.zero_mul, Nat.add_zero] at h1 h2
    exact ⟨h1, h2, hr 0 row j p rfl hp⟩

theorem insE_meets (rows : List (List PV)) (row0 : List PV) (v i : Nat) (hi : i ≤ rows.length) (hr0 : row0.length = 5) (hbig : (rows.length + 1) * 64 ≤ 140737488355328) :
    Meets Try.prog 53 [.arr 0 v, .int .i64 i, .list [row0]] [.arr v true false 38 5 rows] (.arr 0 (v + 1)) [.arr (v + 1) true false 38 5 (rows.insertIdx i row0)] := by
  intro x vs hx h0 hp
  obtain ⟨a, b, c, rfl, p1, p2, p3⟩ := three_args hp.1
  have ha := hp.2 0 _ _ rfl p1
  obtain rfl := (hp.2 1 _ _ rfl p2).int_inv
  obtain ⟨vb, vo, vc, xv, rfl, hxv⟩ := (hp.2 2 _ _ rfl p3).list_one (by omega)
  obtain ⟨e1, e2, e3⟩ := h0.row (id := 0) rfl ha
  have hlen : (rows.insertIdx i row0).length = rows.length + 1 := by rw [List.length_insertIdx, if_pos hi]
  have hrl : ∀ row ∈ rows.insertIdx i row0, row.length = 5 := fun row hr => by
    rcases (List.mem_insertIdx hi).1 hr with rfl | hr
    · exact hr0
    · exact e2 row hr
  obtain ⟨ws, hws⟩ : ∃ ws : List Value, ws = (List.range 5).map xv := ⟨_, rfl⟩
  have hwl : ws.length = 5 := by rw [hws]; simp
  have hwg : ∀ j u, ws[j]? = some u → ∃ p, row0[j]? = some p ∧ u = xv j := fun j u hu => by
    have hj : j < 5 := by rw [← hwl]; exact (List.getElem?_eq_some_iff.1 hu).1
    rw [hws, List.getElem?_map, List.getElem?_range hj] at hu
    exact ⟨_, List.getElem?_eq_getElem (by omega), (Option.some.inj hu).symm⟩
  have hwc : ∀ j u, ws[j]? = some u → x.w0.cell? ⟨vb, vo + j, none⟩ = some u := fun j u hu => by
    obtain ⟨p, hp, rfl⟩ := hwg j u hu
    exact (hxv j p hp).2.1
  have hw1 : ∀ u ∈ ws, u.oneCell' = true := fun u hu => by
    obtain ⟨j, hj, rfl⟩ := List.getElem_of_mem hu
    obtain ⟨p, hp, e⟩ := hwg j _ (List.getElem?_eq_getElem hj)
    rw [e]; exact (hxv j p hp).2.2.one
  have hnew : ∀ (j : Nat) p, row0[j]? = some p → ∃ y, ws[j]? = some y ∧ y.oneCell' = true ∧ RepP (Stab x x.C0 _ x.w0) x.w0 p y := fun j p hp => by
    have hj : j < 5 := by rw [← hr0]; exact (List.getElem?_eq_some_iff.1 hp).1
    refine ⟨xv j, by rw [hws, List.getElem?_map, List.getElem?_range hj]; rfl, (hxv j p hp).2.2.one, (hxv j p hp).2.2⟩
  rcases e3 with ⟨rfl, hnil⟩ | ⟨g, cap, cur, rfl, hc, hcap, hm, hz, hrow⟩
  · subst hnil
    obtain rfl : i = 0 := by simpa using hi
    refine (insE_end_grow none 0 0 1 vb vo vc [] ws x.w0 rfl (fun _ => ⟨rfl, rfl⟩) rfl (fun b h => by cases h) hwl hwc hw1 (by omega) (by omega) (by omega)).mono ?_
    rintro e w' ⟨v', rfl, hown, hgr⟩
    obtain ⟨o1, ⟨-, o2⟩ | ⟨g', cap', cur', rfl, o3, o4, o5, o6, o7, o8⟩⟩ := hown
    · simp at o2
    · obtain ⟨C', k1, k2, k3⟩ := h0.rerow (id := 0) (v' := v + 1) (g' := g') (cap' := cap') (rows' := [row0]) (cur' := cur') rfl
        ⟨hgr.size, hgr.os, hgr.tape, hgr.output, fun b hb _ => hgr.block b hb (by simp)⟩ (.inr o3) (.inr (by omega)) o4 o5 o6 o7 (fun row hr => by simp at hr; subst hr; exact hr0)
        (ins_rep (rows := []) (row0 := row0) (cs := #[]) (vs := ws) (n := 0) (i := 0) rfl (by omega) (fun row hr => by simp at hr) hr0 (fun t y ht hy => by
          rw [if_neg (by omega), if_pos (by omega), Nat.zero_mul, Nat.sub_zero]
          have := congrArg (fun l => l[t]?) o8
          simp only [List.nil_append] at this
          rw [List.getElem?_take, if_pos (by omega), Array.getElem?_toList, hy] at this
          obtain ⟨h1, h2⟩ := List.getElem?_eq_some_iff.1 this.symm
          rw [getElem!_pos ws t h1, h2]) (fun k row j p h => by simp at h) hnew)
      exact ⟨_, C', rfl, k1, k3⟩
  · have hH := holds_cur hc
    have hown : (x.C0.sv 0).ownBlock = some g := by rw [← e1]; rfl
    have hcs : rows.length * 5 ≤ cur.size := by rw [hz]; exact Nat.mul_le_mul_right _ hcap
    have hcap63 : cap ≤ 9223372036854775807 := by simp [maxLen] at hm; omega
    have hone : ∀ t, t < rows.length * 5 → (cur[t]!).oneCell' = true := fun t ht => by
      have hk : t / 5 < rows.length := Nat.div_lt_of_lt_mul (by omega)
      have hj : t % 5 < (rows[t / 5]'hk).length := by rw [e2 _ (List.getElem_mem hk)]; exact Nat.mod_lt _ (by omega)
      obtain ⟨y, y1, y2, -⟩ := hrow (t / 5) _ (t % 5) _ (List.getElem?_eq_getElem hk) (List.getElem?_eq_getElem hj)
      rw [show t / 5 * 5 + t % 5 = t by omega] at y1
      obtain ⟨y4, y5⟩ := Array.getElem?_eq_some_iff.1 y1
      rw [getElem!_pos cur _ y4, y5]; exact y2
    have hcell0 := hwc 0 _ (List.getElem?_eq_getElem (by omega))
    have hvb : vb ≠ g := fun e => by
      have := ((hxv 0 _ (List.getElem?_eq_getElem (by omega))).1.2.2 0 _ rfl) (by rw [hown, e])
      exact absurd this.1 (by decide)
    have hfb : ∀ o, x.w0.frozen? ⟨g, o, none⟩ = false := fun o => by simp [World.frozen?, hc]
    have hsb : x.w0.shape? g = some (38, cap * 5) := by simp [World.shape?, hc, hz]
    obtain ⟨tA, kA, hsa, hkA⟩ : ∃ tA kA, x.w0.shape? vb = some (tA, kA) ∧ kA ≠ 0 := by
      unfold World.cell? at hcell0
      unfold World.shape?
      split at hcell0
      · rename_i cc ee ff hh
        refine ⟨ee, cc.size, by rw [hh], fun e => ?_⟩
        simp at hcell0
        obtain ⟨h1, -⟩ := Array.getElem?_eq_some_iff.1 hcell0
        omega
      · cases hcell0
    -- in place
    have inplace : ∀ (q : Nat) (F : Array Value), F.size = cur.size → InsF 5 rows.length i cur ws F → rows.length + 1 ≤ cap →
        ∃ C', HR x C' [.arr (v + 1) true false 38 5 (rows.insertIdx i row0)] (putRow id (Sort.ahead x.w0 q) g 0 F) ∧ RepV (Stab x C' [.arr (v + 1) true false 38 5 (rows.insertIdx i row0)] (putRow id (Sort.ahead x.w0 q) g 0 F)) (putRow id (Sort.ahead x.w0 q) g 0 F) C' (.arr 0 (v + 1)) (.slice (some ⟨g, 0, none⟩) (rows.length + 1) cap) := fun q F hFs hF hr => by
      obtain ⟨cur', c1, c2, c3, c4⟩ := row_worldF x.w0 g q F hc
      have hcs1 : (rows.length + 1) * 5 ≤ cur.size := by rw [hz]; exact Nat.mul_le_mul_right _ hr
      obtain ⟨C', k1, k2, k3⟩ := h0.rerow (id := 0) (v' := v + 1) (g' := g) (cap' := cap) (rows' := rows.insertIdx i row0) (cur' := cur') rfl
        ⟨c4.size, c4.os, c4.tape, c4.output, fun b hb hne => c4.blk b hb fun e => hne (by rw [hown, e])⟩ (.inl hown) (.inr (by omega)) c1 (by rw [hlen]; omega) hm (by rw [c2, hz]) hrl
        (ins_rep rfl hi e2 hr0 (fun t y ht hy => (c3 t y (by omega) hy).trans (hF t ht)) hrow hnew)
      rw [hlen] at k3
      exact ⟨C', k1, k3⟩
    by_cases hroom : rows.length + 1 ≤ cap
    · by_cases hin : i = rows.length
      · subst hin
        refine Calls.mono (insE_end_room g 0 cap rows.length 1 vb vo vc cur ws x.w0 rfl rfl hH hz hwl hwc hw1 hcap63 hroom) ?_
        rintro e w' ⟨rfl, q, F, f1, f2, rfl⟩
        obtain ⟨C', k1, k3⟩ := inplace q F f1 f2 hroom
        exact ⟨_, C', rfl, k1, k3⟩
      · refine Calls.mono (insE_shift g 0 cap rows.length i 1 vb vo vc tA kA cur ws x.w0 rfl rfl hH hz hone hwl hwc hw1 hvb hsa hkA _ hsb hfb hcap63 (by omega) hroom) ?_
        rintro e w' ⟨rfl, q, F, f1, f2, rfl⟩
        obtain ⟨C', k1, k3⟩ := inplace q F f1 f2 hroom
        exact ⟨_, C', rfl, k1, k3⟩
    · by_cases hin : i = rows.length
      · subst hin
        refine Calls.mono (insE_end_grow (some ⟨g, 0, none⟩) cap rows.length 1 vb vo vc (seg cur 0 (rows.length * 5)) ws x.w0 rfl (fun h => by cases h) (seg_len _ _ _) (fun b hb j u hu => by
          cases hb
          obtain ⟨ht, rfl⟩ := seg_get hu
          rw [Addr.add_lit]
          have := (hH j (by omega)).1
          simp only [Nat.zero_add] at this ⊢
          exact this) hwl hwc hw1 hcap (by omega) hbig) ?_
        rintro e w' ⟨v', rfl, how, hgr⟩
        obtain ⟨o1, ⟨-, o2⟩ | ⟨g', cap', cur', rfl, o3, o4, o5, o6, o7, o8⟩⟩ := how
        · omega
        · obtain ⟨C', k1, k2, k3⟩ := h0.rerow (id := 0) (v' := v + 1) (g' := g') (cap' := cap') (rows' := rows.insertIdx rows.length row0) (cur' := cur') rfl
            ⟨hgr.size, hgr.os, hgr.tape, hgr.output, fun b hb _ => hgr.block b hb (by simp)⟩ (.inr o3) (.inr (by omega)) o4 (by rw [hlen]; exact o5) o6 o7 hrl
            (ins_rep rfl hi e2 hr0 (cs := cur) (vs := ws) (fun t y ht hy => by
              have := congrArg (fun l => l[t]?) o8
              rw [List.getElem?_take, if_pos (by omega), Array.getElem?_toList, hy] at this
              by_cases h1 : t < rows.length * 5
              · rw [if_pos h1]
                rw [List.getElem?_append_left (by rw [seg_len]; exact h1)] at this
                obtain ⟨-, h2⟩ := seg_get this.symm
                rw [h2, Nat.zero_add]
              · rw [if_neg h1, if_pos (by omega)]
                rw [List.getElem?_append_right (by rw [seg_len]; omega), seg_len] at this
                obtain ⟨h3, h2⟩ := List.getElem?_eq_some_iff.1 this.symm
                rw [getElem!_pos ws _ h3, h2]) hrow hnew)
          rw [hlen] at k3
          exact ⟨_, C', rfl, k1, k3⟩
      · refine Calls.mono (insE_grow g 0 cap rows.length i 1 vb vo vc cur ws x.w0 rfl rfl hH hz hone hwl hwc hw1 (by omega) hcap (by omega) hbig) ?_
        rintro e w' ⟨q, G, ROW, F, rfl, f1, f2, f3, f4, f5, rfl⟩
        have hcA : (x.w0.alloc (.cells ROW 38)).heap[x.w0.heap.size]? = some (.cells ROW 38 (0, 0)) := heap_alloc_new _ _
        obtain ⟨cur', c1, c2, c3, c4⟩ := row_worldF (x.w0.alloc (.cells ROW 38)) x.w0.heap.size q F hcA
        have hg1 := World.grownBy_alloc x.w0 (.cells ROW 38) none
        have hFs : (rows.length + 1) * 5 ≤ F.size := by rw [f4, f3]; exact Nat.mul_le_mul_right _ f1
        obtain ⟨C', k1, k2, k3⟩ := h0.rerow (id := 0) (v' := v + 1) (g' := x.w0.heap.size) (cap' := G) (rows' := rows.insertIdx i row0) (cur' := cur') rfl
          ⟨Nat.le_trans hg1.size c4.size, c4.os.trans hg1.os, c4.tape.trans hg1.tape, c4.output.trans hg1.output, fun b hb _ => (c4.blk b (Nat.lt_of_lt_of_le hb hg1.size) (by omega)).trans (hg1.block b hb (by simp))⟩ (.inr (Nat.le_refl _)) (.inr (by omega)) c1 (by rw [hlen]; exact f1) f2 (by rw [c2, f3]) hrl
          (ins_rep rfl hi e2 hr0 (fun t y ht hy => (c3 t y (by omega) hy).trans (f5 t ht)) hrow hnew)
        rw [hlen] at k3
        exact ⟨_, C', rfl, k1, k3⟩
end Go.Proofs.Ytkgobnnkcnnfhaa
