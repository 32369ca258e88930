/- Joined texts of this claim: M1 M2 Lc E1 E2 E3 E4 E5 E6 S2 S3 S4 S5. -/
import Derived.Test.YtkgobnnkcnnfhaaGreatKB
import Derived.Shelf.GgSortFunc.InsertionK
import Derived.Test.YtkgobnnkcnnfhaaGreatProg
import Derived.KernelRfl
import Derived.IntWalk
import Derived.Shelf.RegionOpenPlain
import Derived.WalkKit
import Derived.Deep.LoopGhost
import Derived.Deep.Draws
import Derived.Lib.Walk
import Derived.Sort.WalkB12
import Derived.Lib.SliceRun
import Derived.Lib.SlicesCompact
import Derived.Deep.RegionLaw
import Derived.Lib.SlicesDelete
import Derived.Shelf.Spec.SlicesInsert
import Derived.ArgAppend
set_option linter.unusedSimpArgs false
set_option linter.unusedVariables false
set_option linter.unusedSectionVars false
/- Array objects and the rows of cells where they lie: what holds in memory of an array, and what may be said when its cells were laid anew. -/
namespace Go.Proofs.YtkgobnnkcnnfhaaGreat
open Go.RowKit
section
variable {x : Cx} {C : Conc} {H : List AObj} {w w' : World}
theorem HR.row (hr : HR x C H w) {id v T sz : Nat} {sto : Bool} {rows : List (List PV)} {u : Value} (hid : H[id]? = some (.arr v sto false T sz rows)) (hu : RepV (Stab x C H w) w C (.arr id v) u) :
    u = C.sv id ∧ (∀ row ∈ rows, row.length = sz) ∧ (u = .slice none 0 0 ∧ rows = [] ∨ ∃ (g cap : Nat) (cur : Array Value), u = .slice (some ⟨g, 0, none⟩) rows.length cap ∧ w.heap[g]? = some (.cells cur T (0, 0)) ∧ rows.length ≤ cap ∧ cap ≤ maxLen ∧ cur.size = cap * sz ∧
      ∀ (k : Nat) row (j : Nat) p, rows[k]? = some row → row[j]? = some p → ∃ y, cur[k * sz + j]? = some y ∧ y.oneCell' = true ∧ RepP (Stab x C H w) w p y) := by
  obtain ⟨o1, o2, o3, xs, o4, o5⟩ := hr.obj id _ hid
  obtain ⟨e, hi⟩ := hu.arr_inv o1
  refine ⟨e, o3, ?_⟩
  rcases o4.2 with ⟨g1, g2⟩ | ⟨g, cap, cur, g1, -, g2, g3, g4, g5, g6⟩
  · exact .inl ⟨e.trans g1, List.length_eq_zero_iff.1 g2⟩
  · refine .inr ⟨g, cap, cur, e.trans g1, g2, g3, g4, g5, fun k row j p a b => ?_⟩
    have hk : k < rows.length := (List.getElem?_eq_some_iff.1 a).1
    have hj : j < sz := by rw [← o3 row (List.mem_of_getElem? a)]; exact (List.getElem?_eq_some_iff.1 b).1
    have hkl : k * sz + j < rows.length * sz := by
      have : (k + 1) * sz ≤ rows.length * sz := Nat.mul_le_mul_right _ hk
      rw [Nat.add_mul] at this; omega
    have hcl : rows.length * sz ≤ cap * sz := Nat.mul_le_mul_right _ g3
    have hlt : k * sz + j < cur.size := by omega
    have hx : xs[k * sz + j]? = some cur[k * sz + j] := by rw [← g6, List.getElem?_take, if_pos hkl, Array.getElem?_toList, Array.getElem?_eq_getElem hlt]
    have := o5 k row j p _ a b hx
    simp only [Bool.false_eq_true, if_false] at this
    exact ⟨_, Array.getElem?_eq_getElem hlt, this⟩
theorem HR.drop (hr : HR x C H w) {id v T sz g cap' : Nat} {rows rows' : List (List PV)} {cur' : Array Value} {fr : Nat × Nat}
    (hid : H[id]? = some (.arr v true false T sz rows)) (hs : Step w w' fun b => (C.sv id).ownBlock = some b) (hg : (C.sv id).ownBlock = some g)
    (hc : w'.heap[g]? = some (.cells cur' T fr)) (hn : rows'.length ≤ cap') (hm : cap' ≤ maxLen) (hz : cur'.size = cap' * sz) (hrow : ∀ row ∈ rows', row.length = sz)
    (hrep : ∀ (k : Nat) row (j : Nat) p u, rows'[k]? = some row → row[j]? = some p → cur'[k * sz + j]? = some u → RepP (Stab x C H w) w p u) :
    HR x C (H.set id .gone) w' ∧ (∀ p u, RepV (Stab x C H w) w C p u → RepV (Stab x C (H.set id .gone) w') w' C p u) ∧
      RepP (Stab x C (H.set id .gone) w') w' (.list rows') (.slice (some ⟨g, 0, none⟩) rows'.length cap') := by
  obtain ⟨o1, o2, o3, xs, o4, o5⟩ := hr.obj id _ hid
  have hlt : id < H.length := (List.getElem?_eq_some_iff.1 hid).1
  have hgb : g < w'.heap.size := (Array.getElem?_eq_some_iff.1 hc).1
  have hmp : ∀ p v, RepP (Stab x C H w) w p v → RepP (Stab x C (H.set id .gone) w') w' p v := by
    intro p v h
    refine h.mono (fun b o h => ⟨h.1, Nat.lt_of_lt_of_le h.2.1 hs.size, fun i ob1 hi => ?_⟩) fun b o h => cell_eq (hs.blk b h.2.1 fun hb => ?_)
    · by_cases e : i = id
      · subst e; rw [List.getElem?_set_self hlt] at hi; cases hi; trivial
      · rw [List.getElem?_set_ne (Ne.symm e)] at hi; exact h.2.2 i ob1 hi
    · have := h.2.2 id _ hid hb; simp at this
  obtain ⟨k1, k2⟩ := hr.change (C' := C) hid (ob' := .gone) hs rfl (fun _ => rfl) (fun _ _ => ⟨rfl, rfl⟩) (.inl ⟨rfl, rfl⟩)
    (fun b o hb hf => trivial) (fun b o hb hf => by have := hf hb; simp at this) (fun b hb => hb.elim) (fun _ _ => trivial)
  refine ⟨k1, k2, ?_⟩
  refine .list rows' _ cap' sz (fun k j => cur'[k * sz + j]!) hn hm o2 hrow (fun k row j p a b => ⟨g, 0, rfl, ?_, ?_⟩) fun k row j p a b => ?_
  · refine ⟨?_, hgb, fun i ob1 hi => ?_⟩
    · rcases hr.mine id _ g hid hg with h | h
      · exact .inr (.inl h)
      · exact .inr (.inr h)
    · by_cases e : i = id
      · subst e; rw [List.getElem?_set_self hlt] at hi; cases hi; trivial
      · rw [List.getElem?_set_ne (Ne.symm e)] at hi
        exact AObj.free_of_not (fun hb => e (hr.apart i id ob1 _ g hi hid hb hg)) _
  all_goals
    have hk : k < rows'.length := (List.getElem?_eq_some_iff.1 a).1
    have hj : j < sz := by rw [← hrow row (List.mem_of_getElem? a)]; exact (List.getElem?_eq_some_iff.1 b).1
    have hkl : k * sz + j < cur'.size := by
      have h1 : (k + 1) * sz ≤ rows'.length * sz := Nat.mul_le_mul_right _ hk
      have h2 : rows'.length * sz ≤ cap' * sz := Nat.mul_le_mul_right _ hn
      rw [Nat.add_mul] at h1; omega
  · simp [World.cell?, hc, hkl]
  · exact hmp _ _ (hrep k row j p _ a b (by simp [hkl]))
end
end Go.Proofs.YtkgobnnkcnnfhaaGreat
/- Rows of plain cells: the kit's words on rows, and arrays of the calculus. -/
namespace Go.Proofs.YtkgobnnkcnnfhaaGreat
open Go.RowKit
open Go.Sort (flatK putRowK HoldsK size_flatK get_flatK putCells mapBlock onCells)
structure Flat {α : Type} (pv : α → List PV) (enc : α → List Value) (k : Nat) : Prop where
 k0 : 0 < k
 len : ∀ a, (enc a).length = k
 lenp : ∀ a, (pv a).length = k
 one : ∀ a, ∀ v ∈ enc a, v.oneCell' = true
 fit : ∀ S w a (j : Nat) p, (pv a)[j]? = some p → RepP S w p ((enc a)[j]!)
 back : ∀ S w a (j : Nat) p u, (pv a)[j]? = some p → RepP S w p u → u = (enc a)[j]!
section
variable {α : Type} [Inhabited α] {pv : α → List PV} {enc : α → List Value} {k : Nat}
theorem Flat.holds (F : Flat pv enc k) {S : Nat → Nat → Prop} {w : World} {g T : Nat} {cur : Array Value} (l : List α) (hc : w.heap[g]? = some (.cells cur T (0, 0)))
    (h : ∀ (i : Nat) row (j : Nat) p, (l.map pv)[i]? = some row → row[j]? = some p → ∃ y, cur[i * k + j]? = some y ∧ y.oneCell' = true ∧ RepP S w p y) : HoldsK enc k w g 0 l.toArray := by
  intro t ht
  rw [size_flatK] at ht
  rw [get_flatK _ _ _ _ ht]
  have k0 := F.k0
  have hi : t / k < l.length := Nat.div_lt_of_lt_mul (by rw [Nat.mul_comm]; simpa using ht)
  have hj : t % k < k := Nat.mod_lt _ k0
  have e : t / k * k + t % k = t := by rw [Nat.mul_comm]; exact Nat.div_add_mod t k
  obtain ⟨y, h1, -, h3⟩ := h (t / k) (pv l[t / k]) (t % k) ((pv l[t / k])[t % k]'(by rw [F.lenp]; exact hj)) (by simp [hi]) (by rw [List.getElem?_eq_getElem (by rw [F.lenp]; exact hj)])
  have h4 := F.back _ _ _ _ _ _ (List.getElem?_eq_getElem (by rw [F.lenp]; exact hj)) h3
  rw [e] at h1
  have e2 : l.toArray[t / k]! = l[t / k] := by simp [hi]
  rw [e2, ← h4]
  refine ⟨?_, ?_⟩
  · simp [World.cell?, hc, h1]
  · simp [World.frozen?, hc]
theorem row_world (enc : α → List Value) (k : Nat) (w : World) (g m : Nat) (d' : Array α) (os : Array Obj) {cur : Array Value} {T : TypeId} {fr : Nat × Nat} (hc : w.heap[g]? = some (.cells cur T fr)) :
    ∃ cur' : Array Value, (sortWorldK enc k w g 0 m d' os).heap[g]? = some (.cells cur' T fr) ∧ cur'.size = cur.size ∧
      (∀ t y, t < d'.size * k → cur'[t]? = some y → y = (flatK enc k d')[t]!) ∧ Step w (sortWorldK enc k w g 0 m d' os) (fun b => b = g) := by
  have hlt : g < w.heap.size := (Array.getElem?_eq_some_iff.1 hc).1
  have hh : (sortWorldK enc k w g 0 m d' os).heap = w.heap.modify g (onCells (putCells id 0 (flatK enc k d'))) ++ os := rfl
  refine ⟨putCells id 0 (flatK enc k d') cur, ?_, by simp [putCells], fun t y ht hy => ?_, ?_⟩
  · rw [hh, Array.getElem?_append_left (by simpa using hlt), Array.getElem?_modify, if_pos rfl, hc]
    rfl
  · rw [putCells, Array.getElem?_mapIdx] at hy
    cases hcu : cur[t]? with
    | none => rw [hcu] at hy; cases hy
    | some z =>
      rw [hcu, Option.map_some, if_pos ⟨Nat.zero_le _, by rw [size_flatK]; omega⟩] at hy
      exact (Option.some.inj hy).symm
  · refine ⟨by rw [hh]; simp, rfl, rfl, rfl, fun b hb hne => ?_⟩
    rw [hh, Array.getElem?_append_left (by simpa using hb), Array.getElem?_modify, if_neg (fun e => hne e.symm)]
theorem Flat.rep (F : Flat pv enc k) {S : Nat → Nat → Prop} {w : World} {d' : Array α} {cur' : Array Value} (h : ∀ t y, t < d'.size * k → cur'[t]? = some y → y = (flatK enc k d')[t]!) {l : List α} (n : Nat) (hl : ∀ i, i < n → l[i]? = some d'[i]!) (hn : l.length = n) (hnd : n ≤ d'.size) :
    ∀ (i : Nat) row (j : Nat) p u, (l.map pv)[i]? = some row → row[j]? = some p → cur'[i * k + j]? = some u → u.oneCell' = true ∧ RepP S w p u := by
  intro i row j p u a b c
  have k0 := F.k0
  rw [List.getElem?_map] at a
  obtain ⟨y, hy, rfl⟩ := Option.map_eq_some_iff.1 a
  have hi : i < n := by rw [← hn]; exact (List.getElem?_eq_some_iff.1 hy).1
  have hj : j < k := by rw [← F.lenp y]; exact (List.getElem?_eq_some_iff.1 b).1
  rw [hl i hi] at hy
  have ht : i * k + j < d'.size * k := by
    have : (i + 1) * k ≤ d'.size * k := Nat.mul_le_mul_right _ (by omega)
    rw [Nat.add_mul] at this; omega
  have hu := h _ _ ht c
  rw [get_flatK _ _ _ _ ht] at hu
  have e1 : (i * k + j) / k = i := by rw [Nat.mul_comm, Nat.mul_add_div k0, Nat.div_eq_of_lt hj]; rfl
  have e2 : (i * k + j) % k = j := by rw [Nat.mul_comm, Nat.mul_add_mod, Nat.mod_eq_of_lt hj]
  rw [e1, e2, Option.some.inj hy] at hu
  subst hu
  refine ⟨F.one y _ ?_, F.fit _ _ _ _ _ b⟩
  rw [getElem!_pos _ j (by rw [F.len]; exact hj)]
  exact List.getElem_mem _
end
end Go.Proofs.YtkgobnnkcnnfhaaGreat
/- The lowered code of this seat's functions (printed by a program). -/
namespace Go.Proofs.YtkgobnnkcnnfhaaGreat
def LOper.q (d : Nat) (o : LOp) : LOper := ⟨some d, o, none, true⟩
def LOper.z (d : Nat) (o : LOp) : LOper := ⟨some d, o, none, false⟩
def LOper.s (o : LOp) : LOper := ⟨none, o, none, true⟩
def LOper.g (d : Nat) (o : LOp) (t : Nat) (b : Bool) : LOper := ⟨some d, o, some (t, b), true⟩
def LOper.y (d : Nat) (o : LOp) (t : Nat) (b : Bool) : LOper := ⟨some d, o, some (t, b), false⟩
attribute [go_sem] LOper.q LOper.z LOper.s LOper.g LOper.y eq_self
set_option maxRecDepth 100000 in
def L3 : LC := (.seq (.reg none [.q 2 (.box (.tmp 0)), .q 3 (.box (.tmp 1)), .q 4 (.mv (.val (.bool false)))]) (.seq (.reg none [.q 14 (.load 2 true (.tmp 2)), .q 15 (.load 5 true (.tmp 3)), .q 16 (.call 4 [.tmp 14, .tmp 15] 0), .q 13 (.mv (.tmp 16)), .q 17 (.ext 0 (.tmp 13)), .q 18 (.ext 1 (.tmp 13)), .q 5 (.alloc [.nilsl, .nilsl]), .s (.store 2 (.tmp 5) (.tmp 17)), .q 6 (.mv (.tmp 18))]) (.seq (.reg none [.q 20 (.load 2 true (.tmp 2)), .q 21 (.call 5 [.tmp 20] 0), .q 19 (.mv (.tmp 21)), .q 22 (.ext 0 (.tmp 19)), .q 23 (.ext 1 (.tmp 19)), .q 7 (.alloc [.nilsl, .nilsl]), .s (.store 2 (.tmp 7) (.tmp 22)), .q 8 (.mv (.tmp 23))]) (.seq (.reg none [.q 24 (.load 2 true (.tmp 2)), .q 25 (.call 6 [.tmp 24] 0), .q 9 (.mv (.tmp 25))]) (.seq (.reg none [.q 26 (.mv (.tmp 9)), .q 10 (.mv (.tmp 26))]) (.seq (.reg none [.q 11 (.alloc [.nilsl, .nilsl]), .q 12 (.alloc [.nilsl, .nilsl])]) (.seq (.seq (.reg none [.q 27 (.mv (.tmp 9)), .q 28 (.bin .eql (.tmp 27) (.val (.int .i64 0)))]) (.cond (.tmp 28) (.seq (.reg none [.q 30 (.load 2 true (.tmp 2)), .q 31 (.load 5 true (.tmp 3)), .q 32 (.call 7 [.tmp 30, .tmp 31] 0), .q 29 (.mv (.tmp 32)), .q 33 (.ext 0 (.tmp 29)), .q 34 (.ext 1 (.tmp 29)), .s (.store 2 (.tmp 11) (.tmp 33)), .q 9 (.mv (.tmp 34))]) (.reg none [.q 36 (.load 2 true (.tmp 2)), .q 37 (.call 8 [.tmp 36, .val (.int .i64 0)] 0), .q 35 (.mv (.tmp 37)), .q 38 (.ext 0 (.tmp 35)), .q 39 (.ext 1 (.tmp 35)), .s (.store 2 (.tmp 12) (.tmp 38)), .q 10 (.mv (.tmp 39))])) .skip)) (.seq (.seq (.reg none [.q 40 (.mv (.tmp 10)), .q 41 (.bin .eql (.tmp 40) (.val (.int .i64 0)))]) (.cond (.tmp 41) (.reg none [.q 43 (.load 2 true (.tmp 12)), .q 44 (.call 8 [.tmp 43, .val (.int .i64 1)] 0), .q 42 (.mv (.tmp 44)), .q 45 (.ext 0 (.tmp 42)), .q 46 (.ext 1 (.tmp 42)), .s (.store 2 (.tmp 12) (.tmp 45)), .q 10 (.mv (.tmp 46))]) .skip)) (.seq (.reg (some []) [.q 47 (.call 9 [] 0), .q 48 (.mv (.tmp 47)), .g 49 (.call 11 [] 0) 48 true, .g 50 (.call 12 [] 0) 48 true, .g 51 (.call 10 [.tmp 49, .tmp 50] 0) 48 true, .q 52 (.pick (.tmp 48) (.tmp 51) (.val (.bool false))), .q 53 (.mv (.tmp 52)), .y 54 (.load 2 true (.tmp 2)) 53 true, .y 55 (.call 13 [.tmp 54] 0) 53 true, .y 56 (.load 2 true (.tmp 2)) 53 true, .g 57 (.call 6 [.tmp 56] 0) 53 true, .g 58 (.bin .eql (.tmp 55) (.tmp 57)) 53 true, .q 59 (.pick (.tmp 53) (.tmp 58) (.val (.bool false))), .q 60 (.mv (.tmp 59)), .y 61 (.load 2 true (.tmp 5)) 60 true, .g 62 (.mv (.tmp 6)) 60 true, .g 63 (.mv (.tmp 9)) 60 true, .y 64 (.load 2 true (.tmp 11)) 60 true, .g 65 (.call 14 [.tmp 61, .tmp 62, .tmp 63, .tmp 64] 0) 60 true, .q 66 (.pick (.tmp 60) (.tmp 65) (.val (.bool false))), .q 67 (.mv (.tmp 66)), .y 68 (.load 2 true (.tmp 7)) 67 true, .g 69 (.mv (.tmp 8)) 67 true, .g 70 (.mv (.tmp 10)) 67 true, .y 71 (.load 2 true (.tmp 12)) 67 true, .g 72 (.call 14 [.tmp 68, .tmp 69, .tmp 70, .tmp 71] 0) 67 true, .q 73 (.pick (.tmp 67) (.tmp 72) (.val (.bool false))), .q 4 (.mv (.tmp 73))]) .ret)))))))))
def R3 : List LRes := [.tmp 4]
theorem low3 : Tryz.f3.body.bind (lowerCode Tryz.prog 74) = some L3 := by kernel_rfl
theorem res3 : lowerRes Tryz.prog Tryz.f3.results.toList = some R3 := by kernel_rfl
set_option maxRecDepth 100000 in
def L4 : LC := (.seq (.reg none [.q 2 (.box (.tmp 0)), .q 3 (.box (.tmp 1)), .q 4 (.alloc [.nilsl, .nilsl]), .q 5 (.mv (.val (.int .i64 0)))]) (.seq (.seq (.reg none [.q 7 (.load 2 true (.tmp 2)), .q 8 (.call 13 [.tmp 7] 0), .q 6 (.mv (.tmp 8))]) (.seq (.reg none [.q 9 (.mv (.tmp 6)), .q 10 (.bin .neq (.tmp 9) (.val (.int .i64 0)))]) (.cond (.tmp 10) (.seq (.reg none [.q 11 (.build [.nilsl, .nilsl] []), .q 12 (.mv (.tmp 6)), .s (.store 2 (.tmp 4) (.tmp 11)), .q 5 (.mv (.tmp 12))]) .ret) .skip))) (.seq (.reg none [.q 13 (.load 2 true (.tmp 2)), .q 14 (.load 5 true (.tmp 3)), .q 15 (.call 15 [.tmp 13, .tmp 14] 0), .q 16 (.ext 0 (.tmp 15)), .q 17 (.ext 1 (.tmp 15)), .s (.store 2 (.tmp 4) (.tmp 16)), .q 5 (.mv (.tmp 17))]) .ret)))
def R4 : List LRes := [(.cell 4 2 true), .tmp 5]
theorem low4 : Tryz.f4.body.bind (lowerCode Tryz.prog 18) = some L4 := by kernel_rfl
theorem res4 : lowerRes Tryz.prog Tryz.f4.results.toList = some R4 := by kernel_rfl
set_option maxRecDepth 100000 in
def L5 : LC := (.seq (.reg none [.q 1 (.box (.tmp 0)), .q 2 (.alloc [.nilsl, .nilsl]), .q 3 (.mv (.val (.int .i64 0)))]) (.seq (.seq (.reg none [.q 8 (.load 2 true (.tmp 1)), .q 9 (.call 13 [.tmp 8] 0), .q 4 (.mv (.tmp 9))]) (.seq (.reg none [.q 10 (.mv (.tmp 4)), .q 11 (.bin .neq (.tmp 10) (.val (.int .i64 0)))]) (.cond (.tmp 11) (.seq (.reg none [.q 12 (.build [.nilsl, .nilsl] []), .q 13 (.mv (.tmp 4)), .s (.store 2 (.tmp 2) (.tmp 12)), .q 3 (.mv (.tmp 13))]) .ret) .skip))) (.seq (.reg none [.q 14 (.load 2 true (.tmp 1)), .q 15 (.call 16 [.tmp 14] 0), .q 5 (.mv (.tmp 15))]) (.seq (.seq (.reg none [.q 16 (.mv (.val (.int .i64 0)))]) (.block 0 (.loop (.seq (.reg none [.q 17 (.bin .lss (.tmp 16) (.val (.int .i64 2)))]) (.seq (.cond (.tmp 17) .skip (.exit 0)) (.seq (.block 1 (.seq (.reg none [.q 18 (.mv (.tmp 16)), .q 6 (.mv (.tmp 18))]) (.seq (.reg none [.q 19 (.mv (.tmp 5)), .q 20 (.mv (.tmp 6)), .q 21 (.call 17 [.tmp 19, .tmp 20] 0), .q 7 (.mv (.tmp 21))]) (.seq (.reg none [.q 22 (.mv (.tmp 7)), .q 23 (.bin .neq (.tmp 22) (.val (.int .i64 0)))]) (.cond (.tmp 23) (.seq (.reg none [.q 24 (.build [.nilsl, .nilsl] []), .q 25 (.mv (.tmp 7)), .s (.store 2 (.tmp 2) (.tmp 24)), .q 3 (.mv (.tmp 25))]) .ret) .skip))))) (.reg none [.q 26 (.bin .add (.tmp 16) (.val (.int .i64 1))), .q 16 (.mv (.tmp 26))]))))))) (.seq (.reg none [.q 27 (.mv (.tmp 5)), .q 28 (.nilchk (.tmp 27)), .q 29 (.addr 0 (.tmp 28)), .q 30 (.load 2 true (.tmp 29)), .s (.store 2 (.tmp 2) (.tmp 30)), .q 3 (.mv (.val (.int .i64 0)))]) .ret)))))
def R5 : List LRes := [(.cell 2 2 true), .tmp 3]
theorem low5 : Tryz.f5.body.bind (lowerCode Tryz.prog 31) = some L5 := by kernel_rfl
theorem res5 : lowerRes Tryz.prog Tryz.f5.results.toList = some R5 := by kernel_rfl
set_option maxRecDepth 100000 in
def L6 : LC := (.seq (.reg none [.q 1 (.box (.tmp 0)), .q 2 (.mv (.val (.int .i64 0)))]) (.seq (.seq (.reg none [.q 11 (.addr 0 (.tmp 1)), .q 12 (.load 1 false (.tmp 11)), .q 13 (.len false (.tmp 12)), .q 14 (.bin .neq (.tmp 13) (.val (.int .i64 2))), .q 15 (.mv (.tmp 14)), .g 16 (.addr 1 (.tmp 1)) 15 false, .g 17 (.load 1 false (.tmp 16)) 15 false, .g 18 (.len false (.tmp 17)) 15 false, .g 19 (.bin .neq (.tmp 18) (.val (.int .i64 2))) 15 false, .q 20 (.pick (.tmp 15) (.val (.bool true)) (.tmp 19))]) (.cond (.tmp 20) (.seq (.reg none [.q 2 (.mv (.val (.int .i64 1)))]) .ret) .skip)) (.seq (.seq (.reg none [.q 3 (.mv (.val (.int .i64 0)))]) (.block 0 (.loop (.seq (.seq (.reg none [.q 21 (.mv (.tmp 3)), .q 22 (.bin .lss (.tmp 21) (.val (.int .i64 2)))]) (.cond (.tmp 22) .skip (.exit 0))) (.seq (.block 1 (.seq (.reg none [.q 25 (.addr 0 (.tmp 1)), .q 26 (.load 1 false (.tmp 25)), .q 27 (.mv (.tmp 3)), .q 28 (.iaddrS 3 (.tmp 26) (.tmp 27)), .q 29 (.load 3 true (.tmp 28)), .q 30 (.call 18 [.tmp 29] 0), .q 4 (.mv (.tmp 30))]) (.seq (.seq (.reg none [.q 31 (.mv (.tmp 4)), .q 32 (.bin .neq (.tmp 31) (.val (.int .i64 0)))]) (.cond (.tmp 32) (.seq (.reg none [.q 33 (.mv (.tmp 4)), .q 2 (.mv (.tmp 33))]) .ret) .skip)) (.seq (.reg none [.q 34 (.addr 0 (.tmp 1)), .q 35 (.load 1 false (.tmp 34)), .q 36 (.mv (.tmp 3)), .q 37 (.iaddrS 3 (.tmp 35) (.tmp 36)), .q 38 (.addr 0 (.tmp 37)), .q 39 (.load 1 false (.tmp 38)), .q 40 (.mv (.tmp 3)), .q 41 (.bin .neq (.tmp 39) (.tmp 40))]) (.cond (.tmp 41) (.seq (.reg none [.q 2 (.mv (.val (.int .i64 4)))]) .ret) .skip))))) (.reg none [.q 23 (.mv (.tmp 3)), .q 24 (.bin .add (.tmp 23) (.val (.int .i64 1))), .q 3 (.mv (.tmp 24))])))))) (.seq (.seq (.reg none [.q 5 (.mv (.val (.int .i64 0)))]) (.block 2 (.loop (.seq (.seq (.reg none [.q 42 (.mv (.tmp 5)), .q 43 (.bin .lss (.tmp 42) (.val (.int .i64 2)))]) (.cond (.tmp 43) .skip (.exit 2))) (.seq (.block 3 (.seq (.seq (.reg none [.q 46 (.addr 1 (.tmp 1)), .q 47 (.load 1 false (.tmp 46)), .q 48 (.mv (.tmp 5)), .q 49 (.iaddrS 1 (.tmp 47) (.tmp 48)), .q 50 (.load 1 false (.tmp 49)), .q 51 (.len false (.tmp 50)), .q 52 (.bin .gtr (.tmp 51) (.val (.int .i64 30)))]) (.cond (.tmp 52) (.seq (.reg none [.q 2 (.mv (.val (.int .i64 2)))]) .ret) .skip)) (.seq (.reg none [.q 6 (.mv (.val (.int .i64 0)))]) (.block 4 (.loop (.seq (.seq (.reg none [.q 53 (.mv (.tmp 6)), .q 54 (.addr 1 (.tmp 1)), .q 55 (.load 1 false (.tmp 54)), .q 56 (.mv (.tmp 5)), .q 57 (.iaddrS 1 (.tmp 55) (.tmp 56)), .q 58 (.load 1 false (.tmp 57)), .q 59 (.len false (.tmp 58)), .q 60 (.bin .lss (.tmp 53) (.tmp 59))]) (.cond (.tmp 60) .skip (.exit 4))) (.seq (.block 5 (.seq (.reg none [.q 63 (.addr 1 (.tmp 1)), .q 64 (.load 1 false (.tmp 63)), .q 65 (.mv (.tmp 5)), .q 66 (.iaddrS 1 (.tmp 64) (.tmp 65)), .q 67 (.load 1 false (.tmp 66)), .q 68 (.mv (.tmp 6)), .q 69 (.iaddrS 5 (.tmp 67) (.tmp 68)), .q 70 (.load 5 true (.tmp 69)), .q 71 (.call 19 [.tmp 70] 0), .q 7 (.mv (.tmp 71))]) (.seq (.seq (.reg none [.q 72 (.mv (.tmp 7)), .q 73 (.bin .neq (.tmp 72) (.val (.int .i64 0)))]) (.cond (.tmp 73) (.seq (.reg none [.q 74 (.mv (.tmp 7)), .q 2 (.mv (.tmp 74))]) .ret) .skip)) (.seq (.reg (some []) [.z 75 (.load 2 true (.tmp 1)), .z 76 (.addr 1 (.tmp 1)), .z 77 (.load 1 false (.tmp 76)), .q 78 (.mv (.tmp 5)), .z 79 (.iaddrS 1 (.tmp 77) (.tmp 78)), .z 80 (.load 1 false (.tmp 79)), .q 81 (.mv (.tmp 6)), .z 82 (.iaddrS 5 (.tmp 80) (.tmp 81)), .z 83 (.load 5 true (.tmp 82)), .q 84 (.call 20 [.tmp 75, .tmp 83] 0), .q 85 (.not (.tmp 84))]) (.cond (.tmp 85) (.seq (.reg none [.q 2 (.mv (.val (.int .i64 4)))]) .ret) .skip))))) (.reg none [.q 61 (.mv (.tmp 6)), .q 62 (.bin .add (.tmp 61) (.val (.int .i64 1))), .q 6 (.mv (.tmp 62))])))))))) (.reg none [.q 44 (.mv (.tmp 5)), .q 45 (.bin .add (.tmp 44) (.val (.int .i64 1))), .q 5 (.mv (.tmp 45))])))))) (.seq (.seq (.reg none [.q 8 (.mv (.val (.int .i64 0)))]) (.block 6 (.loop (.seq (.seq (.reg none [.q 86 (.mv (.tmp 8)), .q 87 (.bin .lss (.tmp 86) (.val (.int .i64 2)))]) (.cond (.tmp 87) .skip (.exit 6))) (.seq (.block 7 (.seq (.reg (some [(0, 1), (0, 2), (0, 4), (0, 5), (0, 6), (0, 8), (7, 8), (0, 9), (7, 9), (0, 11), (7, 11), (0, 12), (7, 12), (0, 13), (7, 13)]) [.z 90 (.mk0 53 5), .z 91 (.addr 0 (.tmp 1)), .z 92 (.load 1 false (.tmp 91)), .q 93 (.mv (.tmp 8)), .z 94 (.iaddrS 3 (.tmp 92) (.tmp 93)), .z 95 (.addr 1 (.tmp 94)), .z 96 (.load 1 false (.tmp 95)), .z 97 (.append 53 5 64 (.tmp 90) (.tmp 96)), .z 98 (.addr 0 (.tmp 1)), .z 99 (.load 1 false (.tmp 98)), .q 100 (.mv (.tmp 8)), .z 101 (.iaddrS 3 (.tmp 99) (.tmp 100)), .z 102 (.addr 2 (.tmp 101)), .z 103 (.load 1 false (.tmp 102)), .q 104 (.append 53 5 64 (.tmp 97) (.tmp 103)), .q 9 (.mv (.tmp 104))]) (.seq (.reg none [.q 10 (.mv (.val (.int .i64 0)))]) (.block 8 (.loop (.seq (.seq (.reg none [.q 105 (.mv (.tmp 10)), .q 106 (.mv (.tmp 9)), .q 107 (.len false (.tmp 106)), .q 108 (.bin .lss (.tmp 105) (.tmp 107))]) (.cond (.tmp 108) .skip (.exit 8))) (.seq (.block 9 (.seq (.reg (some []) [.z 111 (.load 2 true (.tmp 1)), .q 112 (.mv (.tmp 9)), .q 113 (.mv (.tmp 10)), .z 114 (.iaddrS 5 (.tmp 112) (.tmp 113)), .z 115 (.load 5 true (.tmp 114)), .q 116 (.call 20 [.tmp 111, .tmp 115] 0), .q 117 (.not (.tmp 116))]) (.cond (.tmp 117) (.seq (.reg none [.q 2 (.mv (.val (.int .i64 4)))]) .ret) .skip))) (.reg none [.q 109 (.mv (.tmp 10)), .q 110 (.bin .add (.tmp 109) (.val (.int .i64 1))), .q 10 (.mv (.tmp 110))])))))))) (.reg none [.q 88 (.mv (.tmp 8)), .q 89 (.bin .add (.tmp 88) (.val (.int .i64 1))), .q 8 (.mv (.tmp 89))])))))) (.seq (.reg none [.q 2 (.mv (.val (.int .i64 0)))]) .ret))))))
def R6 : List LRes := [.tmp 2]
theorem low6 : Tryz.f6.body.bind (lowerCode Tryz.prog 118) = some L6 := by kernel_rfl
theorem res6 : lowerRes Tryz.prog Tryz.f6.results.toList = some R6 := by kernel_rfl
set_option maxRecDepth 100000 in
def L7 : LC := (.seq (.reg none [.q 2 (.box (.tmp 0)), .q 3 (.box (.tmp 1)), .q 4 (.alloc [.nilsl, .nilsl]), .q 5 (.mv (.val (.int .i64 0)))]) (.seq (.seq (.reg none [.q 13 (.addr 0 (.tmp 3)), .q 14 (.load 1 false (.tmp 13)), .q 15 (.call 21 [.tmp 14, .val (.int .i64 1), .val (.int .i64 5)] 0), .q 16 (.not (.tmp 15))]) (.cond (.tmp 16) (.seq (.reg none [.q 17 (.build [.nilsl, .nilsl] []), .s (.store 2 (.tmp 4) (.tmp 17)), .q 5 (.mv (.val (.int .i64 7)))]) .ret) .skip)) (.seq (.seq (.reg none [.q 18 (.addr 0 (.tmp 3)), .q 19 (.load 1 false (.tmp 18)), .q 20 (.bin .neq (.tmp 19) (.val (.int .i64 1))), .q 21 (.mv (.tmp 20)), .g 22 (.addr 3 (.tmp 3)) 21 true, .g 23 (.load 1 false (.tmp 22)) 21 true, .g 24 (.bin .neq (.tmp 23) (.val (.int .i64 0))) 21 true, .g 25 (.mv (.tmp 24)) 21 true, .g 26 (.addr 4 (.tmp 3)) 25 false, .g 27 (.load 1 false (.tmp 26)) 25 false, .g 28 (.bin .neq (.tmp 27) (.val (.str ⟨#[]⟩))) 25 false, .g 29 (.pick (.tmp 25) (.val (.bool true)) (.tmp 28)) 21 true, .q 30 (.pick (.tmp 21) (.tmp 29) (.val (.bool false))), .q 31 (.mv (.tmp 30)), .g 32 (.addr 0 (.tmp 3)) 31 false, .g 33 (.load 1 false (.tmp 32)) 31 false, .g 34 (.bin .eql (.tmp 33) (.val (.int .i64 1))) 31 false, .g 35 (.mv (.tmp 34)) 31 false, .g 36 (.addr 0 (.tmp 3)) 35 false, .g 37 (.load 1 false (.tmp 36)) 35 false, .g 38 (.bin .eql (.tmp 37) (.val (.int .i64 5))) 35 false, .g 39 (.pick (.tmp 35) (.val (.bool true)) (.tmp 38)) 31 false, .g 40 (.mv (.tmp 39)) 31 false, .g 41 (.addr 2 (.tmp 3)) 40 true, .g 42 (.load 1 false (.tmp 41)) 40 true, .g 43 (.bin .neq (.tmp 42) (.val (.int .i64 0))) 40 true, .g 44 (.pick (.tmp 40) (.tmp 43) (.val (.bool false))) 31 false, .q 45 (.pick (.tmp 31) (.val (.bool true)) (.tmp 44))]) (.cond (.tmp 45) (.seq (.reg none [.q 46 (.build [.nilsl, .nilsl] []), .s (.store 2 (.tmp 4) (.tmp 46)), .q 5 (.mv (.val (.int .i64 1)))]) .ret) .skip)) (.seq (.seq (.reg none [.q 47 (.addr 1 (.tmp 3)), .q 48 (.load 1 false (.tmp 47)), .q 49 (.call 21 [.tmp 48, .val (.int .i64 0), .val (.int .i64 1)] 0), .q 50 (.not (.tmp 49))]) (.cond (.tmp 50) (.seq (.reg none [.q 51 (.build [.nilsl, .nilsl] []), .s (.store 2 (.tmp 4) (.tmp 51)), .q 5 (.mv (.val (.int .i64 3)))]) .ret) .skip)) (.seq (.seq (.reg none [.q 52 (.addr 0 (.tmp 3)), .q 53 (.load 1 false (.tmp 52)), .q 54 (.bin .eql (.tmp 53) (.val (.int .i64 5)))]) (.cond (.tmp 54) (.seq (.reg none [.q 55 (.load 2 true (.tmp 2)), .q 56 (.addr 1 (.tmp 3)), .q 57 (.load 1 false (.tmp 56)), .q 58 (.call 8 [.tmp 55, .tmp 57] 0), .q 59 (.ext 0 (.tmp 58)), .q 60 (.ext 1 (.tmp 58)), .s (.store 2 (.tmp 4) (.tmp 59)), .q 5 (.mv (.tmp 60))]) .ret) .skip)) (.seq (.reg none [.q 61 (.load 2 true (.tmp 2)), .q 62 (.call 22 [.tmp 61] 0), .q 6 (.alloc [.nilsl, .nilsl]), .s (.store 2 (.tmp 6) (.tmp 62))]) (.seq (.seq (.reg none [.q 63 (.addr 0 (.tmp 3)), .q 64 (.load 1 false (.tmp 63)), .q 65 (.bin .eql (.tmp 64) (.val (.int .i64 1)))]) (.cond (.tmp 65) (.seq (.regS [(47, (3, true)), (53, (5, true))] [(0, 15), (1, 15), (2, 15), (3, 15), (4, 15), (5, 15), (6, 15), (7, 15), (8, 15), (9, 15), (10, 15), (0, 16), (1, 16), (2, 16), (3, 16), (4, 16), (5, 16), (6, 16), (7, 16), (8, 16), (9, 16), (10, 16), (15, 16)] [.z 67 (.addr 0 (.tmp 2)), .z 68 (.load 1 false (.tmp 67)), .z 69 (.addr 1 (.tmp 3)), .z 70 (.load 1 false (.tmp 69)), .z 71 (.iaddrS 3 (.tmp 68) (.tmp 70)), .z 72 (.load 3 true (.tmp 71)), .z 73 (.addr 3 (.tmp 3)), .z 74 (.load 1 false (.tmp 73)), .z 75 (.addr 4 (.tmp 3)), .z 76 (.load 1 false (.tmp 75)), .z 77 (.call 23 [.tmp 72, .tmp 74, .tmp 76] 0), .q 66 (.mv (.tmp 77)), .q 78 (.ext 0 (.tmp 66)), .q 79 (.ext 1 (.tmp 66)), .q 80 (.ext 2 (.tmp 66)), .z 7 (.alloci 47 0 [.int .i64 0, .nilsl, .nilsl]), .z 8 (.alloci 53 1 [.int .i64 0, .int .i64 0, .int .i64 0, .str ⟨#[]⟩, .nilsl]), .s (.store 3 (.tmp 7) (.tmp 78)), .s (.store 5 (.tmp 8) (.tmp 79)), .q 9 (.mv (.tmp 80))]) (.seq (.seq (.reg none [.q 81 (.mv (.tmp 9)), .q 82 (.bin .neq (.tmp 81) (.val (.int .i64 0)))]) (.cond (.tmp 82) (.seq (.reg none [.q 83 (.build [.nilsl, .nilsl] []), .q 84 (.mv (.tmp 9)), .s (.store 2 (.tmp 4) (.tmp 83)), .q 5 (.mv (.tmp 84))]) .ret) .skip)) (.seq (.reg none [.q 85 (.addr 0 (.tmp 6)), .q 86 (.load 1 false (.tmp 85)), .q 87 (.addr 1 (.tmp 3)), .q 88 (.load 1 false (.tmp 87)), .q 89 (.load 3 true (.tmp 7)), .q 90 (.iaddrS 3 (.tmp 86) (.tmp 88)), .s (.store 3 (.tmp 90) (.tmp 89))]) (.seq (.seq (.reg none [.q 91 (.addr 1 (.tmp 2)), .q 92 (.load 1 false (.tmp 91)), .q 93 (.addr 1 (.tmp 3)), .q 94 (.load 1 false (.tmp 93)), .q 95 (.bin .sub (.val (.int .i64 1)) (.tmp 94)), .q 96 (.iaddrS 1 (.tmp 92) (.tmp 95)), .q 97 (.load 1 false (.tmp 96)), .q 98 (.len false (.tmp 97)), .q 99 (.bin .lss (.tmp 98) (.val (.int .i64 30)))]) (.cond (.tmp 99) (.reg (some [(0, 5), (1, 5), (2, 5), (3, 5), (5, 6), (5, 7), (5, 8), (5, 9), (5, 11), (5, 12), (0, 13), (1, 13), (2, 13), (3, 13), (5, 14), (13, 14), (0, 16), (1, 16), (2, 16), (3, 16)]) [.z 100 (.addr 1 (.tmp 6)), .z 101 (.load 1 false (.tmp 100)), .z 102 (.addr 1 (.tmp 3)), .z 103 (.load 1 false (.tmp 102)), .q 104 (.bin .sub (.val (.int .i64 1)) (.tmp 103)), .z 105 (.mk0 53 5), .z 106 (.addr 1 (.tmp 2)), .z 107 (.load 1 false (.tmp 106)), .z 108 (.addr 1 (.tmp 3)), .z 109 (.load 1 false (.tmp 108)), .q 110 (.bin .sub (.val (.int .i64 1)) (.tmp 109)), .z 111 (.iaddrS 1 (.tmp 107) (.tmp 110)), .z 112 (.load 1 false (.tmp 111)), .z 113 (.append 53 5 64 (.tmp 105) (.tmp 112)), .z 114 (.load 5 true (.tmp 8)), .q 115 (.mks 5 [.int .i64 0, .int .i64 0, .int .i64 0, .str ⟨#[]⟩, .nilsl] 1 [(0, (.tmp 114))]), .z 116 (.append 53 5 64 (.tmp 113) (.tmp 115)), .q 117 (.iaddrS 1 (.tmp 101) (.tmp 104)), .s (.store 1 (.tmp 117) (.tmp 116))]) .skip)) (.seq (.reg none [.q 118 (.load 2 true (.tmp 6)), .s (.store 2 (.tmp 4) (.tmp 118)), .q 5 (.mv (.val (.int .i64 0)))]) .ret))))) .skip)) (.seq (.reg none [.q 119 (.addr 1 (.tmp 2)), .q 120 (.load 1 false (.tmp 119)), .q 121 (.addr 1 (.tmp 3)), .q 122 (.load 1 false (.tmp 121)), .q 123 (.iaddrS 1 (.tmp 120) (.tmp 122)), .q 124 (.load 1 false (.tmp 123)), .q 10 (.mv (.tmp 124))]) (.seq (.seq (.reg none [.q 125 (.addr 2 (.tmp 3)), .q 126 (.load 1 false (.tmp 125)), .q 127 (.mv (.tmp 10)), .q 128 (.len false (.tmp 127)), .q 129 (.bin .sub (.tmp 128) (.val (.int .i64 1))), .q 130 (.call 21 [.tmp 126, .val (.int .i64 0), .tmp 129] 0), .q 131 (.not (.tmp 130))]) (.cond (.tmp 131) (.seq (.reg none [.q 132 (.build [.nilsl, .nilsl] []), .s (.store 2 (.tmp 4) (.tmp 132)), .q 5 (.mv (.val (.int .i64 5)))]) .ret) .skip)) (.seq (.seq (.reg none [.q 133 (.addr 0 (.tmp 3)), .q 134 (.load 1 false (.tmp 133))]) (.block 0 (.seq (.reg none [.q 136 (.bin .eql (.tmp 134) (.val (.int .i64 2))), .q 135 (.mv (.tmp 136))]) (.cond (.tmp 135) (.seq (.reg (some [(0, 15), (1, 15), (2, 15), (3, 15), (4, 15), (5, 15), (7, 15), (8, 15), (9, 15), (10, 15), (11, 15)]) [.z 138 (.addr 0 (.tmp 2)), .z 139 (.load 1 false (.tmp 138)), .z 140 (.addr 1 (.tmp 3)), .z 141 (.load 1 false (.tmp 140)), .z 142 (.iaddrS 3 (.tmp 139) (.tmp 141)), .z 143 (.load 3 true (.tmp 142)), .q 144 (.mv (.tmp 10)), .z 145 (.addr 2 (.tmp 3)), .z 146 (.load 1 false (.tmp 145)), .z 147 (.iaddrS 5 (.tmp 144) (.tmp 146)), .z 148 (.load 5 true (.tmp 147)), .z 149 (.call 24 [.tmp 143, .tmp 148] 0), .q 137 (.mv (.tmp 149)), .q 150 (.ext 0 (.tmp 137)), .q 151 (.ext 1 (.tmp 137)), .z 11 (.alloc [.int .i64 0, .nilsl, .nilsl]), .s (.store 3 (.tmp 11) (.tmp 150)), .q 12 (.mv (.tmp 151))]) (.seq (.seq (.reg none [.q 152 (.mv (.tmp 12)), .q 153 (.bin .neq (.tmp 152) (.val (.int .i64 0)))]) (.cond (.tmp 153) (.seq (.reg none [.q 154 (.build [.nilsl, .nilsl] []), .q 155 (.mv (.tmp 12)), .s (.store 2 (.tmp 4) (.tmp 154)), .q 5 (.mv (.tmp 155))]) .ret) .skip)) (.seq (.reg none [.q 156 (.addr 0 (.tmp 6)), .q 157 (.load 1 false (.tmp 156)), .q 158 (.addr 1 (.tmp 3)), .q 159 (.load 1 false (.tmp 158)), .q 160 (.load 3 true (.tmp 11)), .q 161 (.iaddrS 3 (.tmp 157) (.tmp 159)), .s (.store 3 (.tmp 161) (.tmp 160))]) (.reg (some []) [.z 162 (.addr 1 (.tmp 6)), .z 163 (.load 1 false (.tmp 162)), .z 164 (.addr 1 (.tmp 3)), .z 165 (.load 1 false (.tmp 164)), .q 166 (.mv (.tmp 10)), .z 167 (.addr 2 (.tmp 3)), .z 168 (.load 1 false (.tmp 167)), .z 169 (.call 25 [.tmp 166, .tmp 168] 0), .q 170 (.iaddrS 1 (.tmp 163) (.tmp 165)), .s (.store 1 (.tmp 170) (.tmp 169))])))) (.seq (.reg none [.q 172 (.bin .eql (.tmp 134) (.val (.int .i64 3))), .q 171 (.mv (.tmp 172))]) (.cond (.tmp 171) (.reg (some []) [.z 173 (.addr 1 (.tmp 6)), .z 174 (.load 1 false (.tmp 173)), .z 175 (.addr 1 (.tmp 3)), .z 176 (.load 1 false (.tmp 175)), .q 177 (.mv (.tmp 10)), .z 178 (.addr 2 (.tmp 3)), .z 179 (.load 1 false (.tmp 178)), .z 180 (.call 25 [.tmp 177, .tmp 179] 0), .q 181 (.iaddrS 1 (.tmp 174) (.tmp 176)), .s (.store 1 (.tmp 181) (.tmp 180))]) (.seq (.reg none [.q 183 (.bin .eql (.tmp 134) (.val (.int .i64 4))), .q 182 (.mv (.tmp 183))]) (.cond (.tmp 182) (.seq (.seq (.reg none [.q 184 (.mv (.tmp 10)), .q 185 (.len false (.tmp 184)), .q 186 (.bin .eql (.tmp 185) (.val (.int .i64 30)))]) (.cond (.tmp 186) (.seq (.reg none [.q 187 (.build [.nilsl, .nilsl] []), .s (.store 2 (.tmp 4) (.tmp 187)), .q 5 (.mv (.val (.int .i64 2)))]) .ret) .skip)) (.reg (some [(0, 4), (1, 4), (2, 4), (3, 4), (0, 6), (1, 6), (2, 6), (3, 6), (4, 8), (6, 8), (4, 9), (6, 9), (4, 10), (6, 10), (4, 11), (6, 11), (0, 13), (1, 13), (2, 13), (3, 13)]) [.z 188 (.addr 1 (.tmp 6)), .z 189 (.load 1 false (.tmp 188)), .z 190 (.addr 1 (.tmp 3)), .z 191 (.load 1 false (.tmp 190)), .z 192 (.mk0 53 5), .q 193 (.mv (.tmp 10)), .z 194 (.append 53 5 64 (.tmp 192) (.tmp 193)), .q 195 (.mv (.tmp 10)), .z 196 (.addr 2 (.tmp 3)), .z 197 (.load 1 false (.tmp 196)), .z 198 (.iaddrS 5 (.tmp 195) (.tmp 197)), .z 199 (.load 5 true (.tmp 198)), .q 200 (.mks 5 [.int .i64 0, .int .i64 0, .int .i64 0, .str ⟨#[]⟩, .nilsl] 1 [(0, (.tmp 199))]), .z 201 (.append 53 5 64 (.tmp 194) (.tmp 200)), .q 202 (.iaddrS 1 (.tmp 189) (.tmp 191)), .s (.store 1 (.tmp 202) (.tmp 201))])) .skip)))))))) (.seq (.reg none [.q 203 (.load 2 true (.tmp 6)), .s (.store 2 (.tmp 4) (.tmp 203)), .q 5 (.mv (.val (.int .i64 0)))]) .ret)))))))))))
def R7 : List LRes := [(.cell 4 2 true), .tmp 5]
theorem low7 : Tryz.f7.body.bind (lowerCode Tryz.prog 204) = some L7 := by kernel_rfl
theorem res7 : lowerRes Tryz.prog Tryz.f7.results.toList = some R7 := by kernel_rfl
set_option maxRecDepth 100000 in
def L8 : LC := (.seq (.reg none [.q 2 (.box (.tmp 0)), .q 4 (.alloc [.nilsl, .nilsl]), .q 5 (.mv (.val (.int .i64 0)))]) (.seq (.reg none [.q 11 (.load 2 true (.tmp 2)), .q 12 (.call 22 [.tmp 11] 0), .q 6 (.alloc [.nilsl, .nilsl]), .s (.store 2 (.tmp 6) (.tmp 12))]) (.seq (.reg none [.q 13 (.addr 0 (.tmp 2)), .q 14 (.load 1 false (.tmp 13)), .q 15 (.mv (.tmp 1)), .q 16 (.bin .sub (.val (.int .i64 1)) (.tmp 15)), .q 17 (.iaddrS 3 (.tmp 14) (.tmp 16)), .q 18 (.addr 1 (.tmp 17)), .q 19 (.load 1 false (.tmp 18)), .q 7 (.mv (.tmp 19))]) (.seq (.seq (.reg none [.q 8 (.mv (.val (.int .i64 0)))]) (.block 0 (.loop (.seq (.seq (.reg none [.q 20 (.mv (.tmp 8)), .q 21 (.mv (.tmp 7)), .q 22 (.len false (.tmp 21)), .q 23 (.bin .lss (.tmp 20) (.tmp 22))]) (.cond (.tmp 23) .skip (.exit 0))) (.seq (.block 1 (.seq (.reg none [.q 26 (.mv (.tmp 7)), .q 27 (.mv (.tmp 8)), .q 28 (.iaddrS 5 (.tmp 26) (.tmp 27)), .q 29 (.addr 0 (.tmp 28)), .q 30 (.addr 0 (.tmp 29)), .q 31 (.load 1 false (.tmp 30)), .q 32 (.mv (.tmp 1)), .q 33 (.bin .neq (.tmp 31) (.tmp 32))]) (.cond (.tmp 33) (.seq (.reg (some [(0, 13), (1, 13), (3, 13), (4, 13), (7, 13), (8, 13), (9, 13)]) [.z 35 (.addr 0 (.tmp 6)), .z 36 (.load 1 false (.tmp 35)), .q 37 (.mv (.tmp 1)), .z 38 (.iaddrS 3 (.tmp 36) (.tmp 37)), .z 39 (.load 3 true (.tmp 38)), .q 40 (.mv (.tmp 7)), .q 41 (.mv (.tmp 8)), .z 42 (.iaddrS 5 (.tmp 40) (.tmp 41)), .z 43 (.load 5 true (.tmp 42)), .z 44 (.call 24 [.tmp 39, .tmp 43] 0), .q 34 (.mv (.tmp 44)), .q 45 (.ext 0 (.tmp 34)), .q 46 (.ext 1 (.tmp 34)), .z 9 (.alloc [.int .i64 0, .nilsl, .nilsl]), .s (.store 3 (.tmp 9) (.tmp 45)), .q 10 (.mv (.tmp 46))]) (.seq (.seq (.reg none [.q 47 (.mv (.tmp 10)), .q 48 (.bin .neq (.tmp 47) (.val (.int .i64 0)))]) (.cond (.tmp 48) (.seq (.reg none [.q 49 (.build [.nilsl, .nilsl] []), .q 50 (.mv (.tmp 10)), .s (.store 2 (.tmp 4) (.tmp 49)), .q 5 (.mv (.tmp 50))]) .ret) .skip)) (.reg none [.q 51 (.addr 0 (.tmp 6)), .q 52 (.load 1 false (.tmp 51)), .q 53 (.mv (.tmp 1)), .q 54 (.load 3 true (.tmp 9)), .q 55 (.iaddrS 3 (.tmp 52) (.tmp 53)), .s (.store 3 (.tmp 55) (.tmp 54))]))) .skip))) (.reg none [.q 24 (.mv (.tmp 8)), .q 25 (.bin .add (.tmp 24) (.val (.int .i64 1))), .q 8 (.mv (.tmp 25))])))))) (.seq (.reg none [.q 56 (.load 2 true (.tmp 6)), .s (.store 2 (.tmp 4) (.tmp 56)), .q 5 (.mv (.val (.int .i64 0)))]) .ret)))))
def R8 : List LRes := [(.cell 4 2 true), .tmp 5]
theorem low8 : Tryz.f8.body.bind (lowerCode Tryz.prog 57) = some L8 := by kernel_rfl
theorem res8 : lowerRes Tryz.prog Tryz.f8.results.toList = some R8 := by kernel_rfl
set_option maxRecDepth 100000 in
def L9 : LC := (.seq (.reg none [.q 0 (.mv (.val (.bool false)))]) (.seq (.reg none [.q 7 (.call 11 [] 0), .q 1 (.alloc [.nilsl, .nilsl]), .s (.store 2 (.tmp 1) (.tmp 7))]) (.seq (.seq (.reg none [.q 2 (.mv (.val (.int .i64 0)))]) (.block 0 (.loop (.seq (.seq (.reg none [.q 8 (.mv (.tmp 2)), .q 9 (.call 26 [] 0), .q 10 (.len false (.tmp 9)), .q 11 (.bin .lss (.tmp 8) (.tmp 10))]) (.cond (.tmp 11) .skip (.exit 0))) (.seq (.block 1 (.seq (.reg (some [(0, 9), (1, 9), (3, 9), (4, 9), (5, 9)]) [.z 15 (.load 2 true (.tmp 1)), .z 16 (.call 26 [] 0), .q 17 (.mv (.tmp 2)), .z 18 (.iaddrS 5 (.tmp 16) (.tmp 17)), .z 19 (.load 5 true (.tmp 18)), .z 20 (.call 4 [.tmp 15, .tmp 19] 0), .q 14 (.mv (.tmp 20)), .q 21 (.ext 0 (.tmp 14)), .q 22 (.ext 1 (.tmp 14)), .z 3 (.alloc [.nilsl, .nilsl]), .s (.store 2 (.tmp 3) (.tmp 21)), .q 4 (.mv (.tmp 22))]) (.seq (.seq (.reg none [.q 23 (.mv (.tmp 4)), .q 24 (.bin .neq (.tmp 23) (.val (.int .i64 0)))]) (.cond (.tmp 24) (.seq (.reg none [.q 0 (.mv (.val (.bool false)))]) .ret) .skip)) (.reg none [.q 25 (.load 2 true (.tmp 3)), .s (.store 2 (.tmp 1) (.tmp 25))])))) (.reg none [.q 12 (.mv (.tmp 2)), .q 13 (.bin .add (.tmp 12) (.val (.int .i64 1))), .q 2 (.mv (.tmp 13))])))))) (.seq (.reg none [.q 27 (.load 2 true (.tmp 1)), .q 28 (.call 5 [.tmp 27] 0), .q 26 (.mv (.tmp 28)), .q 29 (.ext 0 (.tmp 26)), .q 30 (.ext 1 (.tmp 26)), .q 5 (.alloc [.nilsl, .nilsl]), .s (.store 2 (.tmp 5) (.tmp 29)), .q 6 (.mv (.tmp 30))]) (.seq (.reg none [.q 31 (.mv (.tmp 6)), .q 32 (.bin .eql (.tmp 31) (.val (.int .i64 0))), .q 33 (.mv (.tmp 32)), .g 34 (.load 2 true (.tmp 1)) 33 true, .g 35 (.call 13 [.tmp 34] 0) 33 true, .g 36 (.bin .eql (.tmp 35) (.val (.int .i64 0))) 33 true, .q 37 (.pick (.tmp 33) (.tmp 36) (.val (.bool false))), .q 38 (.mv (.tmp 37)), .g 39 (.addr 0 (.tmp 1)) 38 true, .g 40 (.load 1 false (.tmp 39)) 38 true, .g 41 (.len false (.tmp 40)) 38 true, .g 42 (.bin .eql (.tmp 41) (.val (.int .i64 2))) 38 true, .q 43 (.pick (.tmp 38) (.tmp 42) (.val (.bool false))), .q 44 (.mv (.tmp 43)), .g 45 (.addr 0 (.tmp 5)) 44 true, .g 46 (.load 1 false (.tmp 45)) 44 true, .g 47 (.len false (.tmp 46)) 44 true, .g 48 (.bin .eql (.tmp 47) (.val (.int .i64 2))) 44 true, .q 49 (.pick (.tmp 44) (.tmp 48) (.val (.bool false))), .q 50 (.mv (.tmp 49)), .g 51 (.addr 0 (.tmp 1)) 50 true, .g 52 (.load 1 false (.tmp 51)) 50 true, .g 53 (.iaddrS 3 (.tmp 52) (.val (.int .i64 0))) 50 true, .g 54 (.addr 1 (.tmp 53)) 50 true, .g 55 (.load 1 false (.tmp 54)) 50 true, .g 56 (.len false (.tmp 55)) 50 true, .g 57 (.bin .eql (.tmp 56) (.val (.int .i64 1))) 50 true, .q 58 (.pick (.tmp 50) (.tmp 57) (.val (.bool false))), .q 59 (.mv (.tmp 58)), .g 60 (.addr 0 (.tmp 1)) 59 true, .g 61 (.load 1 false (.tmp 60)) 59 true, .g 62 (.iaddrS 3 (.tmp 61) (.val (.int .i64 0))) 59 true, .g 63 (.addr 2 (.tmp 62)) 59 true, .g 64 (.load 1 false (.tmp 63)) 59 true, .g 65 (.len false (.tmp 64)) 59 true, .g 66 (.bin .eql (.tmp 65) (.val (.int .i64 1))) 59 true, .q 67 (.pick (.tmp 59) (.tmp 66) (.val (.bool false))), .q 68 (.mv (.tmp 67)), .g 69 (.addr 0 (.tmp 5)) 68 true, .g 70 (.load 1 false (.tmp 69)) 68 true, .g 71 (.iaddrS 3 (.tmp 70) (.val (.int .i64 0))) 68 true, .g 72 (.addr 1 (.tmp 71)) 68 true, .g 73 (.load 1 false (.tmp 72)) 68 true, .g 74 (.len false (.tmp 73)) 68 true, .g 75 (.bin .eql (.tmp 74) (.val (.int .i64 3))) 68 true, .q 76 (.pick (.tmp 68) (.tmp 75) (.val (.bool false))), .q 77 (.mv (.tmp 76)), .g 78 (.addr 0 (.tmp 5)) 77 true, .g 79 (.load 1 false (.tmp 78)) 77 true, .g 80 (.iaddrS 3 (.tmp 79) (.val (.int .i64 1))) 77 true, .g 81 (.addr 1 (.tmp 80)) 77 true, .g 82 (.load 1 false (.tmp 81)) 77 true, .g 83 (.len false (.tmp 82)) 77 true, .g 84 (.bin .eql (.tmp 83) (.val (.int .i64 3))) 77 true, .q 85 (.pick (.tmp 77) (.tmp 84) (.val (.bool false))), .q 0 (.mv (.tmp 85))]) .ret)))))
def R9 : List LRes := [.tmp 0]
theorem low9 : Tryz.f9.body.bind (lowerCode Tryz.prog 86) = some L9 := by kernel_rfl
theorem res9 : lowerRes Tryz.prog Tryz.f9.results.toList = some R9 := by kernel_rfl
set_option maxRecDepth 100000 in
def L10 : LC := (.seq (.reg none [.q 2 (.box (.tmp 0)), .q 3 (.box (.tmp 1)), .q 4 (.mv (.val (.bool false)))]) (.seq (.seq (.reg none [.q 7 (.addr 0 (.tmp 2)), .q 8 (.load 1 false (.tmp 7)), .q 9 (.len false (.tmp 8)), .q 10 (.addr 0 (.tmp 3)), .q 11 (.load 1 false (.tmp 10)), .q 12 (.len false (.tmp 11)), .q 13 (.bin .neq (.tmp 9) (.tmp 12)), .q 14 (.mv (.tmp 13)), .g 15 (.addr 1 (.tmp 2)) 14 false, .g 16 (.load 1 false (.tmp 15)) 14 false, .g 17 (.len false (.tmp 16)) 14 false, .g 18 (.addr 1 (.tmp 3)) 14 false, .g 19 (.load 1 false (.tmp 18)) 14 false, .g 20 (.len false (.tmp 19)) 14 false, .g 21 (.bin .neq (.tmp 17) (.tmp 20)) 14 false, .q 22 (.pick (.tmp 14) (.val (.bool true)) (.tmp 21))]) (.cond (.tmp 22) (.seq (.reg none [.q 4 (.mv (.val (.bool false)))]) .ret) .skip)) (.seq (.seq (.reg none [.q 5 (.mv (.val (.int .i64 0)))]) (.block 0 (.loop (.seq (.seq (.reg none [.q 23 (.mv (.tmp 5)), .q 24 (.addr 0 (.tmp 2)), .q 25 (.load 1 false (.tmp 24)), .q 26 (.len false (.tmp 25)), .q 27 (.bin .lss (.tmp 23) (.tmp 26))]) (.cond (.tmp 27) .skip (.exit 0))) (.seq (.block 1 (.seq (.reg (some []) [.z 30 (.addr 0 (.tmp 2)), .z 31 (.load 1 false (.tmp 30)), .q 32 (.mv (.tmp 5)), .z 33 (.iaddrS 3 (.tmp 31) (.tmp 32)), .z 34 (.load 3 true (.tmp 33)), .z 35 (.addr 0 (.tmp 3)), .z 36 (.load 1 false (.tmp 35)), .q 37 (.mv (.tmp 5)), .z 38 (.iaddrS 3 (.tmp 36) (.tmp 37)), .z 39 (.load 3 true (.tmp 38)), .q 40 (.call 27 [.tmp 34, .tmp 39] 0), .q 41 (.not (.tmp 40))]) (.cond (.tmp 41) (.seq (.reg none [.q 4 (.mv (.val (.bool false)))]) .ret) .skip))) (.reg none [.q 28 (.mv (.tmp 5)), .q 29 (.bin .add (.tmp 28) (.val (.int .i64 1))), .q 5 (.mv (.tmp 29))])))))) (.seq (.seq (.reg none [.q 6 (.mv (.val (.int .i64 0)))]) (.block 2 (.loop (.seq (.seq (.reg none [.q 42 (.mv (.tmp 6)), .q 43 (.addr 1 (.tmp 2)), .q 44 (.load 1 false (.tmp 43)), .q 45 (.len false (.tmp 44)), .q 46 (.bin .lss (.tmp 42) (.tmp 45))]) (.cond (.tmp 46) .skip (.exit 2))) (.seq (.block 3 (.seq (.reg (some []) [.z 49 (.addr 1 (.tmp 2)), .z 50 (.load 1 false (.tmp 49)), .q 51 (.mv (.tmp 6)), .z 52 (.iaddrS 1 (.tmp 50) (.tmp 51)), .z 53 (.load 1 false (.tmp 52)), .z 54 (.addr 1 (.tmp 3)), .z 55 (.load 1 false (.tmp 54)), .q 56 (.mv (.tmp 6)), .z 57 (.iaddrS 1 (.tmp 55) (.tmp 56)), .z 58 (.load 1 false (.tmp 57)), .q 59 (.call 28 [.tmp 53, .tmp 58] 0), .q 60 (.not (.tmp 59))]) (.cond (.tmp 60) (.seq (.reg none [.q 4 (.mv (.val (.bool false)))]) .ret) .skip))) (.reg none [.q 47 (.mv (.tmp 6)), .q 48 (.bin .add (.tmp 47) (.val (.int .i64 1))), .q 6 (.mv (.tmp 48))])))))) (.seq (.reg none [.q 4 (.mv (.val (.bool true)))]) .ret)))))
def R10 : List LRes := [.tmp 4]
theorem low10 : Tryz.f10.body.bind (lowerCode Tryz.prog 61) = some L10 := by kernel_rfl
theorem res10 : lowerRes Tryz.prog Tryz.f10.results.toList = some R10 := by kernel_rfl
set_option maxRecDepth 100000 in
def L11 : LC := (.seq (.reg none [.q 0 (.alloc [.nilsl, .nilsl])]) (.seq (.reg none [.q 1 (.build [.int .i64 0, .nilsl, .nilsl] []), .q 2 (.build [.int .i64 0, .nilsl, .nilsl] [(0, (1, (.val (.int .i64 1))))]), .q 3 (.mks 3 [.int .i64 0, .nilsl, .nilsl] 2 [(0, (.tmp 1)), (1, (.tmp 2))]), .q 4 (.mkn 45 1 24 [.nilsl] (.val (.int .i64 2)) (.val (.int .i64 2))), .q 5 (.build [.nilsl, .nilsl] [(0, (1, (.tmp 3))), (1, (1, (.tmp 4)))]), .s (.store 2 (.tmp 0) (.tmp 5))]) .ret))
def R11 : List LRes := [(.cell 0 2 true)]
theorem low11 : Tryz.f11.body.bind (lowerCode Tryz.prog 6) = some L11 := by kernel_rfl
theorem res11 : lowerRes Tryz.prog Tryz.f11.results.toList = some R11 := by kernel_rfl
set_option maxRecDepth 100000 in
def L12 : LC := (.seq (.reg none [.q 0 (.alloc [.nilsl, .nilsl])]) (.seq (.reg none [.q 1 (.build [.int .i64 0, .nilsl, .nilsl] []), .q 2 (.build [.int .i64 0, .nilsl, .nilsl] [(0, (1, (.val (.int .i64 1))))]), .q 3 (.mks 3 [.int .i64 0, .nilsl, .nilsl] 2 [(0, (.tmp 1)), (1, (.tmp 2))]), .q 4 (.mks 1 [.nilsl] 2 [(0, (.val .nilsl)), (1, (.val .nilsl))]), .q 5 (.build [.nilsl, .nilsl] [(0, (1, (.tmp 3))), (1, (1, (.tmp 4)))]), .s (.store 2 (.tmp 0) (.tmp 5))]) .ret))
def R12 : List LRes := [(.cell 0 2 true)]
theorem low12 : Tryz.f12.body.bind (lowerCode Tryz.prog 6) = some L12 := by kernel_rfl
theorem res12 : lowerRes Tryz.prog Tryz.f12.results.toList = some R12 := by kernel_rfl
set_option maxRecDepth 100000 in
def L13 : LC := (.seq (.reg none [.q 1 (.box (.tmp 0)), .q 2 (.mv (.val (.int .i64 0)))]) (.seq (.seq (.reg none [.q 12 (.addr 0 (.tmp 1)), .q 13 (.load 1 false (.tmp 12)), .q 14 (.len false (.tmp 13)), .q 15 (.bin .neq (.tmp 14) (.val (.int .i64 2))), .q 16 (.mv (.tmp 15)), .g 17 (.addr 1 (.tmp 1)) 16 false, .g 18 (.load 1 false (.tmp 17)) 16 false, .g 19 (.len false (.tmp 18)) 16 false, .g 20 (.bin .neq (.tmp 19) (.val (.int .i64 2))) 16 false, .q 21 (.pick (.tmp 16) (.val (.bool true)) (.tmp 20))]) (.cond (.tmp 21) (.seq (.reg none [.q 2 (.mv (.val (.int .i64 1)))]) .ret) .skip)) (.seq (.seq (.reg none [.q 22 (.addr 0 (.tmp 1)), .q 23 (.load 1 false (.tmp 22)), .q 24 (.len false (.tmp 23)), .q 25 (.mv (.val (.int .i64 0)))]) (.block 0 (.loop (.seq (.reg none [.q 26 (.bin .lss (.tmp 25) (.tmp 24))]) (.seq (.cond (.tmp 26) .skip (.exit 0)) (.seq (.block 1 (.seq (.reg none [.q 27 (.mv (.tmp 25)), .q 28 (.iaddrS 3 (.tmp 23) (.tmp 25)), .q 29 (.load 3 true (.tmp 28)), .q 4 (.alloc [.int .i64 0, .nilsl, .nilsl]), .q 3 (.mv (.tmp 27)), .s (.store 3 (.tmp 4) (.tmp 29))]) (.seq (.seq (.reg none [.q 30 (.load 3 true (.tmp 4)), .q 31 (.call 29 [.tmp 30] 0), .q 5 (.mv (.tmp 31))]) (.seq (.reg none [.q 32 (.mv (.tmp 5)), .q 33 (.bin .neq (.tmp 32) (.val (.int .i64 0)))]) (.cond (.tmp 33) (.seq (.reg none [.q 34 (.mv (.tmp 5)), .q 2 (.mv (.tmp 34))]) .ret) .skip))) (.seq (.reg none [.q 35 (.addr 0 (.tmp 4)), .q 36 (.load 1 false (.tmp 35)), .q 37 (.mv (.tmp 3)), .q 38 (.bin .neq (.tmp 36) (.tmp 37))]) (.cond (.tmp 38) (.seq (.reg none [.q 2 (.mv (.val (.int .i64 4)))]) .ret) .skip))))) (.reg none [.q 39 (.bin .add (.tmp 25) (.val (.int .i64 1))), .q 25 (.mv (.tmp 39))]))))))) (.seq (.seq (.reg none [.q 40 (.addr 1 (.tmp 1)), .q 41 (.load 1 false (.tmp 40)), .q 42 (.len false (.tmp 41)), .q 43 (.mv (.val (.int .i64 0)))]) (.block 2 (.loop (.seq (.reg none [.q 44 (.bin .lss (.tmp 43) (.tmp 42))]) (.seq (.cond (.tmp 44) .skip (.exit 2)) (.seq (.block 3 (.seq (.reg none [.q 45 (.iaddrS 1 (.tmp 41) (.tmp 43)), .q 46 (.load 1 false (.tmp 45)), .q 7 (.mv (.tmp 46))]) (.seq (.reg none [.q 47 (.load 2 true (.tmp 1)), .q 48 (.mv (.tmp 7)), .q 49 (.call 30 [.tmp 47, .tmp 48] 0), .q 8 (.mv (.tmp 49))]) (.seq (.reg none [.q 50 (.mv (.tmp 8)), .q 51 (.bin .neq (.tmp 50) (.val (.int .i64 0)))]) (.cond (.tmp 51) (.seq (.reg none [.q 52 (.mv (.tmp 8)), .q 2 (.mv (.tmp 52))]) .ret) .skip))))) (.reg none [.q 53 (.bin .add (.tmp 43) (.val (.int .i64 1))), .q 43 (.mv (.tmp 53))]))))))) (.seq (.reg none [.q 54 (.clo 31 [.tmp 1]), .q 9 (.mv (.tmp 54))]) (.seq (.seq (.reg none [.q 55 (.addr 0 (.tmp 1)), .q 56 (.load 1 false (.tmp 55)), .q 57 (.len false (.tmp 56)), .q 58 (.mv (.val (.int .i64 0)))]) (.block 4 (.loop (.seq (.reg none [.q 59 (.bin .lss (.tmp 58) (.tmp 57))]) (.seq (.cond (.tmp 59) .skip (.exit 4)) (.seq (.block 5 (.seq (.reg none [.q 60 (.iaddrS 3 (.tmp 56) (.tmp 58)), .q 61 (.load 3 true (.tmp 60)), .q 11 (.alloc [.int .i64 0, .nilsl, .nilsl]), .s (.store 3 (.tmp 11) (.tmp 61))]) (.seq (.reg none [.q 62 (.addr 1 (.tmp 11)), .q 63 (.load 1 false (.tmp 62)), .q 64 (.mv (.tmp 9)), .q 65 (.call 33 [.tmp 63, .tmp 64] 0), .q 66 (.mv (.tmp 65)), .g 67 (.addr 2 (.tmp 11)) 66 false, .g 68 (.load 1 false (.tmp 67)) 66 false, .g 69 (.mv (.tmp 9)) 66 false, .g 70 (.call 33 [.tmp 68, .tmp 69] 0) 66 false, .q 71 (.pick (.tmp 66) (.val (.bool true)) (.tmp 70))]) (.cond (.tmp 71) (.seq (.reg none [.q 2 (.mv (.val (.int .i64 4)))]) .ret) .skip)))) (.reg none [.q 72 (.bin .add (.tmp 58) (.val (.int .i64 1))), .q 58 (.mv (.tmp 72))]))))))) (.seq (.reg none [.q 2 (.mv (.val (.int .i64 0)))]) .ret)))))))
def R13 : List LRes := [.tmp 2]
theorem low13 : Tryz.f13.body.bind (lowerCode Tryz.prog 73) = some L13 := by kernel_rfl
theorem res13 : lowerRes Tryz.prog Tryz.f13.results.toList = some R13 := by kernel_rfl
set_option maxRecDepth 100000 in
def L14 : LC := (.seq (.reg none [.q 4 (.box (.tmp 0)), .q 7 (.box (.tmp 3)), .q 8 (.mv (.val (.bool false)))]) (.seq (.seq (.reg none [.q 9 (.mv (.tmp 2)), .q 10 (.bin .neq (.tmp 9) (.val (.int .i64 0)))]) (.cond (.tmp 10) (.reg none [.q 11 (.build [.nilsl, .nilsl] []), .s (.store 2 (.tmp 7) (.tmp 11))]) .skip)) (.seq (.reg none [.q 12 (.mv (.tmp 1)), .q 13 (.mv (.tmp 2)), .q 14 (.bin .eql (.tmp 12) (.tmp 13)), .q 15 (.mv (.tmp 14)), .g 16 (.load 2 true (.tmp 4)) 15 true, .g 17 (.load 2 true (.tmp 7)) 15 true, .g 18 (.call 10 [.tmp 16, .tmp 17] 0) 15 true, .q 19 (.pick (.tmp 15) (.tmp 18) (.val (.bool false))), .q 8 (.mv (.tmp 19))]) .ret)))
def R14 : List LRes := [.tmp 8]
theorem low14 : Tryz.f14.body.bind (lowerCode Tryz.prog 20) = some L14 := by kernel_rfl
theorem res14 : lowerRes Tryz.prog Tryz.f14.results.toList = some R14 := by kernel_rfl
set_option maxRecDepth 100000 in
def L15 : LC := (.seq (.reg none [.q 2 (.box (.tmp 0)), .q 3 (.box (.tmp 1)), .q 4 (.alloc [.nilsl, .nilsl]), .q 5 (.mv (.val (.int .i64 0)))]) (.seq (.reg none [.q 8 (.load 2 true (.tmp 2)), .q 9 (.call 16 [.tmp 8] 0), .q 6 (.mv (.tmp 9))]) (.seq (.reg none [.q 7 (.mv (.val (.int .i64 0)))]) (.seq (.block 0 (.seq (.reg none [.q 14 (.addr 0 (.tmp 3)), .q 15 (.load 1 false (.tmp 14)), .q 16 (.bin .lss (.tmp 15) (.val (.int .i64 1))), .q 17 (.mv (.tmp 16)), .g 18 (.addr 0 (.tmp 3)) 17 false, .g 19 (.load 1 false (.tmp 18)) 17 false, .g 20 (.bin .gtr (.tmp 19) (.val (.int .i64 5))) 17 false, .q 21 (.pick (.tmp 17) (.val (.bool true)) (.tmp 20)), .q 13 (.mv (.tmp 21))]) (.cond (.tmp 13) (.reg none [.q 7 (.mv (.val (.int .i64 7)))]) (.seq (.reg none [.q 23 (.load 5 true (.tmp 3)), .q 24 (.call 34 [.tmp 23] 0), .q 22 (.mv (.tmp 24))]) (.cond (.tmp 22) (.reg none [.q 7 (.mv (.val (.int .i64 1)))]) (.seq (.reg none [.q 26 (.addr 1 (.tmp 3)), .q 27 (.load 1 false (.tmp 26)), .q 28 (.bin .neq (.tmp 27) (.val (.int .i64 0))), .q 29 (.mv (.tmp 28)), .g 30 (.addr 1 (.tmp 3)) 29 true, .g 31 (.load 1 false (.tmp 30)) 29 true, .g 32 (.bin .neq (.tmp 31) (.val (.int .i64 1))) 29 true, .q 33 (.pick (.tmp 29) (.tmp 32) (.val (.bool false))), .q 25 (.mv (.tmp 33))]) (.cond (.tmp 25) (.reg none [.q 7 (.mv (.val (.int .i64 3)))]) (.reg none [.q 10 (.mv (.tmp 6)), .q 11 (.load 5 true (.tmp 3)), .q 12 (.call 35 [.tmp 10, .tmp 11] 0), .q 7 (.mv (.tmp 12))])))))))) (.seq (.seq (.reg none [.q 34 (.mv (.tmp 7)), .q 35 (.bin .neq (.tmp 34) (.val (.int .i64 0)))]) (.cond (.tmp 35) (.seq (.reg none [.q 36 (.build [.nilsl, .nilsl] []), .q 37 (.mv (.tmp 7)), .s (.store 2 (.tmp 4) (.tmp 36)), .q 5 (.mv (.tmp 37))]) .ret) .skip)) (.seq (.reg none [.q 38 (.mv (.tmp 6)), .q 39 (.nilchk (.tmp 38)), .q 40 (.addr 0 (.tmp 39)), .q 41 (.load 2 true (.tmp 40)), .s (.store 2 (.tmp 4) (.tmp 41)), .q 5 (.mv (.val (.int .i64 0)))]) .ret))))))
def R15 : List LRes := [(.cell 4 2 true), .tmp 5]
theorem low15 : Tryz.f15.body.bind (lowerCode Tryz.prog 42) = some L15 := by kernel_rfl
theorem res15 : lowerRes Tryz.prog Tryz.f15.results.toList = some R15 := by kernel_rfl
set_option maxRecDepth 100000 in
def L16 : LC := (.seq (.reg none [.q 1 (.box (.tmp 0)), .q 2 (.mv (.val .nilp))]) (.seq (.reg none [.q 11 (.build [.nilsl, .nilsl] []), .q 12 (.box (.tmp 11)), .q 3 (.mv (.tmp 12))]) (.seq (.seq (.reg none [.q 13 (.addr 0 (.tmp 1)), .q 14 (.load 1 false (.tmp 13)), .q 15 (.len false (.tmp 14)), .q 16 (.mv (.val (.int .i64 0)))]) (.block 0 (.loop (.seq (.reg none [.q 17 (.bin .lss (.tmp 16) (.tmp 15))]) (.seq (.cond (.tmp 17) .skip (.exit 0)) (.seq (.block 1 (.seq (.reg none [.q 18 (.iaddrS 3 (.tmp 14) (.tmp 16)), .q 19 (.load 3 true (.tmp 18)), .q 5 (.alloc [.int .i64 0, .nilsl, .nilsl]), .s (.store 3 (.tmp 5) (.tmp 19))]) (.reg (some []) [.q 20 (.mv (.tmp 3)), .q 21 (.mv (.tmp 3)), .z 22 (.nilchk (.tmp 21)), .z 23 (.addr 0 (.tmp 22)), .z 24 (.addr 0 (.tmp 23)), .z 25 (.load 1 false (.tmp 24)), .z 26 (.load 3 true (.tmp 5)), .z 27 (.call 36 [.tmp 26] 0), .q 28 (.mks 3 [.int .i64 0, .nilsl, .nilsl] 1 [(0, (.tmp 27))]), .q 29 (.append 47 3 56 (.tmp 25) (.tmp 28)), .q 30 (.nilchk (.tmp 20)), .q 31 (.addr 0 (.tmp 30)), .q 32 (.addr 0 (.tmp 31)), .s (.store 1 (.tmp 32) (.tmp 29))]))) (.reg none [.q 33 (.bin .add (.tmp 16) (.val (.int .i64 1))), .q 16 (.mv (.tmp 33))]))))))) (.seq (.seq (.reg none [.q 34 (.addr 1 (.tmp 1)), .q 35 (.load 1 false (.tmp 34)), .q 36 (.len false (.tmp 35)), .q 37 (.mv (.val (.int .i64 0)))]) (.block 2 (.loop (.seq (.reg none [.q 38 (.bin .lss (.tmp 37) (.tmp 36))]) (.seq (.cond (.tmp 38) .skip (.exit 2)) (.seq (.block 3 (.seq (.reg none [.q 39 (.iaddrS 1 (.tmp 35) (.tmp 37)), .q 40 (.load 1 false (.tmp 39)), .q 7 (.mv (.tmp 40))]) (.seq (.reg none [.q 8 (.mv (.val .nilsl))]) (.seq (.seq (.reg none [.q 41 (.mv (.tmp 7)), .q 42 (.len false (.tmp 41)), .q 43 (.mv (.val (.int .i64 0)))]) (.block 4 (.loop (.seq (.reg none [.q 44 (.bin .lss (.tmp 43) (.tmp 42))]) (.seq (.cond (.tmp 44) .skip (.exit 4)) (.seq (.block 5 (.seq (.reg none [.q 45 (.iaddrS 5 (.tmp 41) (.tmp 43)), .q 46 (.load 5 true (.tmp 45)), .q 10 (.alloc [.int .i64 0, .int .i64 0, .int .i64 0, .str ⟨#[]⟩, .nilsl]), .s (.store 5 (.tmp 10) (.tmp 46))]) (.reg none [.q 47 (.mv (.tmp 8)), .q 48 (.load 5 true (.tmp 10)), .q 49 (.call 37 [.tmp 48] 0), .q 50 (.mks 5 [.int .i64 0, .int .i64 0, .int .i64 0, .str ⟨#[]⟩, .nilsl] 1 [(0, (.tmp 49))]), .q 51 (.append 53 5 64 (.tmp 47) (.tmp 50)), .q 8 (.mv (.tmp 51))]))) (.reg none [.q 52 (.bin .add (.tmp 43) (.val (.int .i64 1))), .q 43 (.mv (.tmp 52))]))))))) (.reg none [.q 53 (.mv (.tmp 3)), .q 54 (.mv (.tmp 3)), .q 55 (.nilchk (.tmp 54)), .q 56 (.addr 0 (.tmp 55)), .q 57 (.addr 1 (.tmp 56)), .q 58 (.load 1 false (.tmp 57)), .q 59 (.mv (.tmp 8)), .q 60 (.mks 1 [.nilsl] 1 [(0, (.tmp 59))]), .q 61 (.append 45 1 24 (.tmp 58) (.tmp 60)), .q 62 (.nilchk (.tmp 53)), .q 63 (.addr 0 (.tmp 62)), .q 64 (.addr 1 (.tmp 63)), .s (.store 1 (.tmp 64) (.tmp 61))]))))) (.reg none [.q 65 (.bin .add (.tmp 37) (.val (.int .i64 1))), .q 37 (.mv (.tmp 65))]))))))) (.seq (.reg none [.q 66 (.mv (.tmp 3)), .q 2 (.mv (.tmp 66))]) .ret)))))
def R16 : List LRes := [.tmp 2]
theorem low16 : Tryz.f16.body.bind (lowerCode Tryz.prog 67) = some L16 := by kernel_rfl
theorem res16 : lowerRes Tryz.prog Tryz.f16.results.toList = some R16 := by kernel_rfl
set_option maxRecDepth 100000 in
def L17 : LC := (.seq (.reg none [.q 4 (.mv (.val (.int .i64 0)))]) (.seq (.seq (.reg none [.q 8 (.mv (.tmp 0)), .q 9 (.nilchk (.tmp 8)), .q 10 (.addr 0 (.tmp 9)), .q 11 (.addr 0 (.tmp 10)), .q 12 (.load 1 false (.tmp 11)), .q 13 (.mv (.tmp 1)), .q 14 (.bin .sub (.val (.int .i64 1)) (.tmp 13)), .q 15 (.iaddrS 3 (.tmp 12) (.tmp 14)), .q 16 (.addr 1 (.tmp 15)), .q 17 (.load 1 false (.tmp 16)), .q 18 (.len false (.tmp 17)), .q 19 (.mv (.val (.int .i64 0)))]) (.block 0 (.loop (.seq (.reg none [.q 20 (.bin .lss (.tmp 19) (.tmp 18))]) (.seq (.cond (.tmp 20) .skip (.exit 0)) (.seq (.block 1 (.seq (.reg none [.q 21 (.iaddrS 5 (.tmp 17) (.tmp 19)), .q 22 (.load 5 true (.tmp 21)), .q 6 (.alloc [.int .i64 0, .int .i64 0, .int .i64 0, .str ⟨#[]⟩, .nilsl]), .s (.store 5 (.tmp 6) (.tmp 22))]) (.seq (.seq (.reg none [.q 23 (.addr 0 (.tmp 6)), .q 24 (.addr 0 (.tmp 23)), .q 25 (.load 1 false (.tmp 24)), .q 26 (.mv (.tmp 1)), .q 27 (.bin .eql (.tmp 25) (.tmp 26))]) (.cond (.tmp 27) (.exit 1) .skip)) (.seq (.reg none [.q 28 (.mv (.tmp 0)), .q 29 (.mv (.tmp 1)), .q 30 (.load 5 true (.tmp 6)), .q 31 (.call 38 [.tmp 28, .tmp 29, .tmp 30] 0), .q 7 (.mv (.tmp 31))]) (.seq (.reg none [.q 32 (.mv (.tmp 7)), .q 33 (.bin .neq (.tmp 32) (.val (.int .i64 0)))]) (.cond (.tmp 33) (.seq (.reg none [.q 34 (.mv (.tmp 7)), .q 4 (.mv (.tmp 34))]) .ret) .skip)))))) (.reg none [.q 35 (.bin .add (.tmp 19) (.val (.int .i64 1))), .q 19 (.mv (.tmp 35))]))))))) (.seq (.reg none [.q 4 (.mv (.val (.int .i64 0)))]) .ret)))
def R17 : List LRes := [.tmp 4]
theorem low17 : Tryz.f17.body.bind (lowerCode Tryz.prog 36) = some L17 := by kernel_rfl
theorem res17 : lowerRes Tryz.prog Tryz.f17.results.toList = some R17 := by kernel_rfl
set_option maxRecDepth 100000 in
def L18 : LC := (.seq (.reg none [.q 1 (.box (.tmp 0)), .q 2 (.mv (.val (.int .i64 0)))]) (.seq (.seq (.reg none [.q 7 (.addr 0 (.tmp 1)), .q 8 (.load 1 false (.tmp 7)), .q 9 (.call 21 [.tmp 8, .val (.int .i64 0), .val (.int .i64 1)] 0), .q 10 (.not (.tmp 9))]) (.cond (.tmp 10) (.seq (.reg none [.q 2 (.mv (.val (.int .i64 3)))]) .ret) .skip)) (.seq (.reg none [.q 11 (.addr 1 (.tmp 1)), .q 12 (.load 1 false (.tmp 11)), .q 13 (.call 39 [.tmp 12] 0), .q 3 (.mv (.tmp 13))]) (.seq (.seq (.reg none [.q 14 (.mv (.tmp 3)), .q 15 (.bin .neq (.tmp 14) (.val (.int .i64 0)))]) (.cond (.tmp 15) (.seq (.reg none [.q 16 (.mv (.tmp 3)), .q 2 (.mv (.tmp 16))]) .ret) .skip)) (.seq (.seq (.reg none [.q 17 (.addr 2 (.tmp 1)), .q 18 (.load 1 false (.tmp 17)), .q 19 (.len false (.tmp 18)), .q 20 (.bin .gtr (.tmp 19) (.val (.int .i64 20)))]) (.cond (.tmp 20) (.seq (.reg none [.q 2 (.mv (.val (.int .i64 2)))]) .ret) .skip)) (.seq (.seq (.reg none [.q 4 (.mv (.val (.int .i64 0)))]) (.block 0 (.loop (.seq (.seq (.reg none [.q 21 (.mv (.tmp 4)), .q 22 (.addr 2 (.tmp 1)), .q 23 (.load 1 false (.tmp 22)), .q 24 (.len false (.tmp 23)), .q 25 (.bin .lss (.tmp 21) (.tmp 24))]) (.cond (.tmp 25) .skip (.exit 0))) (.seq (.block 1 (.seq (.reg none [.q 28 (.addr 2 (.tmp 1)), .q 29 (.load 1 false (.tmp 28)), .q 30 (.mv (.tmp 4)), .q 31 (.iaddrS 5 (.tmp 29) (.tmp 30)), .q 32 (.load 5 true (.tmp 31)), .q 5 (.alloc [.int .i64 0, .int .i64 0, .int .i64 0, .str ⟨#[]⟩, .nilsl]), .s (.store 5 (.tmp 5) (.tmp 32))]) (.seq (.reg none [.q 33 (.load 5 true (.tmp 5)), .q 34 (.call 19 [.tmp 33] 0), .q 6 (.mv (.tmp 34))]) (.seq (.seq (.reg none [.q 35 (.mv (.tmp 6)), .q 36 (.bin .neq (.tmp 35) (.val (.int .i64 0)))]) (.cond (.tmp 36) (.seq (.reg none [.q 37 (.mv (.tmp 6)), .q 2 (.mv (.tmp 37))]) .ret) .skip)) (.seq (.reg (some []) [.q 38 (.mv (.tmp 4)), .q 39 (.bin .gtr (.tmp 38) (.val (.int .i64 0))), .q 40 (.mv (.tmp 39)), .y 41 (.addr 2 (.tmp 1)) 40 true, .y 42 (.load 1 false (.tmp 41)) 40 true, .g 43 (.mv (.tmp 4)) 40 true, .g 44 (.bin .sub (.tmp 43) (.val (.int .i64 1))) 40 true, .y 45 (.iaddrS 5 (.tmp 42) (.tmp 44)) 40 true, .y 46 (.addr 0 (.tmp 45)) 40 true, .y 47 (.load 2 true (.tmp 46)) 40 true, .y 48 (.addr 0 (.tmp 5)) 40 true, .y 49 (.load 2 true (.tmp 48)) 40 true, .g 50 (.call 40 [.tmp 47, .tmp 49] 0) 40 true, .g 51 (.not (.tmp 50)) 40 true, .q 52 (.pick (.tmp 40) (.tmp 51) (.val (.bool false))), .q 53 (.mv (.tmp 52)), .y 54 (.addr 0 (.tmp 5)) 53 false, .y 55 (.addr 0 (.tmp 54)) 53 false, .y 56 (.load 1 false (.tmp 55)) 53 false, .y 57 (.addr 0 (.tmp 1)) 53 false, .y 58 (.load 1 false (.tmp 57)) 53 false, .g 59 (.bin .eql (.tmp 56) (.tmp 58)) 53 false, .q 60 (.pick (.tmp 53) (.val (.bool true)) (.tmp 59)), .q 61 (.mv (.tmp 60)), .y 62 (.addr 1 (.tmp 1)) 61 false, .y 63 (.load 1 false (.tmp 62)) 61 false, .y 64 (.addr 0 (.tmp 5)) 61 false, .y 65 (.load 2 true (.tmp 64)) 61 false, .g 66 (.call 41 [.tmp 63, .tmp 65] 0) 61 false, .g 67 (.bin .geq (.tmp 66) (.val (.int .i64 0))) 61 false, .q 68 (.pick (.tmp 61) (.val (.bool true)) (.tmp 67)), .q 69 (.mv (.tmp 68)), .y 70 (.addr 1 (.tmp 1)) 69 false, .y 71 (.load 1 false (.tmp 70)) 69 false, .y 72 (.load 5 true (.tmp 5)) 69 false, .g 73 (.call 42 [.tmp 71, .tmp 72] 0) 69 false, .q 74 (.pick (.tmp 69) (.val (.bool true)) (.tmp 73))]) (.cond (.tmp 74) (.seq (.reg none [.q 2 (.mv (.val (.int .i64 4)))]) .ret) .skip)))))) (.reg none [.q 26 (.mv (.tmp 4)), .q 27 (.bin .add (.tmp 26) (.val (.int .i64 1))), .q 4 (.mv (.tmp 27))])))))) (.seq (.reg none [.q 2 (.mv (.val (.int .i64 0)))]) .ret)))))))
def R18 : List LRes := [.tmp 2]
theorem low18 : Tryz.f18.body.bind (lowerCode Tryz.prog 75) = some L18 := by kernel_rfl
theorem res18 : lowerRes Tryz.prog Tryz.f18.results.toList = some R18 := by kernel_rfl
set_option maxRecDepth 100000 in
def L19 : LC := (.seq (.reg none [.q 1 (.box (.tmp 0)), .q 2 (.mv (.val (.int .i64 0)))]) (.seq (.seq (.reg none [.q 4 (.addr 0 (.tmp 1)), .q 5 (.load 2 true (.tmp 4)), .q 6 (.call 43 [.tmp 5] 0), .q 7 (.not (.tmp 6)), .q 8 (.mv (.tmp 7)), .g 9 (.addr 2 (.tmp 1)) 8 false, .g 10 (.load 1 false (.tmp 9)) 8 false, .g 11 (.call 21 [.tmp 10, .val (.int .i64 1), .val (.int .i64 7)] 0) 8 false, .g 12 (.not (.tmp 11)) 8 false, .q 13 (.pick (.tmp 8) (.val (.bool true)) (.tmp 12))]) (.cond (.tmp 13) (.seq (.reg none [.q 2 (.mv (.val (.int .i64 3)))]) .ret) .skip)) (.seq (.seq (.reg none [.q 14 (.addr 3 (.tmp 1)), .q 15 (.load 1 false (.tmp 14)), .q 16 (.len true (.tmp 15)), .q 17 (.bin .gtr (.tmp 16) (.val (.int .i64 12))), .q 18 (.mv (.tmp 17)), .g 19 (.addr 4 (.tmp 1)) 18 false, .g 20 (.load 1 false (.tmp 19)) 18 false, .g 21 (.len false (.tmp 20)) 18 false, .g 22 (.bin .gtr (.tmp 21) (.val (.int .i64 6))) 18 false, .q 23 (.pick (.tmp 18) (.val (.bool true)) (.tmp 22))]) (.cond (.tmp 23) (.seq (.reg none [.q 2 (.mv (.val (.int .i64 2)))]) .ret) .skip)) (.seq (.seq (.reg none [.q 3 (.mv (.val (.int .i64 0)))]) (.block 0 (.loop (.seq (.seq (.reg none [.q 24 (.mv (.tmp 3)), .q 25 (.addr 4 (.tmp 1)), .q 26 (.load 1 false (.tmp 25)), .q 27 (.len false (.tmp 26)), .q 28 (.bin .lss (.tmp 24) (.tmp 27))]) (.cond (.tmp 28) .skip (.exit 0))) (.seq (.block 1 (.seq (.seq (.reg none [.q 31 (.addr 4 (.tmp 1)), .q 32 (.load 1 false (.tmp 31)), .q 33 (.mv (.tmp 3)), .q 34 (.iaddrS 2 (.tmp 32) (.tmp 33)), .q 35 (.load 2 true (.tmp 34)), .q 36 (.call 43 [.tmp 35] 0), .q 37 (.not (.tmp 36))]) (.cond (.tmp 37) (.seq (.reg none [.q 2 (.mv (.val (.int .i64 3)))]) .ret) .skip)) (.seq (.reg (some []) [.q 38 (.mv (.tmp 3)), .q 39 (.bin .gtr (.tmp 38) (.val (.int .i64 0))), .q 40 (.mv (.tmp 39)), .y 41 (.addr 4 (.tmp 1)) 40 true, .y 42 (.load 1 false (.tmp 41)) 40 true, .g 43 (.mv (.tmp 3)) 40 true, .g 44 (.bin .sub (.tmp 43) (.val (.int .i64 1))) 40 true, .y 45 (.iaddrS 2 (.tmp 42) (.tmp 44)) 40 true, .y 46 (.load 2 true (.tmp 45)) 40 true, .y 47 (.addr 4 (.tmp 1)) 40 true, .y 48 (.load 1 false (.tmp 47)) 40 true, .g 49 (.mv (.tmp 3)) 40 true, .y 50 (.iaddrS 2 (.tmp 48) (.tmp 49)) 40 true, .y 51 (.load 2 true (.tmp 50)) 40 true, .g 52 (.call 40 [.tmp 46, .tmp 51] 0) 40 true, .g 53 (.not (.tmp 52)) 40 true, .q 54 (.pick (.tmp 40) (.tmp 53) (.val (.bool false))), .q 55 (.mv (.tmp 54)), .y 56 (.addr 4 (.tmp 1)) 55 false, .y 57 (.load 1 false (.tmp 56)) 55 false, .g 58 (.mv (.tmp 3)) 55 false, .y 59 (.iaddrS 2 (.tmp 57) (.tmp 58)) 55 false, .y 60 (.addr 0 (.tmp 59)) 55 false, .y 61 (.load 1 false (.tmp 60)) 55 false, .y 62 (.addr 0 (.tmp 1)) 55 false, .y 63 (.addr 0 (.tmp 62)) 55 false, .y 64 (.load 1 false (.tmp 63)) 55 false, .g 65 (.bin .eql (.tmp 61) (.tmp 64)) 55 false, .g 66 (.mv (.tmp 65)) 55 false, .y 67 (.addr 4 (.tmp 1)) 66 true, .y 68 (.load 1 false (.tmp 67)) 66 true, .g 69 (.mv (.tmp 3)) 66 true, .y 70 (.iaddrS 2 (.tmp 68) (.tmp 69)) 66 true, .y 71 (.addr 1 (.tmp 70)) 66 true, .y 72 (.load 1 false (.tmp 71)) 66 true, .y 73 (.addr 0 (.tmp 1)) 66 true, .y 74 (.addr 1 (.tmp 73)) 66 true, .y 75 (.load 1 false (.tmp 74)) 66 true, .g 76 (.bin .geq (.tmp 72) (.tmp 75)) 66 true, .g 77 (.pick (.tmp 66) (.tmp 76) (.val (.bool false))) 55 false, .q 78 (.pick (.tmp 55) (.val (.bool true)) (.tmp 77))]) (.cond (.tmp 78) (.seq (.reg none [.q 2 (.mv (.val (.int .i64 4)))]) .ret) .skip)))) (.reg none [.q 29 (.mv (.tmp 3)), .q 30 (.bin .add (.tmp 29) (.val (.int .i64 1))), .q 3 (.mv (.tmp 30))])))))) (.seq (.reg none [.q 2 (.mv (.val (.int .i64 0)))]) .ret)))))
def R19 : List LRes := [.tmp 2]
theorem low19 : Tryz.f19.body.bind (lowerCode Tryz.prog 79) = some L19 := by kernel_rfl
theorem res19 : lowerRes Tryz.prog Tryz.f19.results.toList = some R19 := by kernel_rfl
set_option maxRecDepth 100000 in
def L20 : LC := (.seq (.reg none [.q 2 (.box (.tmp 0)), .q 3 (.box (.tmp 1)), .q 4 (.mv (.val (.bool false)))]) (.seq (.reg none [.q 7 (.addr 0 (.tmp 2)), .q 8 (.load 1 false (.tmp 7)), .q 9 (.addr 0 (.tmp 3)), .q 10 (.addr 0 (.tmp 9)), .q 11 (.load 1 false (.tmp 10)), .q 12 (.iaddrS 3 (.tmp 8) (.tmp 11)), .q 13 (.addr 1 (.tmp 12)), .q 14 (.load 1 false (.tmp 13)), .q 5 (.mv (.tmp 14))]) (.seq (.reg none [.q 15 (.mv (.tmp 5)), .q 16 (.addr 0 (.tmp 3)), .q 17 (.load 2 true (.tmp 16)), .q 18 (.call 41 [.tmp 15, .tmp 17] 0), .q 6 (.mv (.tmp 18))]) (.seq (.reg (some []) [.q 19 (.mv (.tmp 6)), .q 20 (.bin .geq (.tmp 19) (.val (.int .i64 0))), .q 21 (.mv (.tmp 20)), .g 22 (.mv (.tmp 5)) 21 true, .g 23 (.mv (.tmp 6)) 21 true, .y 24 (.iaddrS 5 (.tmp 22) (.tmp 23)) 21 true, .y 25 (.load 5 true (.tmp 24)) 21 true, .y 26 (.load 5 true (.tmp 3)) 21 true, .g 27 (.call 44 [.tmp 25, .tmp 26] 0) 21 true, .q 28 (.pick (.tmp 21) (.tmp 27) (.val (.bool false))), .q 4 (.mv (.tmp 28))]) .ret))))
def R20 : List LRes := [.tmp 4]
theorem low20 : Tryz.f20.body.bind (lowerCode Tryz.prog 29) = some L20 := by kernel_rfl
theorem res20 : lowerRes Tryz.prog Tryz.f20.results.toList = some R20 := by kernel_rfl
set_option maxRecDepth 100000 in
def L21 : LC := (.seq (.reg none [.q 6 (.mv (.val (.bool false)))]) (.seq (.reg none [.q 7 (.mv (.tmp 0)), .q 8 (.mv (.tmp 1)), .q 9 (.bin .geq (.tmp 7) (.tmp 8)), .q 10 (.mv (.tmp 9)), .g 11 (.mv (.tmp 0)) 10 true, .g 12 (.mv (.tmp 2)) 10 true, .g 13 (.bin .leq (.tmp 11) (.tmp 12)) 10 true, .q 14 (.pick (.tmp 10) (.tmp 13) (.val (.bool false))), .q 6 (.mv (.tmp 14))]) .ret))
def R21 : List LRes := [.tmp 6]
theorem low21 : Tryz.f21.body.bind (lowerCode Tryz.prog 15) = some L21 := by kernel_rfl
theorem res21 : lowerRes Tryz.prog Tryz.f21.results.toList = some R21 := by kernel_rfl
set_option maxRecDepth 100000 in
def L22 : LC := (.seq (.reg none [.q 1 (.box (.tmp 0)), .q 2 (.alloc [.nilsl, .nilsl])]) (.seq (.regS [(47, (3, false)), (45, (1, false))] [(0, 1), (0, 2), (0, 4), (1, 4), (2, 4), (3, 4), (0, 5), (3, 5), (4, 5), (0, 6), (3, 6), (4, 6)] [.z 3 (.mk0i 47 3 0), .z 4 (.addr 0 (.tmp 1)), .z 5 (.load 1 false (.tmp 4)), .z 6 (.append 47 3 56 (.tmp 3) (.tmp 5)), .z 7 (.mk0i 45 1 1), .z 8 (.addr 1 (.tmp 1)), .z 9 (.load 1 false (.tmp 8)), .q 10 (.append 45 1 24 (.tmp 7) (.tmp 9)), .q 11 (.build [.nilsl, .nilsl] [(0, (1, (.tmp 6))), (1, (1, (.tmp 10)))]), .s (.store 2 (.tmp 2) (.tmp 11))]) .ret))
def R22 : List LRes := [(.cell 2 2 true)]
theorem low22 : Tryz.f22.body.bind (lowerCode Tryz.prog 12) = some L22 := by kernel_rfl
theorem res22 : lowerRes Tryz.prog Tryz.f22.results.toList = some R22 := by kernel_rfl
set_option maxRecDepth 100000 in
def L23 : LC := (.seq (.reg none [.q 3 (.box (.tmp 0)), .q 6 (.alloc [.int .i64 0, .nilsl, .nilsl]), .q 7 (.alloc [.int .i64 0, .int .i64 0, .int .i64 0, .str ⟨#[]⟩, .nilsl]), .q 8 (.mv (.val (.int .i64 0)))]) (.seq (.seq (.reg none [.q 11 (.mv (.tmp 1)), .q 12 (.call 21 [.tmp 11, .val (.int .i64 1), .val (.int .i64 7)] 0), .q 13 (.not (.tmp 12))]) (.cond (.tmp 13) (.seq (.reg none [.q 14 (.build [.int .i64 0, .nilsl, .nilsl] []), .q 15 (.build [.int .i64 0, .int .i64 0, .int .i64 0, .str ⟨#[]⟩, .nilsl] []), .s (.store 3 (.tmp 6) (.tmp 14)), .s (.store 5 (.tmp 7) (.tmp 15)), .q 8 (.mv (.val (.int .i64 3)))]) .ret) .skip)) (.seq (.reg (some [(0, 17), (1, 17), (2, 17), (3, 17), (4, 17), (5, 17), (6, 17), (12, 17), (13, 17), (15, 17)]) [.z 16 (.addr 0 (.tmp 3)), .z 17 (.load 1 false (.tmp 16)), .z 18 (.addr 1 (.tmp 3)), .z 19 (.load 1 false (.tmp 18)), .z 20 (.call 45 [.tmp 19] 0), .z 21 (.addr 0 (.tmp 3)), .z 22 (.load 1 false (.tmp 21)), .q 23 (.idxA 1 2 false (.tmp 20) (.tmp 22)), .q 24 (.bin .add (.tmp 23) (.val (.int .i64 1))), .q 25 (.build [.int .i64 0, .int .i64 0] [(0, (1, (.tmp 17))), (1, (1, (.tmp 24)))]), .q 26 (.mv (.tmp 1)), .q 27 (.mv (.tmp 2)), .z 28 (.addr 1 (.tmp 3)), .z 29 (.load 1 false (.tmp 28)), .q 30 (.mv (.tmp 1)), .z 31 (.call 46 [.tmp 29, .tmp 30] 0), .q 32 (.build [.int .i64 0, .int .i64 0, .int .i64 0, .str ⟨#[]⟩, .nilsl] [(0, (2, (.tmp 25))), (2, (1, (.tmp 26))), (3, (1, (.tmp 27))), (4, (1, (.tmp 31)))]), .z 9 (.alloc [.int .i64 0, .int .i64 0, .int .i64 0, .str ⟨#[]⟩, .nilsl]), .s (.store 5 (.tmp 9) (.tmp 32))]) (.seq (.seq (.reg none [.q 33 (.mv (.tmp 2)), .q 34 (.len true (.tmp 33)), .q 35 (.bin .gtr (.tmp 34) (.val (.int .i64 12))), .q 36 (.mv (.tmp 35)), .g 37 (.addr 0 (.tmp 9)) 36 false, .g 38 (.addr 1 (.tmp 37)) 36 false, .g 39 (.load 1 false (.tmp 38)) 36 false, .g 40 (.bin .gtr (.tmp 39) (.val (.int .i64 20))) 36 false, .q 41 (.pick (.tmp 36) (.val (.bool true)) (.tmp 40)), .q 42 (.mv (.tmp 41)), .g 43 (.addr 1 (.tmp 3)) 42 false, .g 44 (.load 1 false (.tmp 43)) 42 false, .g 45 (.len false (.tmp 44)) 42 false, .g 46 (.bin .eql (.tmp 45) (.val (.int .i64 40))) 42 false, .q 47 (.pick (.tmp 42) (.val (.bool true)) (.tmp 46)), .q 48 (.mv (.tmp 47)), .g 49 (.addr 4 (.tmp 9)) 48 false, .g 50 (.load 1 false (.tmp 49)) 48 false, .g 51 (.len false (.tmp 50)) 48 false, .g 52 (.bin .gtr (.tmp 51) (.val (.int .i64 6))) 48 false, .q 53 (.pick (.tmp 48) (.val (.bool true)) (.tmp 52))]) (.cond (.tmp 53) (.seq (.reg none [.q 54 (.build [.int .i64 0, .nilsl, .nilsl] []), .q 55 (.build [.int .i64 0, .int .i64 0, .int .i64 0, .str ⟨#[]⟩, .nilsl] []), .s (.store 3 (.tmp 6) (.tmp 54)), .s (.store 5 (.tmp 7) (.tmp 55)), .q 8 (.mv (.val (.int .i64 2)))]) .ret) .skip)) (.seq (.regS [(53, (5, false))] [(0, 2), (1, 2), (2, 3), (2, 4), (0, 5), (1, 5), (2, 6), (5, 6), (0, 8), (1, 8), (2, 9), (5, 9), (8, 9), (2, 10), (5, 10), (8, 10), (0, 12), (1, 12), (2, 12), (3, 12), (4, 12), (5, 12), (6, 12), (8, 12), (9, 12), (10, 12)] [.z 56 (.addr 0 (.tmp 3)), .z 57 (.load 1 false (.tmp 56)), .z 58 (.mk0i 53 5 0), .z 59 (.addr 1 (.tmp 3)), .z 60 (.load 1 false (.tmp 59)), .z 61 (.append 53 5 64 (.tmp 58) (.tmp 60)), .z 62 (.load 5 true (.tmp 9)), .q 63 (.mks 5 [.int .i64 0, .int .i64 0, .int .i64 0, .str ⟨#[]⟩, .nilsl] 1 [(0, (.tmp 62))]), .z 64 (.append 53 5 64 (.tmp 61) (.tmp 63)), .z 65 (.addr 2 (.tmp 3)), .z 66 (.load 1 false (.tmp 65)), .q 67 (.build [.int .i64 0, .nilsl, .nilsl] [(0, (1, (.tmp 57))), (1, (1, (.tmp 64))), (2, (1, (.tmp 66)))]), .z 10 (.alloc [.int .i64 0, .nilsl, .nilsl]), .s (.store 3 (.tmp 10) (.tmp 67))]) (.seq (.reg (some [(2, 3)]) [.z 68 (.load 3 true (.tmp 10)), .z 69 (.call 47 [.tmp 68] 0), .z 70 (.load 5 true (.tmp 9)), ⟨none, (.store 3 (.tmp 6) (.tmp 69)), none, false⟩, .s (.store 5 (.tmp 7) (.tmp 70)), .q 8 (.mv (.val (.int .i64 0)))]) .ret))))))
def R23 : List LRes := [(.cell 6 3 true), (.cell 7 5 true), .tmp 8]
theorem low23 : Tryz.f23.body.bind (lowerCode Tryz.prog 71) = some L23 := by kernel_rfl
theorem res23 : lowerRes Tryz.prog Tryz.f23.results.toList = some R23 := by kernel_rfl
set_option maxRecDepth 100000 in
def L24 : LC := (.seq (.reg none [.q 2 (.box (.tmp 0)), .q 3 (.box (.tmp 1)), .q 4 (.alloc [.int .i64 0, .nilsl, .nilsl]), .q 5 (.mv (.val (.int .i64 0)))]) (.seq (.seq (.reg none [.q 9 (.addr 1 (.tmp 2)), .q 10 (.load 1 false (.tmp 9)), .q 11 (.addr 0 (.tmp 3)), .q 12 (.load 2 true (.tmp 11)), .q 13 (.call 41 [.tmp 10, .tmp 12] 0), .q 14 (.bin .geq (.tmp 13) (.val (.int .i64 0))), .q 15 (.mv (.tmp 14)), .g 16 (.addr 2 (.tmp 2)) 15 false, .g 17 (.load 1 false (.tmp 16)) 15 false, .g 18 (.addr 0 (.tmp 3)) 15 false, .g 19 (.load 2 true (.tmp 18)) 15 false, .g 20 (.call 41 [.tmp 17, .tmp 19] 0) 15 false, .g 21 (.bin .geq (.tmp 20) (.val (.int .i64 0))) 15 false, .q 22 (.pick (.tmp 15) (.val (.bool true)) (.tmp 21))]) (.cond (.tmp 22) (.seq (.reg none [.q 23 (.load 3 true (.tmp 2)), .s (.store 3 (.tmp 4) (.tmp 23)), .q 5 (.mv (.val (.int .i64 0)))]) .ret) .skip)) (.seq (.seq (.reg none [.q 24 (.addr 0 (.tmp 3)), .q 25 (.addr 0 (.tmp 24)), .q 26 (.load 1 false (.tmp 25)), .q 27 (.addr 0 (.tmp 2)), .q 28 (.load 1 false (.tmp 27)), .q 29 (.bin .eql (.tmp 26) (.tmp 28))]) (.cond (.tmp 29) (.seq (.reg none [.q 30 (.build [.int .i64 0, .nilsl, .nilsl] []), .s (.store 3 (.tmp 4) (.tmp 30)), .q 5 (.mv (.val (.int .i64 4)))]) .ret) .skip)) (.seq (.reg none [.q 31 (.addr 0 (.tmp 2)), .q 32 (.load 1 false (.tmp 31)), .q 33 (.addr 1 (.tmp 2)), .q 34 (.load 1 false (.tmp 33)), .q 35 (.build [.int .i64 0, .nilsl, .nilsl] [(0, (1, (.tmp 32))), (1, (1, (.tmp 34)))]), .q 6 (.alloc [.int .i64 0, .nilsl, .nilsl]), .s (.store 3 (.tmp 6) (.tmp 35))]) (.seq (.reg none [.q 7 (.mv (.val (.bool false)))]) (.seq (.seq (.reg none [.q 8 (.mv (.val (.int .i64 0)))]) (.block 0 (.loop (.seq (.seq (.reg none [.q 36 (.mv (.tmp 8)), .q 37 (.addr 2 (.tmp 2)), .q 38 (.load 1 false (.tmp 37)), .q 39 (.len false (.tmp 38)), .q 40 (.bin .lss (.tmp 36) (.tmp 39))]) (.cond (.tmp 40) .skip (.exit 0))) (.seq (.block 1 (.seq (.seq (.reg (some []) [.q 43 (.mv (.tmp 7)), .q 44 (.not (.tmp 43)), .q 45 (.mv (.tmp 44)), .y 46 (.addr 0 (.tmp 3)) 45 true, .y 47 (.load 2 true (.tmp 46)) 45 true, .y 48 (.addr 2 (.tmp 2)) 45 true, .y 49 (.load 1 false (.tmp 48)) 45 true, .g 50 (.mv (.tmp 8)) 45 true, .y 51 (.iaddrS 5 (.tmp 49) (.tmp 50)) 45 true, .y 52 (.addr 0 (.tmp 51)) 45 true, .y 53 (.load 2 true (.tmp 52)) 45 true, .g 54 (.call 40 [.tmp 47, .tmp 53] 0) 45 true, .q 55 (.pick (.tmp 45) (.tmp 54) (.val (.bool false)))]) (.cond (.tmp 55) (.seq (.reg none [.q 56 (.addr 2 (.tmp 6)), .q 57 (.load 1 false (.tmp 56)), .q 58 (.load 5 true (.tmp 3)), .q 59 (.mks 5 [.int .i64 0, .int .i64 0, .int .i64 0, .str ⟨#[]⟩, .nilsl] 1 [(0, (.tmp 58))]), .q 60 (.append 53 5 64 (.tmp 57) (.tmp 59)), .q 61 (.addr 2 (.tmp 6)), .s (.store 1 (.tmp 61) (.tmp 60))]) (.reg none [.q 7 (.mv (.val (.bool true)))])) .skip)) (.reg (some []) [.z 62 (.addr 2 (.tmp 6)), .z 63 (.load 1 false (.tmp 62)), .z 64 (.addr 2 (.tmp 2)), .z 65 (.load 1 false (.tmp 64)), .q 66 (.mv (.tmp 8)), .z 67 (.iaddrS 5 (.tmp 65) (.tmp 66)), .z 68 (.load 5 true (.tmp 67)), .q 69 (.mks 5 [.int .i64 0, .int .i64 0, .int .i64 0, .str ⟨#[]⟩, .nilsl] 1 [(0, (.tmp 68))]), .q 70 (.append 53 5 64 (.tmp 63) (.tmp 69)), .q 71 (.addr 2 (.tmp 6)), .s (.store 1 (.tmp 71) (.tmp 70))]))) (.reg none [.q 41 (.mv (.tmp 8)), .q 42 (.bin .add (.tmp 41) (.val (.int .i64 1))), .q 8 (.mv (.tmp 42))])))))) (.seq (.seq (.reg none [.q 72 (.mv (.tmp 7)), .q 73 (.not (.tmp 72))]) (.cond (.tmp 73) (.reg none [.q 74 (.addr 2 (.tmp 6)), .q 75 (.load 1 false (.tmp 74)), .q 76 (.load 5 true (.tmp 3)), .q 77 (.mks 5 [.int .i64 0, .int .i64 0, .int .i64 0, .str ⟨#[]⟩, .nilsl] 1 [(0, (.tmp 76))]), .q 78 (.append 53 5 64 (.tmp 75) (.tmp 77)), .q 79 (.addr 2 (.tmp 6)), .s (.store 1 (.tmp 79) (.tmp 78))]) .skip)) (.seq (.reg none [.q 80 (.load 3 true (.tmp 6)), .q 81 (.call 47 [.tmp 80] 0), .s (.store 3 (.tmp 6) (.tmp 81))]) (.seq (.seq (.reg none [.q 82 (.addr 2 (.tmp 6)), .q 83 (.load 1 false (.tmp 82)), .q 84 (.len false (.tmp 83)), .q 85 (.bin .gtr (.tmp 84) (.val (.int .i64 20))), .q 86 (.mv (.tmp 85)), .g 87 (.addr 1 (.tmp 6)) 86 false, .g 88 (.load 1 false (.tmp 87)) 86 false, .g 89 (.len false (.tmp 88)) 86 false, .g 90 (.bin .gtr (.tmp 89) (.val (.int .i64 40))) 86 false, .q 91 (.pick (.tmp 86) (.val (.bool true)) (.tmp 90))]) (.cond (.tmp 91) (.seq (.reg none [.q 92 (.build [.int .i64 0, .nilsl, .nilsl] []), .s (.store 3 (.tmp 4) (.tmp 92)), .q 5 (.mv (.val (.int .i64 2)))]) .ret) .skip)) (.seq (.reg none [.q 93 (.load 3 true (.tmp 6)), .s (.store 3 (.tmp 4) (.tmp 93)), .q 5 (.mv (.val (.int .i64 0)))]) .ret))))))))))
def R24 : List LRes := [(.cell 4 3 true), .tmp 5]
theorem low24 : Tryz.f24.body.bind (lowerCode Tryz.prog 94) = some L24 := by kernel_rfl
theorem res24 : lowerRes Tryz.prog Tryz.f24.results.toList = some R24 := by kernel_rfl
set_option maxRecDepth 100000 in
def L25 : LC := (.seq (.reg none [.q 4 (.mv (.val .nilsl))]) (.seq (.reg (some [(0, 3), (0, 8), (4, 8)]) [.z 5 (.mk0 53 5), .q 6 (.mv (.tmp 0)), .q 7 (.mv (.tmp 1)), .z 8 (.slc 5 (.tmp 6) none (some (.tmp 7))), .z 9 (.append 53 5 64 (.tmp 5) (.tmp 8)), .q 10 (.mv (.tmp 0)), .q 11 (.mv (.tmp 1)), .q 12 (.bin .add (.tmp 11) (.val (.int .i64 1))), .z 13 (.slc 5 (.tmp 10) (some (.tmp 12)) none), .q 14 (.append 53 5 64 (.tmp 9) (.tmp 13)), .q 4 (.mv (.tmp 14))]) .ret))
def R25 : List LRes := [.tmp 4]
theorem low25 : Tryz.f25.body.bind (lowerCode Tryz.prog 15) = some L25 := by kernel_rfl
theorem res25 : lowerRes Tryz.prog Tryz.f25.results.toList = some R25 := by kernel_rfl
set_option maxRecDepth 100000 in
def L26 : LC := (.seq (.reg none [.q 0 (.mv (.val .nilsl))]) (.seq (.reg none [.q 1 (.build [.int .i64 0, .int .i64 0, .int .i64 0, .int .i64 0, .str ⟨#[]⟩] [(0, (1, (.val (.int .i64 1)))), (3, (1, (.val (.int .i64 1)))), (4, (1, (.val (.str ⟨#[112, 117, 116, 32, 97, 32, 120]⟩))))]), .q 2 (.build [.int .i64 0, .int .i64 0, .int .i64 0, .int .i64 0, .str ⟨#[]⟩] [(0, (1, (.val (.int .i64 1)))), (1, (1, (.val (.int .i64 1)))), (3, (1, (.val (.int .i64 1)))), (4, (1, (.val (.str ⟨#[112, 117, 116, 32, 97, 32, 121]⟩))))]), .q 3 (.build [.int .i64 0, .int .i64 0, .int .i64 0, .int .i64 0, .str ⟨#[]⟩] [(0, (1, (.val (.int .i64 2)))), (1, (1, (.val (.int .i64 1))))]), .q 4 (.build [.int .i64 0, .int .i64 0, .int .i64 0, .int .i64 0, .str ⟨#[]⟩] [(0, (1, (.val (.int .i64 3))))]), .q 5 (.build [.int .i64 0, .int .i64 0, .int .i64 0, .int .i64 0, .str ⟨#[]⟩] [(0, (1, (.val (.int .i64 1)))), (1, (1, (.val (.int .i64 1)))), (3, (1, (.val (.int .i64 1)))), (4, (1, (.val (.str ⟨#[112, 117, 116, 32, 98, 32, 122]⟩))))]), .q 6 (.build [.int .i64 0, .int .i64 0, .int .i64 0, .int .i64 0, .str ⟨#[]⟩] [(0, (1, (.val (.int .i64 2))))]), .q 7 (.mks 5 [.int .i64 0, .int .i64 0, .int .i64 0, .int .i64 0, .str ⟨#[]⟩] 6 [(0, (.tmp 1)), (1, (.tmp 2)), (2, (.tmp 3)), (3, (.tmp 4)), (4, (.tmp 5)), (5, (.tmp 6))]), .q 0 (.mv (.tmp 7))]) .ret))
def R26 : List LRes := [.tmp 0]
theorem low26 : Tryz.f26.body.bind (lowerCode Tryz.prog 8) = some L26 := by kernel_rfl
theorem res26 : lowerRes Tryz.prog Tryz.f26.results.toList = some R26 := by kernel_rfl
set_option maxRecDepth 100000 in
def L27 : LC := (.seq (.reg none [.q 2 (.box (.tmp 0)), .q 3 (.box (.tmp 1)), .q 4 (.mv (.val (.bool false)))]) (.seq (.reg none [.q 5 (.addr 0 (.tmp 2)), .q 6 (.load 1 false (.tmp 5)), .q 7 (.addr 0 (.tmp 3)), .q 8 (.load 1 false (.tmp 7)), .q 9 (.bin .eql (.tmp 6) (.tmp 8)), .q 10 (.mv (.tmp 9)), .g 11 (.addr 1 (.tmp 2)) 10 true, .g 12 (.load 1 false (.tmp 11)) 10 true, .g 13 (.addr 1 (.tmp 3)) 10 true, .g 14 (.load 1 false (.tmp 13)) 10 true, .g 15 (.call 28 [.tmp 12, .tmp 14] 0) 10 true, .q 16 (.pick (.tmp 10) (.tmp 15) (.val (.bool false))), .q 17 (.mv (.tmp 16)), .g 18 (.addr 2 (.tmp 2)) 17 true, .g 19 (.load 1 false (.tmp 18)) 17 true, .g 20 (.addr 2 (.tmp 3)) 17 true, .g 21 (.load 1 false (.tmp 20)) 17 true, .g 22 (.call 28 [.tmp 19, .tmp 21] 0) 17 true, .q 23 (.pick (.tmp 17) (.tmp 22) (.val (.bool false))), .q 4 (.mv (.tmp 23))]) .ret))
def R27 : List LRes := [.tmp 4]
theorem low27 : Tryz.f27.body.bind (lowerCode Tryz.prog 24) = some L27 := by kernel_rfl
theorem res27 : lowerRes Tryz.prog Tryz.f27.results.toList = some R27 := by kernel_rfl
set_option maxRecDepth 100000 in
def L28 : LC := (.seq (.reg none [.q 4 (.mv (.val (.bool false)))]) (.seq (.seq (.reg none [.q 6 (.mv (.tmp 0)), .q 7 (.len false (.tmp 6)), .q 8 (.mv (.tmp 1)), .q 9 (.len false (.tmp 8)), .q 10 (.bin .neq (.tmp 7) (.tmp 9))]) (.cond (.tmp 10) (.seq (.reg none [.q 4 (.mv (.val (.bool false)))]) .ret) .skip)) (.seq (.seq (.reg none [.q 5 (.mv (.val (.int .i64 0)))]) (.block 0 (.loop (.seq (.seq (.reg none [.q 11 (.mv (.tmp 5)), .q 12 (.mv (.tmp 0)), .q 13 (.len false (.tmp 12)), .q 14 (.bin .lss (.tmp 11) (.tmp 13))]) (.cond (.tmp 14) .skip (.exit 0))) (.seq (.block 1 (.seq (.reg (some []) [.q 17 (.mv (.tmp 0)), .q 18 (.mv (.tmp 5)), .z 19 (.iaddrS 5 (.tmp 17) (.tmp 18)), .z 20 (.load 5 true (.tmp 19)), .q 21 (.mv (.tmp 1)), .q 22 (.mv (.tmp 5)), .z 23 (.iaddrS 5 (.tmp 21) (.tmp 22)), .z 24 (.load 5 true (.tmp 23)), .q 25 (.call 44 [.tmp 20, .tmp 24] 0), .q 26 (.not (.tmp 25))]) (.cond (.tmp 26) (.seq (.reg none [.q 4 (.mv (.val (.bool false)))]) .ret) .skip))) (.reg none [.q 15 (.mv (.tmp 5)), .q 16 (.bin .add (.tmp 15) (.val (.int .i64 1))), .q 5 (.mv (.tmp 16))])))))) (.seq (.reg none [.q 4 (.mv (.val (.bool true)))]) .ret))))
def R28 : List LRes := [.tmp 4]
theorem low28 : Tryz.f28.body.bind (lowerCode Tryz.prog 27) = some L28 := by kernel_rfl
theorem res28 : lowerRes Tryz.prog Tryz.f28.results.toList = some R28 := by kernel_rfl
set_option maxRecDepth 100000 in
def L29 : LC := (.seq (.reg none [.q 1 (.box (.tmp 0)), .q 2 (.mv (.val (.int .i64 0)))]) (.seq (.seq (.reg none [.q 7 (.addr 0 (.tmp 1)), .q 8 (.load 1 false (.tmp 7)), .q 9 (.bin .neq (.tmp 8) (.val (.int .i64 0))), .q 10 (.mv (.tmp 9)), .g 11 (.addr 0 (.tmp 1)) 10 true, .g 12 (.load 1 false (.tmp 11)) 10 true, .g 13 (.bin .neq (.tmp 12) (.val (.int .i64 1))) 10 true, .q 14 (.pick (.tmp 10) (.tmp 13) (.val (.bool false)))]) (.cond (.tmp 14) (.seq (.reg none [.q 2 (.mv (.val (.int .i64 3)))]) .ret) .skip)) (.seq (.seq (.reg none [.q 15 (.addr 1 (.tmp 1)), .q 16 (.load 1 false (.tmp 15)), .q 17 (.call 48 [.tmp 16] 0), .q 3 (.mv (.tmp 17))]) (.seq (.reg none [.q 18 (.mv (.tmp 3)), .q 19 (.bin .neq (.tmp 18) (.val (.int .i64 0)))]) (.cond (.tmp 19) (.seq (.reg none [.q 20 (.mv (.tmp 3)), .q 2 (.mv (.tmp 20))]) .ret) .skip))) (.seq (.seq (.reg none [.q 21 (.addr 2 (.tmp 1)), .q 22 (.load 1 false (.tmp 21)), .q 23 (.len false (.tmp 22)), .q 24 (.bin .gtr (.tmp 23) (.val (.int .i64 20)))]) (.cond (.tmp 24) (.seq (.reg none [.q 2 (.mv (.val (.int .i64 2)))]) .ret) .skip)) (.seq (.seq (.reg none [.q 25 (.addr 2 (.tmp 1)), .q 26 (.load 1 false (.tmp 25)), .q 27 (.len false (.tmp 26)), .q 28 (.mv (.val (.int .i64 0)))]) (.block 0 (.loop (.seq (.reg none [.q 29 (.bin .lss (.tmp 28) (.tmp 27))]) (.seq (.cond (.tmp 29) .skip (.exit 0)) (.seq (.block 1 (.seq (.reg none [.q 30 (.mv (.tmp 28)), .q 31 (.iaddrS 5 (.tmp 26) (.tmp 28)), .q 32 (.load 5 true (.tmp 31)), .q 5 (.alloc [.int .i64 0, .int .i64 0, .int .i64 0, .str ⟨#[]⟩, .nilsl]), .q 4 (.mv (.tmp 30)), .s (.store 5 (.tmp 5) (.tmp 32))]) (.seq (.seq (.reg none [.q 33 (.load 5 true (.tmp 5)), .q 34 (.call 49 [.tmp 33] 0), .q 6 (.mv (.tmp 34))]) (.seq (.reg none [.q 35 (.mv (.tmp 6)), .q 36 (.bin .neq (.tmp 35) (.val (.int .i64 0)))]) (.cond (.tmp 36) (.seq (.reg none [.q 37 (.mv (.tmp 6)), .q 2 (.mv (.tmp 37))]) .ret) .skip))) (.seq (.reg (some []) [.q 38 (.mv (.tmp 4)), .q 39 (.bin .gtr (.tmp 38) (.val (.int .i64 0))), .q 40 (.mv (.tmp 39)), .y 41 (.addr 2 (.tmp 1)) 40 true, .y 42 (.load 1 false (.tmp 41)) 40 true, .g 43 (.mv (.tmp 4)) 40 true, .g 44 (.bin .sub (.tmp 43) (.val (.int .i64 1))) 40 true, .y 45 (.iaddrS 5 (.tmp 42) (.tmp 44)) 40 true, .y 46 (.addr 0 (.tmp 45)) 40 true, .y 47 (.load 2 true (.tmp 46)) 40 true, .y 48 (.addr 0 (.tmp 5)) 40 true, .y 49 (.load 2 true (.tmp 48)) 40 true, .g 50 (.call 50 [.tmp 47, .tmp 49] 0) 40 true, .g 51 (.not (.tmp 50)) 40 true, .q 52 (.pick (.tmp 40) (.tmp 51) (.val (.bool false))), .q 53 (.mv (.tmp 52)), .y 54 (.addr 0 (.tmp 5)) 53 false, .y 55 (.addr 0 (.tmp 54)) 53 false, .y 56 (.load 1 false (.tmp 55)) 53 false, .y 57 (.addr 0 (.tmp 1)) 53 false, .y 58 (.load 1 false (.tmp 57)) 53 false, .g 59 (.bin .eql (.tmp 56) (.tmp 58)) 53 false, .q 60 (.pick (.tmp 53) (.val (.bool true)) (.tmp 59)), .q 61 (.mv (.tmp 60)), .y 62 (.addr 1 (.tmp 1)) 61 false, .y 63 (.load 1 false (.tmp 62)) 61 false, .y 64 (.addr 0 (.tmp 5)) 61 false, .y 65 (.load 2 true (.tmp 64)) 61 false, .g 66 (.call 51 [.tmp 63, .tmp 65] 0) 61 false, .g 67 (.bin .geq (.tmp 66) (.val (.int .i64 0))) 61 false, .q 68 (.pick (.tmp 61) (.val (.bool true)) (.tmp 67)), .q 69 (.mv (.tmp 68)), .y 70 (.addr 1 (.tmp 1)) 69 false, .y 71 (.load 1 false (.tmp 70)) 69 false, .y 72 (.load 5 true (.tmp 5)) 69 false, .g 73 (.call 52 [.tmp 71, .tmp 72] 0) 69 false, .q 74 (.pick (.tmp 69) (.val (.bool true)) (.tmp 73))]) (.cond (.tmp 74) (.seq (.reg none [.q 2 (.mv (.val (.int .i64 4)))]) .ret) .skip))))) (.reg none [.q 75 (.bin .add (.tmp 28) (.val (.int .i64 1))), .q 28 (.mv (.tmp 75))]))))))) (.seq (.reg none [.q 2 (.mv (.val (.int .i64 0)))]) .ret))))))
def R29 : List LRes := [.tmp 2]
theorem low29 : Tryz.f29.body.bind (lowerCode Tryz.prog 76) = some L29 := by kernel_rfl
theorem res29 : lowerRes Tryz.prog Tryz.f29.results.toList = some R29 := by kernel_rfl
set_option maxRecDepth 100000 in
def L30 : LC := (.seq (.reg none [.q 2 (.box (.tmp 0)), .q 4 (.mv (.val (.int .i64 0)))]) (.seq (.seq (.reg none [.q 8 (.mv (.tmp 1)), .q 9 (.len false (.tmp 8)), .q 10 (.bin .gtr (.tmp 9) (.val (.int .i64 30)))]) (.cond (.tmp 10) (.seq (.reg none [.q 4 (.mv (.val (.int .i64 2)))]) .ret) .skip)) (.seq (.seq (.reg none [.q 11 (.mv (.tmp 1)), .q 12 (.len false (.tmp 11)), .q 13 (.mv (.val (.int .i64 0)))]) (.block 0 (.loop (.seq (.reg none [.q 14 (.bin .lss (.tmp 13) (.tmp 12))]) (.seq (.cond (.tmp 14) .skip (.exit 0)) (.seq (.block 1 (.seq (.reg none [.q 15 (.iaddrS 5 (.tmp 11) (.tmp 13)), .q 16 (.load 5 true (.tmp 15)), .q 6 (.alloc [.int .i64 0, .int .i64 0, .int .i64 0, .str ⟨#[]⟩, .nilsl]), .s (.store 5 (.tmp 6) (.tmp 16))]) (.seq (.seq (.reg none [.q 17 (.load 5 true (.tmp 6)), .q 18 (.call 49 [.tmp 17] 0), .q 7 (.mv (.tmp 18))]) (.seq (.reg none [.q 19 (.mv (.tmp 7)), .q 20 (.bin .neq (.tmp 19) (.val (.int .i64 0)))]) (.cond (.tmp 20) (.seq (.reg none [.q 21 (.mv (.tmp 7)), .q 4 (.mv (.tmp 21))]) .ret) .skip))) (.seq (.reg none [.q 22 (.load 2 true (.tmp 2)), .q 23 (.load 5 true (.tmp 6)), .q 24 (.call 32 [.tmp 22, .tmp 23] 0), .q 25 (.not (.tmp 24))]) (.cond (.tmp 25) (.seq (.reg none [.q 4 (.mv (.val (.int .i64 4)))]) .ret) .skip))))) (.reg none [.q 26 (.bin .add (.tmp 13) (.val (.int .i64 1))), .q 13 (.mv (.tmp 26))]))))))) (.seq (.reg none [.q 4 (.mv (.val (.int .i64 0)))]) .ret))))
def R30 : List LRes := [.tmp 4]
theorem low30 : Tryz.f30.body.bind (lowerCode Tryz.prog 27) = some L30 := by kernel_rfl
theorem res30 : lowerRes Tryz.prog Tryz.f30.results.toList = some R30 := by kernel_rfl
set_option maxRecDepth 100000 in
def L31 : LC := (.seq (.reg none [.q 2 (.box (.tmp 0)), .q 3 (.mv (.val (.bool false)))]) (.seq (.reg none [.q 4 (.load 2 true (.tmp 1)), .q 5 (.load 5 true (.tmp 2)), .q 6 (.call 32 [.tmp 4, .tmp 5] 0), .q 7 (.not (.tmp 6)), .q 3 (.mv (.tmp 7))]) .ret))
def R31 : List LRes := [.tmp 3]
theorem low31 : Tryz.f31.body.bind (lowerCode Tryz.prog 8) = some L31 := by kernel_rfl
theorem res31 : lowerRes Tryz.prog Tryz.f31.results.toList = some R31 := by kernel_rfl
set_option maxRecDepth 100000 in
def L32 : LC := (.seq (.reg none [.q 2 (.box (.tmp 0)), .q 3 (.box (.tmp 1)), .q 4 (.mv (.val (.bool false)))]) (.seq (.reg none [.q 7 (.addr 0 (.tmp 2)), .q 8 (.load 1 false (.tmp 7)), .q 9 (.addr 0 (.tmp 3)), .q 10 (.addr 0 (.tmp 9)), .q 11 (.load 1 false (.tmp 10)), .q 12 (.iaddrS 3 (.tmp 8) (.tmp 11)), .q 13 (.addr 1 (.tmp 12)), .q 14 (.load 1 false (.tmp 13)), .q 5 (.mv (.tmp 14))]) (.seq (.reg none [.q 15 (.mv (.tmp 5)), .q 16 (.addr 0 (.tmp 3)), .q 17 (.load 2 true (.tmp 16)), .q 18 (.call 51 [.tmp 15, .tmp 17] 0), .q 6 (.mv (.tmp 18))]) (.seq (.reg (some []) [.q 19 (.mv (.tmp 6)), .q 20 (.bin .geq (.tmp 19) (.val (.int .i64 0))), .q 21 (.mv (.tmp 20)), .g 22 (.mv (.tmp 5)) 21 true, .g 23 (.mv (.tmp 6)) 21 true, .y 24 (.iaddrS 5 (.tmp 22) (.tmp 23)) 21 true, .y 25 (.load 5 true (.tmp 24)) 21 true, .y 26 (.load 5 true (.tmp 3)) 21 true, .g 27 (.call 53 [.tmp 25, .tmp 26] 0) 21 true, .q 28 (.pick (.tmp 21) (.tmp 27) (.val (.bool false))), .q 4 (.mv (.tmp 28))]) .ret))))
def R32 : List LRes := [.tmp 4]
theorem low32 : Tryz.f32.body.bind (lowerCode Tryz.prog 29) = some L32 := by kernel_rfl
theorem res32 : lowerRes Tryz.prog Tryz.f32.results.toList = some R32 := by kernel_rfl
set_option maxRecDepth 100000 in
def L33 : LC := (.seq (.reg none [.q 4 (.mv (.val (.bool false)))]) (.seq (.reg none [.q 5 (.mv (.tmp 0)), .q 6 (.mv (.tmp 1)), .q 7 (.call 54 [.tmp 5, .tmp 6] 0), .q 8 (.bin .geq (.tmp 7) (.val (.int .i64 0))), .q 4 (.mv (.tmp 8))]) .ret))
def R33 : List LRes := [.tmp 4]
theorem low33 : Tryz.f33.body.bind (lowerCode Tryz.prog 9) = some L33 := by kernel_rfl
theorem res33 : lowerRes Tryz.prog Tryz.f33.results.toList = some R33 := by kernel_rfl
set_option maxRecDepth 100000 in
def L34 : LC := (.seq (.reg none [.q 1 (.box (.tmp 0)), .q 2 (.mv (.val (.bool false)))]) (.seq (.reg (some []) [.z 5 (.addr 0 (.tmp 1)), .z 6 (.load 1 false (.tmp 5)), .q 7 (.bin .eql (.tmp 6) (.val (.int .i64 1))), .z 8 (.addr 0 (.tmp 1)), .z 9 (.load 1 false (.tmp 8)), .q 10 (.bin .eql (.tmp 9) (.val (.int .i64 5))), .q 3 (.mv (.tmp 7)), .q 4 (.mv (.tmp 10))]) (.seq (.reg none [.q 11 (.mv (.tmp 3)), .q 12 (.not (.tmp 11)), .q 13 (.mv (.tmp 12)), .g 14 (.addr 3 (.tmp 1)) 13 true, .g 15 (.load 1 false (.tmp 14)) 13 true, .g 16 (.bin .neq (.tmp 15) (.val (.int .i64 0))) 13 true, .g 17 (.mv (.tmp 16)) 13 true, .g 18 (.addr 4 (.tmp 1)) 17 false, .g 19 (.load 1 false (.tmp 18)) 17 false, .g 20 (.bin .neq (.tmp 19) (.val (.str ⟨#[]⟩))) 17 false, .g 21 (.pick (.tmp 17) (.val (.bool true)) (.tmp 20)) 13 true, .q 22 (.pick (.tmp 13) (.tmp 21) (.val (.bool false))), .q 23 (.mv (.tmp 22)), .g 24 (.mv (.tmp 3)) 23 false, .g 25 (.mv (.tmp 24)) 23 false, .g 26 (.mv (.tmp 4)) 25 false, .g 27 (.pick (.tmp 25) (.val (.bool true)) (.tmp 26)) 23 false, .g 28 (.mv (.tmp 27)) 23 false, .g 29 (.addr 2 (.tmp 1)) 28 true, .g 30 (.load 1 false (.tmp 29)) 28 true, .g 31 (.bin .neq (.tmp 30) (.val (.int .i64 0))) 28 true, .g 32 (.pick (.tmp 28) (.tmp 31) (.val (.bool false))) 23 false, .q 33 (.pick (.tmp 23) (.val (.bool true)) (.tmp 32)), .q 2 (.mv (.tmp 33))]) .ret)))
def R34 : List LRes := [.tmp 2]
theorem low34 : Tryz.f34.body.bind (lowerCode Tryz.prog 34) = some L34 := by kernel_rfl
theorem res34 : lowerRes Tryz.prog Tryz.f34.results.toList = some R34 := by kernel_rfl
set_option maxRecDepth 100000 in
def L35 : LC := (.seq (.reg none [.q 3 (.box (.tmp 1)), .q 4 (.mv (.val (.int .i64 0)))]) (.seq (.seq (.reg none [.q 8 (.addr 0 (.tmp 3)), .q 9 (.load 1 false (.tmp 8))]) (.block 0 (.seq (.reg none [.q 11 (.bin .eql (.tmp 9) (.val (.int .i64 1))), .q 10 (.mv (.tmp 11))]) (.cond (.tmp 10) (.seq (.regS [(47, (3, true)), (53, (5, true))] [(1, 18), (2, 18), (3, 18), (4, 18), (5, 18), (6, 18), (7, 18), (8, 18), (9, 18), (10, 18), (11, 18), (12, 18), (13, 18), (1, 19), (2, 19), (3, 19), (4, 19), (5, 19), (6, 19), (7, 19), (8, 19), (9, 19), (10, 19), (11, 19), (12, 19), (13, 19), (18, 19)] [.q 13 (.mv (.tmp 0)), .z 14 (.nilchk (.tmp 13)), .z 15 (.addr 0 (.tmp 14)), .z 16 (.addr 0 (.tmp 15)), .z 17 (.load 1 false (.tmp 16)), .z 18 (.addr 1 (.tmp 3)), .z 19 (.load 1 false (.tmp 18)), .z 20 (.iaddrS 3 (.tmp 17) (.tmp 19)), .z 21 (.load 3 true (.tmp 20)), .z 22 (.addr 3 (.tmp 3)), .z 23 (.load 1 false (.tmp 22)), .z 24 (.addr 4 (.tmp 3)), .z 25 (.load 1 false (.tmp 24)), .z 26 (.call 55 [.tmp 21, .tmp 23, .tmp 25] 0), .q 12 (.mv (.tmp 26)), .q 27 (.ext 0 (.tmp 12)), .q 28 (.ext 1 (.tmp 12)), .q 29 (.ext 2 (.tmp 12)), .z 5 (.alloci 47 0 [.int .i64 0, .nilsl, .nilsl]), .z 6 (.alloci 53 1 [.int .i64 0, .int .i64 0, .int .i64 0, .str ⟨#[]⟩, .nilsl]), .s (.store 3 (.tmp 5) (.tmp 27)), .s (.store 5 (.tmp 6) (.tmp 28)), .q 7 (.mv (.tmp 29))]) (.seq (.seq (.reg none [.q 30 (.mv (.tmp 7)), .q 31 (.bin .neq (.tmp 30) (.val (.int .i64 0)))]) (.cond (.tmp 31) (.seq (.reg none [.q 32 (.mv (.tmp 7)), .q 4 (.mv (.tmp 32))]) .ret) .skip)) (.seq (.reg (some []) [.q 33 (.mv (.tmp 0)), .z 34 (.nilchk (.tmp 33)), .z 35 (.addr 0 (.tmp 34)), .z 36 (.addr 0 (.tmp 35)), .z 37 (.load 1 false (.tmp 36)), .z 38 (.addr 1 (.tmp 3)), .z 39 (.load 1 false (.tmp 38)), .z 40 (.load 3 true (.tmp 5)), .q 41 (.iaddrS 3 (.tmp 37) (.tmp 39)), .s (.store 3 (.tmp 41) (.tmp 40))]) (.seq (.reg none [.q 42 (.mv (.tmp 0)), .q 43 (.addr 1 (.tmp 3)), .q 44 (.load 1 false (.tmp 43)), .q 45 (.bin .sub (.val (.int .i64 1)) (.tmp 44)), .q 46 (.load 5 true (.tmp 6)), .q 47 (.call 56 [.tmp 42, .tmp 45, .tmp 46] 0)]) (.seq (.reg none [.q 4 (.mv (.val (.int .i64 0)))]) .ret))))) (.seq (.reg none [.q 49 (.bin .eql (.tmp 9) (.val (.int .i64 5))), .q 48 (.mv (.tmp 49))]) (.cond (.tmp 48) (.seq (.reg none [.q 50 (.mv (.tmp 0)), .q 51 (.addr 1 (.tmp 3)), .q 52 (.load 1 false (.tmp 51)), .q 53 (.call 17 [.tmp 50, .tmp 52] 0), .q 4 (.mv (.tmp 53))]) .ret) .skip)))))) (.seq (.seq (.reg (some []) [.q 54 (.addr 2 (.tmp 3)), .q 55 (.load 1 false (.tmp 54)), .q 56 (.bin .lss (.tmp 55) (.val (.int .i64 0))), .q 57 (.mv (.tmp 56)), .y 58 (.addr 2 (.tmp 3)) 57 false, .y 59 (.load 1 false (.tmp 58)) 57 false, .g 60 (.mv (.tmp 0)) 57 false, .y 61 (.nilchk (.tmp 60)) 57 false, .y 62 (.addr 0 (.tmp 61)) 57 false, .y 63 (.addr 1 (.tmp 62)) 57 false, .y 64 (.load 1 false (.tmp 63)) 57 false, .y 65 (.addr 1 (.tmp 3)) 57 false, .y 66 (.load 1 false (.tmp 65)) 57 false, .y 67 (.iaddrS 1 (.tmp 64) (.tmp 66)) 57 false, .y 68 (.load 1 false (.tmp 67)) 57 false, .y 69 (.len false (.tmp 68)) 57 false, .g 70 (.bin .geq (.tmp 59) (.tmp 69)) 57 false, .q 71 (.pick (.tmp 57) (.val (.bool true)) (.tmp 70))]) (.cond (.tmp 71) (.seq (.reg none [.q 4 (.mv (.val (.int .i64 5)))]) .ret) .skip)) (.seq (.seq (.reg none [.q 72 (.addr 0 (.tmp 3)), .q 73 (.load 1 false (.tmp 72))]) (.block 1 (.seq (.reg none [.q 75 (.bin .eql (.tmp 73) (.val (.int .i64 2))), .q 74 (.mv (.tmp 75))]) (.cond (.tmp 74) (.seq (.reg (some [(1, 8), (2, 8)]) [.q 76 (.mv (.tmp 0)), .z 77 (.addr 1 (.tmp 3)), .z 78 (.load 1 false (.tmp 77)), .q 79 (.mv (.tmp 0)), .z 80 (.addr 1 (.tmp 3)), .z 81 (.load 1 false (.tmp 80)), .z 82 (.addr 2 (.tmp 3)), .z 83 (.load 1 false (.tmp 82)), .z 84 (.call 57 [.tmp 79, .tmp 81, .tmp 83] 3), .q 85 (.call 38 [.tmp 76, .tmp 78, .tmp 84] 0), .q 4 (.mv (.tmp 85))]) .ret) (.seq (.reg none [.q 87 (.bin .eql (.tmp 73) (.val (.int .i64 3))), .q 86 (.mv (.tmp 87))]) (.cond (.tmp 86) (.reg none [.q 88 (.mv (.tmp 0)), .q 89 (.addr 1 (.tmp 3)), .q 90 (.load 1 false (.tmp 89)), .q 91 (.addr 2 (.tmp 3)), .q 92 (.load 1 false (.tmp 91)), .q 93 (.call 57 [.tmp 88, .tmp 90, .tmp 92] 3)]) (.seq (.reg none [.q 95 (.bin .eql (.tmp 73) (.val (.int .i64 4))), .q 94 (.mv (.tmp 95))]) (.cond (.tmp 94) (.seq (.reg (some []) [.q 96 (.mv (.tmp 0)), .z 97 (.addr 1 (.tmp 3)), .z 98 (.load 1 false (.tmp 97)), .q 99 (.mv (.tmp 0)), .z 100 (.nilchk (.tmp 99)), .z 101 (.addr 0 (.tmp 100)), .z 102 (.addr 1 (.tmp 101)), .z 103 (.load 1 false (.tmp 102)), .z 104 (.addr 1 (.tmp 3)), .z 105 (.load 1 false (.tmp 104)), .z 106 (.iaddrS 1 (.tmp 103) (.tmp 105)), .z 107 (.load 1 false (.tmp 106)), .z 108 (.addr 2 (.tmp 3)), .z 109 (.load 1 false (.tmp 108)), .z 110 (.iaddrS 5 (.tmp 107) (.tmp 109)), .z 111 (.load 5 true (.tmp 110)), .q 112 (.call 56 [.tmp 96, .tmp 98, .tmp 111] 0), .q 113 (.not (.tmp 112))]) (.cond (.tmp 113) (.seq (.reg none [.q 4 (.mv (.val (.int .i64 2)))]) .ret) .skip)) .skip)))))))) (.seq (.reg none [.q 4 (.mv (.val (.int .i64 0)))]) .ret)))))
def R35 : List LRes := [.tmp 4]
theorem low35 : Tryz.f35.body.bind (lowerCode Tryz.prog 114) = some L35 := by kernel_rfl
theorem res35 : lowerRes Tryz.prog Tryz.f35.results.toList = some R35 := by kernel_rfl
set_option maxRecDepth 100000 in
def L36 : LC := (.seq (.reg none [.q 1 (.box (.tmp 0)), .q 2 (.alloc [.int .i64 0, .nilsl, .nilsl])]) (.seq (.reg (some [(0, 4), (1, 4), (4, 5), (4, 6), (0, 7), (1, 7)]) [.z 3 (.addr 0 (.tmp 1)), .z 4 (.load 1 false (.tmp 3)), .z 5 (.addr 1 (.tmp 1)), .z 6 (.load 1 false (.tmp 5)), .z 7 (.call 58 [.tmp 6] 2), .z 8 (.addr 2 (.tmp 1)), .z 9 (.load 1 false (.tmp 8)), .z 10 (.call 58 [.tmp 9] 2), .q 11 (.build [.int .i64 0, .nilsl, .nilsl] [(0, (1, (.tmp 4))), (1, (1, (.tmp 7))), (2, (1, (.tmp 10)))]), .s (.store 3 (.tmp 2) (.tmp 11))]) .ret))
def R36 : List LRes := [(.cell 2 3 true)]
theorem low36 : Tryz.f36.body.bind (lowerCode Tryz.prog 12) = some L36 := by kernel_rfl
theorem res36 : lowerRes Tryz.prog Tryz.f36.results.toList = some R36 := by kernel_rfl
set_option maxRecDepth 100000 in
def L37 : LC := (.seq (.reg none [.q 1 (.box (.tmp 0)), .q 2 (.alloc [.int .i64 0, .int .i64 0, .int .i64 0, .str ⟨#[]⟩, .nilsl])]) (.seq (.reg none [.q 3 (.addr 4 (.tmp 1)), .q 4 (.load 1 false (.tmp 3)), .q 5 (.call 59 [.tmp 4] 0), .q 6 (.addr 4 (.tmp 1)), .s (.store 1 (.tmp 6) (.tmp 5))]) (.seq (.reg none [.q 7 (.load 5 true (.tmp 1)), .s (.store 5 (.tmp 2) (.tmp 7))]) .ret)))
def R37 : List LRes := [(.cell 2 5 true)]
theorem low37 : Tryz.f37.body.bind (lowerCode Tryz.prog 8) = some L37 := by kernel_rfl
theorem res37 : lowerRes Tryz.prog Tryz.f37.results.toList = some R37 := by kernel_rfl
set_option maxRecDepth 100000 in
def L38 : LC := (.seq (.reg none [.q 5 (.box (.tmp 2)), .q 6 (.mv (.val (.int .i64 0)))]) (.seq (.reg (some [(1, 13), (2, 13), (3, 13), (4, 13), (6, 13), (7, 13), (8, 13), (9, 13)]) [.q 10 (.mv (.tmp 0)), .z 11 (.nilchk (.tmp 10)), .z 12 (.addr 0 (.tmp 11)), .z 13 (.addr 0 (.tmp 12)), .z 14 (.load 1 false (.tmp 13)), .q 15 (.mv (.tmp 1)), .z 16 (.iaddrS 3 (.tmp 14) (.tmp 15)), .z 17 (.load 3 true (.tmp 16)), .z 18 (.load 5 true (.tmp 5)), .z 19 (.call 60 [.tmp 17, .tmp 18] 0), .q 9 (.mv (.tmp 19)), .q 20 (.ext 0 (.tmp 9)), .q 21 (.ext 1 (.tmp 9)), .z 7 (.alloc [.int .i64 0, .nilsl, .nilsl]), .s (.store 3 (.tmp 7) (.tmp 20)), .q 8 (.mv (.tmp 21))]) (.seq (.seq (.reg none [.q 22 (.mv (.tmp 8)), .q 23 (.bin .eql (.tmp 22) (.val (.int .i64 0)))]) (.cond (.tmp 23) (.reg (some []) [.q 24 (.mv (.tmp 0)), .z 25 (.nilchk (.tmp 24)), .z 26 (.addr 0 (.tmp 25)), .z 27 (.addr 0 (.tmp 26)), .z 28 (.load 1 false (.tmp 27)), .q 29 (.mv (.tmp 1)), .z 30 (.load 3 true (.tmp 7)), .q 31 (.iaddrS 3 (.tmp 28) (.tmp 29)), .s (.store 3 (.tmp 31) (.tmp 30))]) .skip)) (.seq (.reg none [.q 32 (.mv (.tmp 8)), .q 6 (.mv (.tmp 32))]) .ret))))
def R38 : List LRes := [.tmp 6]
theorem low38 : Tryz.f38.body.bind (lowerCode Tryz.prog 33) = some L38 := by kernel_rfl
theorem res38 : lowerRes Tryz.prog Tryz.f38.results.toList = some R38 := by kernel_rfl
set_option maxRecDepth 100000 in
def L39 : LC := (.seq (.reg none [.q 2 (.mv (.val (.int .i64 0)))]) (.seq (.seq (.reg none [.q 6 (.mv (.tmp 0)), .q 7 (.len false (.tmp 6)), .q 8 (.bin .gtr (.tmp 7) (.val (.int .i64 40)))]) (.cond (.tmp 8) (.seq (.reg none [.q 2 (.mv (.val (.int .i64 2)))]) .ret) .skip)) (.seq (.seq (.reg none [.q 3 (.mv (.val (.int .i64 0)))]) (.block 0 (.loop (.seq (.seq (.reg none [.q 9 (.mv (.tmp 3)), .q 10 (.mv (.tmp 0)), .q 11 (.len false (.tmp 10)), .q 12 (.bin .lss (.tmp 9) (.tmp 11))]) (.cond (.tmp 12) .skip (.exit 0))) (.seq (.block 1 (.seq (.reg none [.q 15 (.mv (.tmp 0)), .q 16 (.mv (.tmp 3)), .q 17 (.iaddrS 5 (.tmp 15) (.tmp 16)), .q 18 (.load 5 true (.tmp 17)), .q 19 (.call 19 [.tmp 18] 0), .q 4 (.mv (.tmp 19))]) (.seq (.seq (.reg none [.q 20 (.mv (.tmp 4)), .q 21 (.bin .neq (.tmp 20) (.val (.int .i64 0)))]) (.cond (.tmp 21) (.seq (.reg none [.q 22 (.mv (.tmp 4)), .q 2 (.mv (.tmp 22))]) .ret) .skip)) (.seq (.seq (.reg (some []) [.q 23 (.mv (.tmp 0)), .q 24 (.mv (.tmp 3)), .z 25 (.slc 5 (.tmp 23) none (some (.tmp 24))), .q 26 (.mv (.tmp 0)), .q 27 (.mv (.tmp 3)), .z 28 (.iaddrS 5 (.tmp 26) (.tmp 27)), .z 29 (.addr 0 (.tmp 28)), .z 30 (.load 2 true (.tmp 29)), .q 31 (.call 41 [.tmp 25, .tmp 30] 0), .q 32 (.bin .geq (.tmp 31) (.val (.int .i64 0)))]) (.cond (.tmp 32) (.seq (.reg none [.q 2 (.mv (.val (.int .i64 6)))]) .ret) .skip)) (.seq (.seq (.reg (some []) [.q 33 (.mv (.tmp 0)), .q 34 (.mv (.tmp 3)), .z 35 (.slc 5 (.tmp 33) none (some (.tmp 34))), .z 36 (.call 45 [.tmp 35] 0), .q 37 (.mv (.tmp 0)), .q 38 (.mv (.tmp 3)), .z 39 (.iaddrS 5 (.tmp 37) (.tmp 38)), .z 40 (.addr 0 (.tmp 39)), .z 41 (.addr 0 (.tmp 40)), .z 42 (.load 1 false (.tmp 41)), .q 43 (.idxA 1 2 false (.tmp 36) (.tmp 42)), .q 44 (.bin .add (.tmp 43) (.val (.int .i64 1))), .q 45 (.mv (.tmp 0)), .q 46 (.mv (.tmp 3)), .z 47 (.iaddrS 5 (.tmp 45) (.tmp 46)), .z 48 (.addr 0 (.tmp 47)), .z 49 (.addr 1 (.tmp 48)), .z 50 (.load 1 false (.tmp 49)), .q 51 (.bin .neq (.tmp 44) (.tmp 50))]) (.cond (.tmp 51) (.seq (.reg none [.q 2 (.mv (.val (.int .i64 4)))]) .ret) .skip)) (.seq (.reg none [.q 5 (.mv (.val (.int .i64 0)))]) (.block 2 (.loop (.seq (.seq (.reg none [.q 52 (.mv (.tmp 5)), .q 53 (.mv (.tmp 0)), .q 54 (.mv (.tmp 3)), .q 55 (.iaddrS 5 (.tmp 53) (.tmp 54)), .q 56 (.addr 4 (.tmp 55)), .q 57 (.load 1 false (.tmp 56)), .q 58 (.len false (.tmp 57)), .q 59 (.bin .lss (.tmp 52) (.tmp 58))]) (.cond (.tmp 59) .skip (.exit 2))) (.seq (.block 3 (.seq (.reg (some []) [.q 62 (.mv (.tmp 0)), .q 63 (.mv (.tmp 3)), .z 64 (.slc 5 (.tmp 62) none (some (.tmp 63))), .q 65 (.mv (.tmp 0)), .q 66 (.mv (.tmp 3)), .z 67 (.iaddrS 5 (.tmp 65) (.tmp 66)), .z 68 (.addr 4 (.tmp 67)), .z 69 (.load 1 false (.tmp 68)), .q 70 (.mv (.tmp 5)), .z 71 (.iaddrS 2 (.tmp 69) (.tmp 70)), .z 72 (.load 2 true (.tmp 71)), .q 73 (.call 41 [.tmp 64, .tmp 72] 0), .q 74 (.bin .lss (.tmp 73) (.val (.int .i64 0)))]) (.cond (.tmp 74) (.seq (.reg none [.q 2 (.mv (.val (.int .i64 5)))]) .ret) .skip))) (.reg none [.q 60 (.mv (.tmp 5)), .q 61 (.bin .add (.tmp 60) (.val (.int .i64 1))), .q 5 (.mv (.tmp 61))]))))))))))) (.reg none [.q 13 (.mv (.tmp 3)), .q 14 (.bin .add (.tmp 13) (.val (.int .i64 1))), .q 3 (.mv (.tmp 14))])))))) (.seq (.reg none [.q 2 (.mv (.val (.int .i64 0)))]) .ret))))
def R39 : List LRes := [.tmp 2]
theorem low39 : Tryz.f39.body.bind (lowerCode Tryz.prog 75) = some L39 := by kernel_rfl
theorem res39 : lowerRes Tryz.prog Tryz.f39.results.toList = some R39 := by kernel_rfl
set_option maxRecDepth 100000 in
def L40 : LC := (.seq (.reg none [.q 2 (.box (.tmp 0)), .q 3 (.box (.tmp 1)), .q 4 (.mv (.val (.bool false)))]) (.seq (.reg none [.q 5 (.addr 0 (.tmp 2)), .q 6 (.load 1 false (.tmp 5)), .q 7 (.addr 0 (.tmp 3)), .q 8 (.load 1 false (.tmp 7)), .q 9 (.bin .lss (.tmp 6) (.tmp 8)), .q 10 (.mv (.tmp 9)), .g 11 (.addr 0 (.tmp 2)) 10 false, .g 12 (.load 1 false (.tmp 11)) 10 false, .g 13 (.addr 0 (.tmp 3)) 10 false, .g 14 (.load 1 false (.tmp 13)) 10 false, .g 15 (.bin .eql (.tmp 12) (.tmp 14)) 10 false, .g 16 (.mv (.tmp 15)) 10 false, .g 17 (.addr 1 (.tmp 2)) 16 true, .g 18 (.load 1 false (.tmp 17)) 16 true, .g 19 (.addr 1 (.tmp 3)) 16 true, .g 20 (.load 1 false (.tmp 19)) 16 true, .g 21 (.bin .lss (.tmp 18) (.tmp 20)) 16 true, .g 22 (.pick (.tmp 16) (.tmp 21) (.val (.bool false))) 10 false, .q 23 (.pick (.tmp 10) (.val (.bool true)) (.tmp 22)), .q 4 (.mv (.tmp 23))]) .ret))
def R40 : List LRes := [.tmp 4]
theorem low40 : Tryz.f40.body.bind (lowerCode Tryz.prog 24) = some L40 := by kernel_rfl
theorem res40 : lowerRes Tryz.prog Tryz.f40.results.toList = some R40 := by kernel_rfl
set_option maxRecDepth 100000 in
def L41 : LC := (.seq (.reg none [.q 3 (.box (.tmp 1)), .q 4 (.mv (.val (.int .i64 0)))]) (.seq (.seq (.reg none [.q 5 (.mv (.val (.int .i64 0)))]) (.block 0 (.loop (.seq (.seq (.reg none [.q 6 (.mv (.tmp 5)), .q 7 (.mv (.tmp 0)), .q 8 (.len false (.tmp 7)), .q 9 (.bin .lss (.tmp 6) (.tmp 8))]) (.cond (.tmp 9) .skip (.exit 0))) (.seq (.block 1 (.seq (.reg (some []) [.q 12 (.mv (.tmp 0)), .q 13 (.mv (.tmp 5)), .z 14 (.iaddrS 5 (.tmp 12) (.tmp 13)), .z 15 (.addr 0 (.tmp 14)), .z 16 (.load 2 true (.tmp 15)), .z 17 (.load 2 true (.tmp 3)), .q 18 (.eqag false [.i, .i] (.tmp 16) (.tmp 17))]) (.cond (.tmp 18) (.seq (.reg none [.q 19 (.mv (.tmp 5)), .q 4 (.mv (.tmp 19))]) .ret) .skip))) (.reg none [.q 10 (.mv (.tmp 5)), .q 11 (.bin .add (.tmp 10) (.val (.int .i64 1))), .q 5 (.mv (.tmp 11))])))))) (.seq (.reg none [.q 4 (.mv (.val (.int .i64 (-1))))]) .ret)))
def R41 : List LRes := [.tmp 4]
theorem low41 : Tryz.f41.body.bind (lowerCode Tryz.prog 20) = some L41 := by kernel_rfl
theorem res41 : lowerRes Tryz.prog Tryz.f41.results.toList = some R41 := by kernel_rfl
set_option maxRecDepth 100000 in
def L42 : LC := (.seq (.reg none [.q 3 (.box (.tmp 1)), .q 4 (.mv (.val (.bool false)))]) (.seq (.seq (.reg none [.q 5 (.mv (.val (.int .i64 0)))]) (.block 0 (.loop (.seq (.seq (.reg none [.q 6 (.mv (.tmp 5)), .q 7 (.addr 4 (.tmp 3)), .q 8 (.load 1 false (.tmp 7)), .q 9 (.len false (.tmp 8)), .q 10 (.bin .lss (.tmp 6) (.tmp 9))]) (.cond (.tmp 10) .skip (.exit 0))) (.seq (.block 1 (.seq (.reg none [.q 13 (.mv (.tmp 0)), .q 14 (.addr 4 (.tmp 3)), .q 15 (.load 1 false (.tmp 14)), .q 16 (.mv (.tmp 5)), .q 17 (.iaddrS 2 (.tmp 15) (.tmp 16)), .q 18 (.load 2 true (.tmp 17)), .q 19 (.call 41 [.tmp 13, .tmp 18] 0), .q 20 (.bin .lss (.tmp 19) (.val (.int .i64 0)))]) (.cond (.tmp 20) (.seq (.reg none [.q 4 (.mv (.val (.bool false)))]) .ret) .skip))) (.reg none [.q 11 (.mv (.tmp 5)), .q 12 (.bin .add (.tmp 11) (.val (.int .i64 1))), .q 5 (.mv (.tmp 12))])))))) (.seq (.reg (some []) [.q 21 (.mv (.tmp 0)), .z 22 (.call 45 [.tmp 21] 0), .z 23 (.addr 0 (.tmp 3)), .z 24 (.addr 0 (.tmp 23)), .z 25 (.load 1 false (.tmp 24)), .q 26 (.idxA 1 2 false (.tmp 22) (.tmp 25)), .q 27 (.bin .add (.tmp 26) (.val (.int .i64 1))), .z 28 (.addr 0 (.tmp 3)), .z 29 (.addr 1 (.tmp 28)), .z 30 (.load 1 false (.tmp 29)), .q 31 (.bin .eql (.tmp 27) (.tmp 30)), .q 4 (.mv (.tmp 31))]) .ret)))
def R42 : List LRes := [.tmp 4]
theorem low42 : Tryz.f42.body.bind (lowerCode Tryz.prog 32) = some L42 := by kernel_rfl
theorem res42 : lowerRes Tryz.prog Tryz.f42.results.toList = some R42 := by kernel_rfl
set_option maxRecDepth 100000 in
def L43 : LC := (.seq (.reg none [.q 1 (.box (.tmp 0)), .q 2 (.mv (.val (.bool false)))]) (.seq (.reg none [.q 3 (.addr 0 (.tmp 1)), .q 4 (.load 1 false (.tmp 3)), .q 5 (.call 21 [.tmp 4, .val (.int .i64 0), .val (.int .i64 1)] 0), .q 6 (.mv (.tmp 5)), .g 7 (.addr 1 (.tmp 1)) 6 true, .g 8 (.load 1 false (.tmp 7)) 6 true, .g 9 (.call 21 [.tmp 8, .val (.int .i64 1), .val (.int .i64 20)] 0) 6 true, .q 10 (.pick (.tmp 6) (.tmp 9) (.val (.bool false))), .q 2 (.mv (.tmp 10))]) .ret))
def R43 : List LRes := [.tmp 2]
theorem low43 : Tryz.f43.body.bind (lowerCode Tryz.prog 11) = some L43 := by kernel_rfl
theorem res43 : lowerRes Tryz.prog Tryz.f43.results.toList = some R43 := by kernel_rfl
set_option maxRecDepth 100000 in
def L44 : LC := (.seq (.reg none [.q 2 (.box (.tmp 0)), .q 3 (.box (.tmp 1)), .q 4 (.mv (.val (.bool false)))]) (.seq (.reg none [.q 5 (.addr 0 (.tmp 2)), .q 6 (.load 2 true (.tmp 5)), .q 7 (.addr 0 (.tmp 3)), .q 8 (.load 2 true (.tmp 7)), .q 9 (.eqag false [.i, .i] (.tmp 6) (.tmp 8)), .q 10 (.mv (.tmp 9)), .g 11 (.addr 2 (.tmp 2)) 10 true, .g 12 (.load 1 false (.tmp 11)) 10 true, .g 13 (.addr 2 (.tmp 3)) 10 true, .g 14 (.load 1 false (.tmp 13)) 10 true, .g 15 (.bin .eql (.tmp 12) (.tmp 14)) 10 true, .q 16 (.pick (.tmp 10) (.tmp 15) (.val (.bool false))), .q 17 (.mv (.tmp 16)), .g 18 (.addr 3 (.tmp 2)) 17 true, .g 19 (.load 1 false (.tmp 18)) 17 true, .g 20 (.addr 3 (.tmp 3)) 17 true, .g 21 (.load 1 false (.tmp 20)) 17 true, .g 22 (.bin .eql (.tmp 19) (.tmp 21)) 17 true, .q 23 (.pick (.tmp 17) (.tmp 22) (.val (.bool false))), .q 24 (.mv (.tmp 23)), .g 25 (.addr 4 (.tmp 2)) 24 true, .g 26 (.load 1 false (.tmp 25)) 24 true, .g 27 (.addr 4 (.tmp 3)) 24 true, .g 28 (.load 1 false (.tmp 27)) 24 true, .g 29 (.call 61 [.tmp 26, .tmp 28] 0) 24 true, .q 30 (.pick (.tmp 24) (.tmp 29) (.val (.bool false))), .q 4 (.mv (.tmp 30))]) .ret))
def R44 : List LRes := [.tmp 4]
theorem low44 : Tryz.f44.body.bind (lowerCode Tryz.prog 31) = some L44 := by kernel_rfl
theorem res44 : lowerRes Tryz.prog Tryz.f44.results.toList = some R44 := by kernel_rfl
set_option maxRecDepth 100000 in
def L45 : LC := (.seq (.reg none [.q 2 (.alloc [.int .i64 0, .int .i64 0])]) (.seq (.reg none [.q 3 (.alloc [.int .i64 0, .int .i64 0])]) (.seq (.seq (.reg none [.q 4 (.mv (.val (.int .i64 0)))]) (.block 0 (.loop (.seq (.seq (.reg none [.q 5 (.mv (.tmp 4)), .q 6 (.mv (.tmp 0)), .q 7 (.len false (.tmp 6)), .q 8 (.bin .lss (.tmp 5) (.tmp 7))]) (.cond (.tmp 8) .skip (.exit 0))) (.seq (.block 1 (.seq (.reg none [.q 11 (.mv (.tmp 0)), .q 12 (.mv (.tmp 4)), .q 13 (.iaddrS 5 (.tmp 11) (.tmp 12)), .q 14 (.addr 0 (.tmp 13)), .q 15 (.addr 0 (.tmp 14)), .q 16 (.load 1 false (.tmp 15)), .q 17 (.bin .eql (.tmp 16) (.val (.int .i64 0)))]) (.cond (.tmp 17) (.reg none [.q 18 (.iaddrA 1 2 (.tmp 3) (.val (.int .i64 0))), .q 19 (.load 1 false (.tmp 18)), .q 20 (.bin .add (.tmp 19) (.val (.int .i64 1))), .q 21 (.iaddrA 1 2 (.tmp 3) (.val (.int .i64 0))), .s (.store 1 (.tmp 21) (.tmp 20))]) (.reg none [.q 22 (.iaddrA 1 2 (.tmp 3) (.val (.int .i64 1))), .q 23 (.load 1 false (.tmp 22)), .q 24 (.bin .add (.tmp 23) (.val (.int .i64 1))), .q 25 (.iaddrA 1 2 (.tmp 3) (.val (.int .i64 1))), .s (.store 1 (.tmp 25) (.tmp 24))])))) (.reg none [.q 9 (.mv (.tmp 4)), .q 10 (.bin .add (.tmp 9) (.val (.int .i64 1))), .q 4 (.mv (.tmp 10))])))))) (.seq (.reg none [.q 26 (.load 2 true (.tmp 3)), .s (.store 2 (.tmp 2) (.tmp 26))]) .ret))))
def R45 : List LRes := [(.cell 2 2 true)]
theorem low45 : Tryz.f45.body.bind (lowerCode Tryz.prog 27) = some L45 := by kernel_rfl
theorem res45 : lowerRes Tryz.prog Tryz.f45.results.toList = some R45 := by kernel_rfl
set_option maxRecDepth 100000 in
def L46 : LC := (.seq (.reg none [.q 4 (.mv (.val .nilsl))]) (.seq (.reg none [.q 10 (.mv (.tmp 0)), .q 11 (.len false (.tmp 10)), .q 12 (.mkn 4 1 1 [(.bool false)] (.tmp 11) (.tmp 11)), .q 5 (.mv (.tmp 12))]) (.seq (.seq (.reg none [.q 6 (.mv (.val (.int .i64 0)))]) (.block 0 (.loop (.seq (.seq (.reg none [.q 13 (.mv (.tmp 6)), .q 14 (.mv (.tmp 0)), .q 15 (.len false (.tmp 14)), .q 16 (.bin .lss (.tmp 13) (.tmp 15))]) (.cond (.tmp 16) .skip (.exit 0))) (.seq (.block 1 (.reg none [.q 19 (.mv (.tmp 5)), .q 20 (.mv (.tmp 6)), .q 21 (.mv (.tmp 0)), .q 22 (.mv (.tmp 6)), .q 23 (.iaddrS 5 (.tmp 21) (.tmp 22)), .q 24 (.addr 2 (.tmp 23)), .q 25 (.load 1 false (.tmp 24)), .q 26 (.mv (.tmp 1)), .q 27 (.call 62 [.tmp 25, .tmp 26] 0), .q 28 (.iaddrS 1 (.tmp 19) (.tmp 20)), .s (.store 1 (.tmp 28) (.tmp 27))])) (.reg none [.q 17 (.mv (.tmp 6)), .q 18 (.bin .add (.tmp 17) (.val (.int .i64 1))), .q 6 (.mv (.tmp 18))])))))) (.seq (.seq (.reg none [.q 7 (.mv (.val (.int .i64 0)))]) (.block 2 (.loop (.seq (.seq (.reg none [.q 29 (.mv (.tmp 7)), .q 30 (.mv (.tmp 0)), .q 31 (.len false (.tmp 30)), .q 32 (.bin .lss (.tmp 29) (.tmp 31))]) (.cond (.tmp 32) .skip (.exit 2))) (.seq (.block 3 (.seq (.reg none [.q 35 (.mv (.tmp 0)), .q 36 (.mv (.tmp 7)), .q 37 (.iaddrS 5 (.tmp 35) (.tmp 36)), .q 38 (.addr 2 (.tmp 37)), .q 39 (.load 1 false (.tmp 38)), .q 40 (.mv (.tmp 1)), .q 41 (.call 62 [.tmp 39, .tmp 40] 0)]) (.cond (.tmp 41) (.seq (.reg none [.q 42 (.mv (.tmp 0)), .q 43 (.mv (.tmp 7)), .q 44 (.call 63 [.tmp 42, .tmp 43] 0), .q 8 (.mv (.tmp 44))]) (.seq (.reg none [.q 9 (.mv (.val (.int .i64 0)))]) (.block 4 (.loop (.seq (.seq (.reg none [.q 45 (.mv (.tmp 9)), .q 46 (.mv (.tmp 0)), .q 47 (.len false (.tmp 46)), .q 48 (.bin .lss (.tmp 45) (.tmp 47))]) (.cond (.tmp 48) .skip (.exit 4))) (.seq (.block 5 (.reg none [.q 51 (.mv (.tmp 5)), .q 52 (.mv (.tmp 9)), .q 53 (.mv (.tmp 5)), .q 54 (.mv (.tmp 9)), .q 55 (.iaddrS 1 (.tmp 53) (.tmp 54)), .q 56 (.load 1 false (.tmp 55)), .q 57 (.mv (.tmp 56)), .g 58 (.mv (.tmp 8)) 57 true, .g 59 (.mv (.tmp 9)) 57 true, .g 60 (.iaddrS 1 (.tmp 58) (.tmp 59)) 57 true, .g 61 (.load 1 false (.tmp 60)) 57 true, .g 62 (.not (.tmp 61)) 57 true, .q 63 (.pick (.tmp 57) (.tmp 62) (.val (.bool false))), .q 64 (.iaddrS 1 (.tmp 51) (.tmp 52)), .s (.store 1 (.tmp 64) (.tmp 63))])) (.reg none [.q 49 (.mv (.tmp 9)), .q 50 (.bin .add (.tmp 49) (.val (.int .i64 1))), .q 9 (.mv (.tmp 50))]))))))) .skip))) (.reg none [.q 33 (.mv (.tmp 7)), .q 34 (.bin .add (.tmp 33) (.val (.int .i64 1))), .q 7 (.mv (.tmp 34))])))))) (.seq (.reg none [.q 65 (.mv (.tmp 0)), .q 66 (.mv (.tmp 5)), .q 67 (.call 64 [.tmp 65, .tmp 66] 0), .q 4 (.mv (.tmp 67))]) .ret)))))
def R46 : List LRes := [.tmp 4]
theorem low46 : Tryz.f46.body.bind (lowerCode Tryz.prog 68) = some L46 := by kernel_rfl
theorem res46 : lowerRes Tryz.prog Tryz.f46.results.toList = some R46 := by kernel_rfl
set_option maxRecDepth 100000 in
def L47 : LC := (.seq (.reg none [.q 1 (.box (.tmp 0)), .q 2 (.alloc [.int .i64 0, .nilsl, .nilsl])]) (.seq (.seq (.reg none [.q 3 (.mv (.val (.int .i64 0)))]) (.block 0 (.loop (.seq (.seq (.reg none [.q 5 (.mv (.tmp 3)), .q 6 (.addr 2 (.tmp 1)), .q 7 (.load 1 false (.tmp 6)), .q 8 (.len false (.tmp 7)), .q 9 (.bin .lss (.tmp 5) (.tmp 8))]) (.cond (.tmp 9) .skip (.exit 0))) (.seq (.block 1 (.seq (.reg (some []) [.z 12 (.addr 1 (.tmp 1)), .z 13 (.load 1 false (.tmp 12)), .z 14 (.addr 2 (.tmp 1)), .z 15 (.load 1 false (.tmp 14)), .q 16 (.mv (.tmp 3)), .z 17 (.iaddrS 5 (.tmp 15) (.tmp 16)), .z 18 (.load 5 true (.tmp 17)), .q 19 (.call 42 [.tmp 13, .tmp 18] 0)]) (.cond (.tmp 19) (.seq (.reg none [.q 20 (.addr 0 (.tmp 1)), .q 21 (.load 1 false (.tmp 20)), .q 22 (.build [.int .i64 0, .nilsl, .nilsl] [(0, (1, (.tmp 21)))]), .q 4 (.alloc [.int .i64 0, .nilsl, .nilsl]), .s (.store 3 (.tmp 4) (.tmp 22))]) (.seq (.reg (some [(0, 1), (0, 2), (0, 4), (3, 4), (0, 5), (3, 5), (0, 7), (3, 7), (0, 8), (3, 8)]) [.z 23 (.mk0 53 5), .z 24 (.addr 1 (.tmp 1)), .z 25 (.load 1 false (.tmp 24)), .z 26 (.append 53 5 64 (.tmp 23) (.tmp 25)), .z 27 (.addr 2 (.tmp 1)), .z 28 (.load 1 false (.tmp 27)), .q 29 (.mv (.tmp 3)), .z 30 (.iaddrS 5 (.tmp 28) (.tmp 29)), .z 31 (.load 5 true (.tmp 30)), .q 32 (.mks 5 [.int .i64 0, .int .i64 0, .int .i64 0, .str ⟨#[]⟩, .nilsl] 1 [(0, (.tmp 31))]), .q 33 (.append 53 5 64 (.tmp 26) (.tmp 32)), .q 34 (.addr 1 (.tmp 4)), .s (.store 1 (.tmp 34) (.tmp 33))]) (.seq (.reg (some [(0, 1), (0, 2), (0, 4), (0, 6), (5, 6), (0, 7), (5, 7), (0, 10), (5, 10)]) [.z 35 (.mk0 53 5), .z 36 (.addr 2 (.tmp 1)), .z 37 (.load 1 false (.tmp 36)), .q 38 (.mv (.tmp 3)), .z 39 (.slc 5 (.tmp 37) none (some (.tmp 38))), .z 40 (.append 53 5 64 (.tmp 35) (.tmp 39)), .z 41 (.addr 2 (.tmp 1)), .z 42 (.load 1 false (.tmp 41)), .q 43 (.mv (.tmp 3)), .q 44 (.bin .add (.tmp 43) (.val (.int .i64 1))), .z 45 (.slc 5 (.tmp 42) (some (.tmp 44)) none), .q 46 (.append 53 5 64 (.tmp 40) (.tmp 45)), .q 47 (.addr 2 (.tmp 4)), .s (.store 1 (.tmp 47) (.tmp 46))]) (.seq (.reg none [.q 48 (.load 3 true (.tmp 4)), .q 49 (.call 47 [.tmp 48] 0), .s (.store 3 (.tmp 2) (.tmp 49))]) .ret)))) .skip))) (.reg none [.q 10 (.mv (.tmp 3)), .q 11 (.bin .add (.tmp 10) (.val (.int .i64 1))), .q 3 (.mv (.tmp 11))])))))) (.seq (.reg none [.q 50 (.load 3 true (.tmp 1)), .s (.store 3 (.tmp 2) (.tmp 50))]) .ret)))
def R47 : List LRes := [(.cell 2 3 true)]
theorem low47 : Tryz.f47.body.bind (lowerCode Tryz.prog 51) = some L47 := by kernel_rfl
theorem res47 : lowerRes Tryz.prog Tryz.f47.results.toList = some R47 := by kernel_rfl
set_option maxRecDepth 100000 in
def L48 : LC := (.seq (.reg none [.q 2 (.mv (.val (.int .i64 0)))]) (.seq (.seq (.reg none [.q 6 (.mv (.tmp 0)), .q 7 (.len false (.tmp 6)), .q 8 (.bin .gtr (.tmp 7) (.val (.int .i64 40)))]) (.cond (.tmp 8) (.seq (.reg none [.q 2 (.mv (.val (.int .i64 2)))]) .ret) .skip)) (.seq (.seq (.reg none [.q 9 (.mv (.tmp 0)), .q 10 (.len false (.tmp 9)), .q 11 (.mv (.val (.int .i64 0)))]) (.block 0 (.loop (.seq (.reg none [.q 12 (.bin .lss (.tmp 11) (.tmp 10))]) (.seq (.cond (.tmp 12) .skip (.exit 0)) (.seq (.block 1 (.seq (.reg none [.q 13 (.mv (.tmp 11)), .q 14 (.iaddrS 5 (.tmp 9) (.tmp 11)), .q 15 (.load 5 true (.tmp 14)), .q 4 (.alloc [.int .i64 0, .int .i64 0, .int .i64 0, .str ⟨#[]⟩, .nilsl]), .q 3 (.mv (.tmp 13)), .s (.store 5 (.tmp 4) (.tmp 15))]) (.seq (.seq (.reg none [.q 16 (.load 5 true (.tmp 4)), .q 17 (.call 49 [.tmp 16] 0), .q 5 (.mv (.tmp 17))]) (.seq (.reg none [.q 18 (.mv (.tmp 5)), .q 19 (.bin .neq (.tmp 18) (.val (.int .i64 0)))]) (.cond (.tmp 19) (.seq (.reg none [.q 20 (.mv (.tmp 5)), .q 2 (.mv (.tmp 20))]) .ret) .skip))) (.block 2 (.seq (.reg (some []) [.q 22 (.mv (.tmp 0)), .q 23 (.mv (.tmp 3)), .z 24 (.slc 5 (.tmp 22) none (some (.tmp 23))), .z 25 (.addr 0 (.tmp 4)), .z 26 (.load 2 true (.tmp 25)), .q 27 (.call 51 [.tmp 24, .tmp 26] 0), .q 28 (.bin .geq (.tmp 27) (.val (.int .i64 0))), .q 21 (.mv (.tmp 28))]) (.cond (.tmp 21) (.seq (.reg none [.q 2 (.mv (.val (.int .i64 6)))]) .ret) (.seq (.reg (some []) [.q 30 (.mv (.tmp 0)), .q 31 (.mv (.tmp 3)), .z 32 (.slc 5 (.tmp 30) none (some (.tmp 31))), .z 33 (.call 65 [.tmp 32] 0), .z 34 (.addr 0 (.tmp 4)), .z 35 (.addr 0 (.tmp 34)), .z 36 (.load 1 false (.tmp 35)), .q 37 (.idxA 1 2 false (.tmp 33) (.tmp 36)), .q 38 (.bin .add (.tmp 37) (.val (.int .i64 1))), .z 39 (.addr 0 (.tmp 4)), .z 40 (.addr 1 (.tmp 39)), .z 41 (.load 1 false (.tmp 40)), .q 42 (.bin .neq (.tmp 38) (.tmp 41)), .q 29 (.mv (.tmp 42))]) (.cond (.tmp 29) (.seq (.reg none [.q 2 (.mv (.val (.int .i64 4)))]) .ret) (.seq (.reg (some []) [.q 44 (.mv (.tmp 0)), .q 45 (.mv (.tmp 3)), .z 46 (.slc 5 (.tmp 44) none (some (.tmp 45))), .z 47 (.load 5 true (.tmp 4)), .q 48 (.call 52 [.tmp 46, .tmp 47] 0), .q 49 (.not (.tmp 48)), .q 43 (.mv (.tmp 49))]) (.cond (.tmp 43) (.seq (.reg none [.q 2 (.mv (.val (.int .i64 5)))]) .ret) .skip)))))))))) (.reg none [.q 50 (.bin .add (.tmp 11) (.val (.int .i64 1))), .q 11 (.mv (.tmp 50))]))))))) (.seq (.reg none [.q 2 (.mv (.val (.int .i64 0)))]) .ret))))
def R48 : List LRes := [.tmp 2]
theorem low48 : Tryz.f48.body.bind (lowerCode Tryz.prog 51) = some L48 := by kernel_rfl
theorem res48 : lowerRes Tryz.prog Tryz.f48.results.toList = some R48 := by kernel_rfl
set_option maxRecDepth 100000 in
def L49 : LC := (.seq (.reg none [.q 1 (.box (.tmp 0)), .q 2 (.mv (.val (.int .i64 0)))]) (.seq (.block 0 (.seq (.reg none [.q 6 (.addr 0 (.tmp 1)), .q 7 (.load 2 true (.tmp 6)), .q 8 (.call 66 [.tmp 7] 0), .q 9 (.not (.tmp 8)), .q 10 (.mv (.tmp 9)), .g 11 (.addr 2 (.tmp 1)) 10 false, .g 12 (.load 1 false (.tmp 11)) 10 false, .g 13 (.call 67 [.tmp 12] 0) 10 false, .g 14 (.not (.tmp 13)) 10 false, .q 15 (.pick (.tmp 10) (.val (.bool true)) (.tmp 14)), .q 5 (.mv (.tmp 15))]) (.cond (.tmp 5) (.seq (.reg none [.q 2 (.mv (.val (.int .i64 3)))]) .ret) (.seq (.reg none [.q 17 (.addr 3 (.tmp 1)), .q 18 (.load 1 false (.tmp 17)), .q 19 (.len true (.tmp 18)), .q 20 (.bin .gtr (.tmp 19) (.val (.int .i64 12))), .q 21 (.mv (.tmp 20)), .g 22 (.addr 4 (.tmp 1)) 21 false, .g 23 (.load 1 false (.tmp 22)) 21 false, .g 24 (.len false (.tmp 23)) 21 false, .g 25 (.bin .gtr (.tmp 24) (.val (.int .i64 6))) 21 false, .q 26 (.pick (.tmp 21) (.val (.bool true)) (.tmp 25)), .q 16 (.mv (.tmp 26))]) (.cond (.tmp 16) (.seq (.reg none [.q 2 (.mv (.val (.int .i64 2)))]) .ret) .skip))))) (.seq (.seq (.reg none [.q 27 (.addr 4 (.tmp 1)), .q 28 (.load 1 false (.tmp 27)), .q 29 (.len false (.tmp 28)), .q 30 (.mv (.val (.int .i64 0)))]) (.block 1 (.loop (.seq (.reg none [.q 31 (.bin .lss (.tmp 30) (.tmp 29))]) (.seq (.cond (.tmp 31) .skip (.exit 1)) (.seq (.block 2 (.seq (.reg none [.q 32 (.mv (.tmp 30)), .q 33 (.iaddrS 2 (.tmp 28) (.tmp 30)), .q 34 (.load 2 true (.tmp 33)), .q 4 (.alloc [.int .i64 0, .int .i64 0]), .q 3 (.mv (.tmp 32)), .s (.store 2 (.tmp 4) (.tmp 34))]) (.block 3 (.seq (.reg none [.q 36 (.load 2 true (.tmp 4)), .q 37 (.call 66 [.tmp 36] 0), .q 38 (.not (.tmp 37)), .q 35 (.mv (.tmp 38))]) (.cond (.tmp 35) (.seq (.reg none [.q 2 (.mv (.val (.int .i64 3)))]) .ret) (.seq (.seq (.reg (some []) [.q 40 (.mv (.tmp 3)), .q 41 (.bin .gtr (.tmp 40) (.val (.int .i64 0))), .q 42 (.mv (.tmp 41)), .y 43 (.addr 4 (.tmp 1)) 42 true, .y 44 (.load 1 false (.tmp 43)) 42 true, .g 45 (.mv (.tmp 3)) 42 true, .g 46 (.bin .sub (.tmp 45) (.val (.int .i64 1))) 42 true, .y 47 (.iaddrS 2 (.tmp 44) (.tmp 46)) 42 true, .y 48 (.load 2 true (.tmp 47)) 42 true, .y 49 (.load 2 true (.tmp 4)) 42 true, .g 50 (.call 68 [.tmp 48, .tmp 49] 0) 42 true, .g 51 (.bin .geq (.tmp 50) (.val (.int .i64 0))) 42 true, .q 52 (.pick (.tmp 42) (.tmp 51) (.val (.bool false))), .q 39 (.mv (.tmp 52))]) (.cond (.tmp 39) .skip (.reg none [.q 53 (.addr 0 (.tmp 4)), .q 54 (.load 1 false (.tmp 53)), .q 55 (.addr 0 (.tmp 1)), .q 56 (.addr 0 (.tmp 55)), .q 57 (.load 1 false (.tmp 56)), .q 58 (.bin .eql (.tmp 54) (.tmp 57)), .q 59 (.mv (.tmp 58)), .g 60 (.addr 1 (.tmp 4)) 59 true, .g 61 (.load 1 false (.tmp 60)) 59 true, .g 62 (.addr 0 (.tmp 1)) 59 true, .g 63 (.addr 1 (.tmp 62)) 59 true, .g 64 (.load 1 false (.tmp 63)) 59 true, .g 65 (.bin .geq (.tmp 61) (.tmp 64)) 59 true, .q 66 (.pick (.tmp 59) (.tmp 65) (.val (.bool false))), .q 39 (.mv (.tmp 66))]))) (.cond (.tmp 39) (.seq (.reg none [.q 2 (.mv (.val (.int .i64 4)))]) .ret) .skip))))))) (.reg none [.q 67 (.bin .add (.tmp 30) (.val (.int .i64 1))), .q 30 (.mv (.tmp 67))]))))))) (.seq (.reg none [.q 2 (.mv (.val (.int .i64 0)))]) .ret))))
def R49 : List LRes := [.tmp 2]
theorem low49 : Tryz.f49.body.bind (lowerCode Tryz.prog 68) = some L49 := by kernel_rfl
theorem res49 : lowerRes Tryz.prog Tryz.f49.results.toList = some R49 := by kernel_rfl
set_option maxRecDepth 100000 in
def L50 : LC := (.seq (.reg none [.q 2 (.box (.tmp 0)), .q 3 (.box (.tmp 1)), .q 4 (.mv (.val (.bool false)))]) (.seq (.reg none [.q 5 (.load 2 true (.tmp 2)), .q 6 (.load 2 true (.tmp 3)), .q 7 (.call 68 [.tmp 5, .tmp 6] 0), .q 8 (.bin .lss (.tmp 7) (.val (.int .i64 0))), .q 4 (.mv (.tmp 8))]) .ret))
def R50 : List LRes := [.tmp 4]
theorem low50 : Tryz.f50.body.bind (lowerCode Tryz.prog 9) = some L50 := by kernel_rfl
theorem res50 : lowerRes Tryz.prog Tryz.f50.results.toList = some R50 := by kernel_rfl
set_option maxRecDepth 100000 in
def L51 : LC := (.seq (.reg none [.q 3 (.box (.tmp 1)), .q 4 (.mv (.val (.int .i64 0)))]) (.seq (.reg none [.q 5 (.mv (.tmp 0)), .q 6 (.clo 69 [.tmp 3]), .q 7 (.call 54 [.tmp 5, .tmp 6] 0), .q 4 (.mv (.tmp 7))]) .ret))
def R51 : List LRes := [.tmp 4]
theorem low51 : Tryz.f51.body.bind (lowerCode Tryz.prog 8) = some L51 := by kernel_rfl
theorem res51 : lowerRes Tryz.prog Tryz.f51.results.toList = some R51 := by kernel_rfl
set_option maxRecDepth 100000 in
def L52 : LC := (.seq (.reg none [.q 2 (.box (.tmp 0)), .q 3 (.box (.tmp 1)), .q 4 (.mv (.val (.bool false)))]) (.seq (.reg (some []) [.z 5 (.load 1 false (.tmp 2)), .z 6 (.call 65 [.tmp 5] 0), .z 7 (.addr 0 (.tmp 3)), .z 8 (.addr 0 (.tmp 7)), .z 9 (.load 1 false (.tmp 8)), .q 10 (.idxA 1 2 false (.tmp 6) (.tmp 9)), .q 11 (.bin .add (.tmp 10) (.val (.int .i64 1))), .z 12 (.addr 0 (.tmp 3)), .z 13 (.addr 1 (.tmp 12)), .z 14 (.load 1 false (.tmp 13)), .q 15 (.bin .eql (.tmp 11) (.tmp 14)), .q 16 (.mv (.tmp 15)), .g 17 (.addr 4 (.tmp 3)) 16 true, .g 18 (.load 1 false (.tmp 17)) 16 true, .g 19 (.clo 71 [.tmp 2]) 16 true, .g 20 (.call 70 [.tmp 18, .tmp 19] 0) 16 true, .g 21 (.not (.tmp 20)) 16 true, .q 22 (.pick (.tmp 16) (.tmp 21) (.val (.bool false))), .q 4 (.mv (.tmp 22))]) .ret))
def R52 : List LRes := [.tmp 4]
theorem low52 : Tryz.f52.body.bind (lowerCode Tryz.prog 23) = some L52 := by kernel_rfl
theorem res52 : lowerRes Tryz.prog Tryz.f52.results.toList = some R52 := by kernel_rfl
set_option maxRecDepth 100000 in
def L53 : LC := (.seq (.reg none [.q 2 (.box (.tmp 0)), .q 3 (.box (.tmp 1)), .q 4 (.mv (.val (.bool false)))]) (.seq (.reg none [.q 5 (.addr 0 (.tmp 2)), .q 6 (.load 2 true (.tmp 5)), .q 7 (.addr 0 (.tmp 3)), .q 8 (.load 2 true (.tmp 7)), .q 9 (.eqag false [.i, .i] (.tmp 6) (.tmp 8)), .q 10 (.mv (.tmp 9)), .g 11 (.addr 2 (.tmp 2)) 10 true, .g 12 (.load 1 false (.tmp 11)) 10 true, .g 13 (.addr 2 (.tmp 3)) 10 true, .g 14 (.load 1 false (.tmp 13)) 10 true, .g 15 (.bin .eql (.tmp 12) (.tmp 14)) 10 true, .q 16 (.pick (.tmp 10) (.tmp 15) (.val (.bool false))), .q 17 (.mv (.tmp 16)), .g 18 (.addr 3 (.tmp 2)) 17 true, .g 19 (.load 1 false (.tmp 18)) 17 true, .g 20 (.addr 3 (.tmp 3)) 17 true, .g 21 (.load 1 false (.tmp 20)) 17 true, .g 22 (.bin .eql (.tmp 19) (.tmp 21)) 17 true, .q 23 (.pick (.tmp 17) (.tmp 22) (.val (.bool false))), .q 24 (.mv (.tmp 23)), .g 25 (.addr 4 (.tmp 2)) 24 true, .g 26 (.load 1 false (.tmp 25)) 24 true, .g 27 (.addr 4 (.tmp 3)) 24 true, .g 28 (.load 1 false (.tmp 27)) 24 true, .g 29 (.call 72 [.tmp 26, .tmp 28] 0) 24 true, .q 30 (.pick (.tmp 24) (.tmp 29) (.val (.bool false))), .q 4 (.mv (.tmp 30))]) .ret))
def R53 : List LRes := [.tmp 4]
theorem low53 : Tryz.f53.body.bind (lowerCode Tryz.prog 31) = some L53 := by kernel_rfl
theorem res53 : lowerRes Tryz.prog Tryz.f53.results.toList = some R53 := by kernel_rfl
set_option maxRecDepth 100000 in
def L54 : LC := (.seq (.reg none [.q 4 (.mv (.val (.int .i64 0)))]) (.seq (.seq (.reg none [.q 6 (.mv (.tmp 0)), .q 7 (.len false (.tmp 6)), .q 8 (.mv (.val (.int .i64 0)))]) (.block 0 (.loop (.seq (.reg none [.q 9 (.bin .lss (.tmp 8) (.tmp 7))]) (.seq (.cond (.tmp 9) .skip (.exit 0)) (.seq (.block 1 (.seq (.reg none [.q 10 (.mv (.tmp 8)), .q 5 (.mv (.tmp 10))]) (.seq (.reg none [.q 11 (.mv (.tmp 1)), .q 12 (.mv (.tmp 0)), .q 13 (.mv (.tmp 5)), .q 14 (.iaddrS 5 (.tmp 12) (.tmp 13)), .q 15 (.load 5 true (.tmp 14)), .q 16 (.callv (.tmp 11) [.tmp 15])]) (.cond (.tmp 16) (.seq (.reg none [.q 17 (.mv (.tmp 5)), .q 4 (.mv (.tmp 17))]) .ret) .skip)))) (.reg none [.q 18 (.bin .add (.tmp 8) (.val (.int .i64 1))), .q 8 (.mv (.tmp 18))]))))))) (.seq (.reg none [.q 4 (.mv (.val (.int .i64 (-1))))]) .ret)))
def R54 : List LRes := [.tmp 4]
theorem low54 : Tryz.f54.body.bind (lowerCode Tryz.prog 19) = some L54 := by kernel_rfl
theorem res54 : lowerRes Tryz.prog Tryz.f54.results.toList = some R54 := by kernel_rfl
set_option maxRecDepth 100000 in
def L55 : LC := (.seq (.reg none [.q 3 (.box (.tmp 0)), .q 6 (.alloc [.int .i64 0, .nilsl, .nilsl]), .q 7 (.alloc [.int .i64 0, .int .i64 0, .int .i64 0, .str ⟨#[]⟩, .nilsl]), .q 8 (.mv (.val (.int .i64 0)))]) (.seq (.seq (.reg none [.q 10 (.load 3 true (.tmp 3)), .q 11 (.call 29 [.tmp 10] 0), .q 9 (.mv (.tmp 11))]) (.seq (.reg none [.q 12 (.mv (.tmp 9)), .q 13 (.bin .neq (.tmp 12) (.val (.int .i64 0)))]) (.cond (.tmp 13) (.seq (.reg none [.q 14 (.build [.int .i64 0, .nilsl, .nilsl] []), .q 15 (.build [.int .i64 0, .int .i64 0, .int .i64 0, .str ⟨#[]⟩, .nilsl] []), .q 16 (.mv (.tmp 9)), .s (.store 3 (.tmp 6) (.tmp 14)), .s (.store 5 (.tmp 7) (.tmp 15)), .q 8 (.mv (.tmp 16))]) .ret) .skip))) (.seq (.reg none [.q 17 (.load 3 true (.tmp 3)), .q 18 (.mv (.tmp 1)), .q 19 (.mv (.tmp 2)), .q 20 (.call 73 [.tmp 17, .tmp 18, .tmp 19] 0), .q 21 (.ext 0 (.tmp 20)), .q 22 (.ext 1 (.tmp 20)), .q 23 (.ext 2 (.tmp 20)), .s (.store 3 (.tmp 6) (.tmp 21)), .s (.store 5 (.tmp 7) (.tmp 22)), .q 8 (.mv (.tmp 23))]) .ret)))
def R55 : List LRes := [(.cell 6 3 true), (.cell 7 5 true), .tmp 8]
theorem low55 : Tryz.f55.body.bind (lowerCode Tryz.prog 24) = some L55 := by kernel_rfl
theorem res55 : lowerRes Tryz.prog Tryz.f55.results.toList = some R55 := by kernel_rfl
set_option maxRecDepth 100000 in
def L56 : LC := (.seq (.reg none [.q 5 (.box (.tmp 2)), .q 6 (.mv (.val (.bool false)))]) (.seq (.seq (.reg none [.q 7 (.mv (.tmp 0)), .q 8 (.nilchk (.tmp 7)), .q 9 (.addr 0 (.tmp 8)), .q 10 (.addr 1 (.tmp 9)), .q 11 (.load 1 false (.tmp 10)), .q 12 (.mv (.tmp 1)), .q 13 (.iaddrS 1 (.tmp 11) (.tmp 12)), .q 14 (.load 1 false (.tmp 13)), .q 15 (.len false (.tmp 14)), .q 16 (.bin .eql (.tmp 15) (.val (.int .i64 30)))]) (.cond (.tmp 16) (.seq (.reg none [.q 6 (.mv (.val (.bool false)))]) .ret) .skip)) (.seq (.reg (some [(1, 17), (2, 17), (3, 17), (4, 17)]) [.q 17 (.mv (.tmp 0)), .z 18 (.nilchk (.tmp 17)), .z 19 (.addr 0 (.tmp 18)), .z 20 (.addr 1 (.tmp 19)), .z 21 (.load 1 false (.tmp 20)), .q 22 (.mv (.tmp 1)), .q 23 (.mv (.tmp 0)), .z 24 (.nilchk (.tmp 23)), .z 25 (.addr 0 (.tmp 24)), .z 26 (.addr 1 (.tmp 25)), .z 27 (.load 1 false (.tmp 26)), .q 28 (.mv (.tmp 1)), .z 29 (.iaddrS 1 (.tmp 27) (.tmp 28)), .z 30 (.load 1 false (.tmp 29)), .z 31 (.load 5 true (.tmp 5)), .z 32 (.call 37 [.tmp 31] 0), .q 33 (.mks 5 [.int .i64 0, .int .i64 0, .int .i64 0, .str ⟨#[]⟩, .nilsl] 1 [(0, (.tmp 32))]), .z 34 (.append 53 5 64 (.tmp 30) (.tmp 33)), .q 35 (.iaddrS 1 (.tmp 21) (.tmp 22)), .s (.store 1 (.tmp 35) (.tmp 34))]) (.seq (.reg none [.q 6 (.mv (.val (.bool true)))]) .ret))))
def R56 : List LRes := [.tmp 6]
theorem low56 : Tryz.f56.body.bind (lowerCode Tryz.prog 36) = some L56 := by kernel_rfl
theorem res56 : lowerRes Tryz.prog Tryz.f56.results.toList = some R56 := by kernel_rfl
set_option maxRecDepth 100000 in
def L57 : LC := (.seq (.reg none [.q 6 (.alloc [.int .i64 0, .int .i64 0, .int .i64 0, .str ⟨#[]⟩, .nilsl])]) (.seq (.reg none [.q 8 (.mv (.tmp 0)), .q 9 (.nilchk (.tmp 8)), .q 10 (.addr 0 (.tmp 9)), .q 11 (.addr 1 (.tmp 10)), .q 12 (.load 1 false (.tmp 11)), .q 13 (.mv (.tmp 1)), .q 14 (.iaddrS 1 (.tmp 12) (.tmp 13)), .q 15 (.load 1 false (.tmp 14)), .q 16 (.mv (.tmp 2)), .q 17 (.iaddrS 5 (.tmp 15) (.tmp 16)), .q 18 (.load 5 true (.tmp 17)), .q 7 (.alloc [.int .i64 0, .int .i64 0, .int .i64 0, .str ⟨#[]⟩, .nilsl]), .s (.store 5 (.tmp 7) (.tmp 18))]) (.seq (.reg (some [(1, 17), (2, 17), (3, 17), (4, 17)]) [.q 19 (.mv (.tmp 0)), .z 20 (.nilchk (.tmp 19)), .z 21 (.addr 0 (.tmp 20)), .z 22 (.addr 1 (.tmp 21)), .z 23 (.load 1 false (.tmp 22)), .q 24 (.mv (.tmp 1)), .q 25 (.mv (.tmp 0)), .z 26 (.nilchk (.tmp 25)), .z 27 (.addr 0 (.tmp 26)), .z 28 (.addr 1 (.tmp 27)), .z 29 (.load 1 false (.tmp 28)), .q 30 (.mv (.tmp 1)), .z 31 (.iaddrS 1 (.tmp 29) (.tmp 30)), .z 32 (.load 1 false (.tmp 31)), .q 33 (.mv (.tmp 2)), .q 34 (.mv (.tmp 2)), .q 35 (.bin .add (.tmp 34) (.val (.int .i64 1))), .z 36 (.call 74 [.tmp 32, .tmp 33, .tmp 35] 1), .q 37 (.iaddrS 1 (.tmp 23) (.tmp 24)), .s (.store 1 (.tmp 37) (.tmp 36))]) (.seq (.reg none [.q 38 (.load 5 true (.tmp 7)), .s (.store 5 (.tmp 6) (.tmp 38))]) .ret))))
def R57 : List LRes := [(.cell 6 5 true)]
theorem low57 : Tryz.f57.body.bind (lowerCode Tryz.prog 39) = some L57 := by kernel_rfl
theorem res57 : lowerRes Tryz.prog Tryz.f57.results.toList = some R57 := by kernel_rfl
set_option maxRecDepth 100000 in
def L58 : LC := (.seq (.reg none [.q 2 (.mv (.val .nilsl))]) (.seq (.reg none [.q 3 (.mv (.val .nilsl))]) (.seq (.seq (.reg none [.q 6 (.mv (.tmp 0)), .q 7 (.len false (.tmp 6)), .q 8 (.mv (.val (.int .i64 0)))]) (.block 0 (.loop (.seq (.reg none [.q 9 (.bin .lss (.tmp 8) (.tmp 7))]) (.seq (.cond (.tmp 9) .skip (.exit 0)) (.seq (.block 1 (.seq (.reg none [.q 10 (.iaddrS 5 (.tmp 6) (.tmp 8)), .q 11 (.load 5 true (.tmp 10)), .q 5 (.alloc [.int .i64 0, .int .i64 0, .int .i64 0, .str ⟨#[]⟩, .nilsl]), .s (.store 5 (.tmp 5) (.tmp 11))]) (.reg none [.q 12 (.mv (.tmp 3)), .q 13 (.load 5 true (.tmp 5)), .q 14 (.call 37 [.tmp 13] 0), .q 15 (.mks 5 [.int .i64 0, .int .i64 0, .int .i64 0, .str ⟨#[]⟩, .nilsl] 1 [(0, (.tmp 14))]), .q 16 (.append 53 5 64 (.tmp 12) (.tmp 15)), .q 3 (.mv (.tmp 16))]))) (.reg none [.q 17 (.bin .add (.tmp 8) (.val (.int .i64 1))), .q 8 (.mv (.tmp 17))]))))))) (.seq (.reg none [.q 18 (.mv (.tmp 3)), .q 2 (.mv (.tmp 18))]) .ret))))
def R58 : List LRes := [.tmp 2]
theorem low58 : Tryz.f58.body.bind (lowerCode Tryz.prog 19) = some L58 := by kernel_rfl
theorem res58 : lowerRes Tryz.prog Tryz.f58.results.toList = some R58 := by kernel_rfl
set_option maxRecDepth 100000 in
def L59 : LC := (.seq (.reg none [.q 2 (.mv (.val .nilsl))]) (.seq (.seq (.reg none [.q 3 (.mv (.tmp 0)), .q 4 (.isnil false (.tmp 3))]) (.cond (.tmp 4) (.seq (.reg none [.q 2 (.mv (.val .nilsl))]) .ret) .skip)) (.seq (.reg none [.q 5 (.mk0 50 2), .q 6 (.mv (.tmp 0)), .q 7 (.append 50 2 16 (.tmp 5) (.tmp 6)), .q 2 (.mv (.tmp 7))]) .ret)))
def R59 : List LRes := [.tmp 2]
theorem low59 : Tryz.f59.body.bind (lowerCode Tryz.prog 8) = some L59 := by kernel_rfl
theorem res59 : lowerRes Tryz.prog Tryz.f59.results.toList = some R59 := by kernel_rfl
set_option maxRecDepth 100000 in
def L60 : LC := (.seq (.reg none [.q 2 (.box (.tmp 0)), .q 3 (.box (.tmp 1)), .q 4 (.alloc [.int .i64 0, .nilsl, .nilsl]), .q 5 (.mv (.val (.int .i64 0)))]) (.seq (.reg none [.q 9 (.load 3 true (.tmp 2)), .q 10 (.call 36 [.tmp 9] 0), .q 11 (.build [.int .i64 0, .nilsl, .nilsl] [(0, (3, (.tmp 10)))]), .q 12 (.box (.tmp 11)), .q 6 (.mv (.tmp 12))]) (.seq (.seq (.reg none [.q 13 (.addr 1 (.tmp 2)), .q 14 (.load 1 false (.tmp 13)), .q 15 (.addr 0 (.tmp 3)), .q 16 (.load 2 true (.tmp 15)), .q 17 (.call 51 [.tmp 14, .tmp 16] 0), .q 18 (.bin .geq (.tmp 17) (.val (.int .i64 0))), .q 19 (.mv (.tmp 18)), .g 20 (.addr 2 (.tmp 2)) 19 false, .g 21 (.load 1 false (.tmp 20)) 19 false, .g 22 (.addr 0 (.tmp 3)) 19 false, .g 23 (.load 2 true (.tmp 22)) 19 false, .g 24 (.call 51 [.tmp 21, .tmp 23] 0) 19 false, .g 25 (.bin .geq (.tmp 24) (.val (.int .i64 0))) 19 false, .q 26 (.pick (.tmp 19) (.val (.bool true)) (.tmp 25))]) (.cond (.tmp 26) (.seq (.reg none [.q 27 (.mv (.tmp 6)), .q 28 (.nilchk (.tmp 27)), .q 29 (.addr 0 (.tmp 28)), .q 30 (.load 3 true (.tmp 29)), .s (.store 3 (.tmp 4) (.tmp 30)), .q 5 (.mv (.val (.int .i64 0)))]) .ret) .skip)) (.seq (.seq (.reg none [.q 31 (.addr 0 (.tmp 3)), .q 32 (.addr 0 (.tmp 31)), .q 33 (.load 1 false (.tmp 32)), .q 34 (.addr 0 (.tmp 2)), .q 35 (.load 1 false (.tmp 34)), .q 36 (.bin .eql (.tmp 33) (.tmp 35))]) (.cond (.tmp 36) (.seq (.reg none [.q 37 (.build [.int .i64 0, .nilsl, .nilsl] []), .s (.store 3 (.tmp 4) (.tmp 37)), .q 5 (.mv (.val (.int .i64 4)))]) .ret) .skip)) (.seq (.reg (some []) [.q 39 (.mv (.tmp 6)), .z 40 (.nilchk (.tmp 39)), .z 41 (.addr 0 (.tmp 40)), .z 42 (.addr 2 (.tmp 41)), .z 43 (.load 1 false (.tmp 42)), .z 44 (.addr 0 (.tmp 3)), .z 45 (.load 2 true (.tmp 44)), .q 46 (.call 75 [.tmp 43, .tmp 45, .val (.clo 76 [])] 0), .q 38 (.mv (.tmp 46)), .q 47 (.ext 0 (.tmp 38)), .q 48 (.ext 1 (.tmp 38)), .q 7 (.mv (.tmp 47)), .q 8 (.mv (.tmp 48))]) (.seq (.reg (some []) [.q 49 (.mv (.tmp 6)), .q 50 (.mv (.tmp 6)), .z 51 (.nilchk (.tmp 50)), .z 52 (.addr 0 (.tmp 51)), .z 53 (.addr 2 (.tmp 52)), .z 54 (.load 1 false (.tmp 53)), .q 55 (.mv (.tmp 7)), .z 56 (.load 5 true (.tmp 3)), .z 57 (.call 37 [.tmp 56] 0), .q 58 (.mks 5 [.int .i64 0, .int .i64 0, .int .i64 0, .str ⟨#[]⟩, .nilsl] 1 [(0, (.tmp 57))]), .q 59 (.call 77 [.tmp 54, .tmp 55, .tmp 58] 1), .q 60 (.nilchk (.tmp 49)), .q 61 (.addr 0 (.tmp 60)), .q 62 (.addr 2 (.tmp 61)), .s (.store 1 (.tmp 62) (.tmp 59))]) (.seq (.reg none [.q 63 (.mv (.tmp 6)), .q 64 (.call 78 [.tmp 63] 0)]) (.seq (.seq (.reg none [.q 65 (.mv (.tmp 6)), .q 66 (.nilchk (.tmp 65)), .q 67 (.addr 0 (.tmp 66)), .q 68 (.addr 2 (.tmp 67)), .q 69 (.load 1 false (.tmp 68)), .q 70 (.len false (.tmp 69)), .q 71 (.bin .gtr (.tmp 70) (.val (.int .i64 20))), .q 72 (.mv (.tmp 71)), .g 73 (.mv (.tmp 6)) 72 false, .g 74 (.nilchk (.tmp 73)) 72 false, .g 75 (.addr 0 (.tmp 74)) 72 false, .g 76 (.addr 1 (.tmp 75)) 72 false, .g 77 (.load 1 false (.tmp 76)) 72 false, .g 78 (.len false (.tmp 77)) 72 false, .g 79 (.bin .gtr (.tmp 78) (.val (.int .i64 40))) 72 false, .q 80 (.pick (.tmp 72) (.val (.bool true)) (.tmp 79))]) (.cond (.tmp 80) (.seq (.reg none [.q 81 (.build [.int .i64 0, .nilsl, .nilsl] []), .s (.store 3 (.tmp 4) (.tmp 81)), .q 5 (.mv (.val (.int .i64 2)))]) .ret) .skip)) (.seq (.reg none [.q 82 (.mv (.tmp 6)), .q 83 (.nilchk (.tmp 82)), .q 84 (.addr 0 (.tmp 83)), .q 85 (.load 3 true (.tmp 84)), .s (.store 3 (.tmp 4) (.tmp 85)), .q 5 (.mv (.val (.int .i64 0)))]) .ret)))))))))
def R60 : List LRes := [(.cell 4 3 true), .tmp 5]
theorem low60 : Tryz.f60.body.bind (lowerCode Tryz.prog 86) = some L60 := by kernel_rfl
theorem res60 : lowerRes Tryz.prog Tryz.f60.results.toList = some R60 := by kernel_rfl
set_option maxRecDepth 100000 in
def L61 : LC := (.seq (.reg none [.q 4 (.mv (.val (.bool false)))]) (.seq (.seq (.reg none [.q 6 (.mv (.tmp 0)), .q 7 (.len false (.tmp 6)), .q 8 (.mv (.tmp 1)), .q 9 (.len false (.tmp 8)), .q 10 (.bin .neq (.tmp 7) (.tmp 9))]) (.cond (.tmp 10) (.seq (.reg none [.q 4 (.mv (.val (.bool false)))]) .ret) .skip)) (.seq (.seq (.reg none [.q 5 (.mv (.val (.int .i64 0)))]) (.block 0 (.loop (.seq (.seq (.reg none [.q 11 (.mv (.tmp 5)), .q 12 (.mv (.tmp 0)), .q 13 (.len false (.tmp 12)), .q 14 (.bin .lss (.tmp 11) (.tmp 13))]) (.cond (.tmp 14) .skip (.exit 0))) (.seq (.block 1 (.seq (.reg (some []) [.q 17 (.mv (.tmp 0)), .q 18 (.mv (.tmp 5)), .z 19 (.iaddrS 2 (.tmp 17) (.tmp 18)), .z 20 (.load 2 true (.tmp 19)), .q 21 (.mv (.tmp 1)), .q 22 (.mv (.tmp 5)), .z 23 (.iaddrS 2 (.tmp 21) (.tmp 22)), .z 24 (.load 2 true (.tmp 23)), .q 25 (.eqag true [.i, .i] (.tmp 20) (.tmp 24))]) (.cond (.tmp 25) (.seq (.reg none [.q 4 (.mv (.val (.bool false)))]) .ret) .skip))) (.reg none [.q 15 (.mv (.tmp 5)), .q 16 (.bin .add (.tmp 15) (.val (.int .i64 1))), .q 5 (.mv (.tmp 16))])))))) (.seq (.reg none [.q 4 (.mv (.val (.bool true)))]) .ret))))
def R61 : List LRes := [.tmp 4]
theorem low61 : Tryz.f61.body.bind (lowerCode Tryz.prog 26) = some L61 := by kernel_rfl
theorem res61 : lowerRes Tryz.prog Tryz.f61.results.toList = some R61 := by kernel_rfl
set_option maxRecDepth 100000 in
def L62 : LC := (.seq (.reg none [.q 4 (.mv (.val (.bool false)))]) (.seq (.seq (.reg none [.q 5 (.mv (.val (.int .i64 0)))]) (.block 0 (.loop (.seq (.seq (.reg none [.q 6 (.mv (.tmp 5)), .q 7 (.bin .lss (.tmp 6) (.val (.int .i64 3)))]) (.cond (.tmp 7) .skip (.exit 0))) (.seq (.block 1 (.seq (.reg none [.q 10 (.mv (.tmp 0)), .q 11 (.mv (.tmp 5)), .q 12 (.call 79 [.tmp 10, .tmp 11] 0), .q 13 (.mv (.tmp 12)), .g 14 (.mv (.tmp 1)) 13 true, .g 15 (.mv (.tmp 5)) 13 true, .g 16 (.call 79 [.tmp 14, .tmp 15] 0) 13 true, .q 17 (.pick (.tmp 13) (.tmp 16) (.val (.bool false)))]) (.cond (.tmp 17) (.seq (.reg none [.q 4 (.mv (.val (.bool true)))]) .ret) .skip))) (.reg none [.q 8 (.mv (.tmp 5)), .q 9 (.bin .add (.tmp 8) (.val (.int .i64 1))), .q 5 (.mv (.tmp 9))])))))) (.seq (.reg none [.q 4 (.mv (.val (.bool false)))]) .ret)))
def R62 : List LRes := [.tmp 4]
theorem low62 : Tryz.f62.body.bind (lowerCode Tryz.prog 18) = some L62 := by kernel_rfl
theorem res62 : lowerRes Tryz.prog Tryz.f62.results.toList = some R62 := by kernel_rfl
set_option maxRecDepth 100000 in
def L63 : LC := (.seq (.reg none [.q 4 (.mv (.val .nilsl))]) (.seq (.reg none [.q 8 (.mv (.tmp 0)), .q 9 (.len false (.tmp 8)), .q 10 (.mkn 4 1 1 [(.bool false)] (.tmp 9) (.tmp 9)), .q 5 (.mv (.tmp 10))]) (.seq (.seq (.reg none [.q 11 (.mv (.tmp 1)), .q 6 (.mv (.tmp 11))]) (.block 0 (.loop (.seq (.seq (.reg none [.q 12 (.mv (.tmp 6)), .q 13 (.bin .geq (.tmp 12) (.val (.int .i64 0)))]) (.cond (.tmp 13) .skip (.exit 0))) (.seq (.block 1 (.seq (.reg none [.q 16 (.mv (.tmp 6)), .q 17 (.mv (.tmp 1)), .q 18 (.bin .eql (.tmp 16) (.tmp 17)), .q 19 (.mv (.tmp 18)), .g 20 (.mv (.tmp 5)) 19 false, .g 21 (.mv (.tmp 6)) 19 false, .g 22 (.iaddrS 1 (.tmp 20) (.tmp 21)) 19 false, .g 23 (.load 1 false (.tmp 22)) 19 false, .q 24 (.pick (.tmp 19) (.val (.bool true)) (.tmp 23))]) (.cond (.tmp 24) (.seq (.reg none [.q 7 (.mv (.val (.int .i64 0)))]) (.block 2 (.loop (.seq (.seq (.reg none [.q 25 (.mv (.tmp 7)), .q 26 (.mv (.tmp 0)), .q 27 (.mv (.tmp 6)), .q 28 (.iaddrS 5 (.tmp 26) (.tmp 27)), .q 29 (.addr 4 (.tmp 28)), .q 30 (.load 1 false (.tmp 29)), .q 31 (.len false (.tmp 30)), .q 32 (.bin .lss (.tmp 25) (.tmp 31))]) (.cond (.tmp 32) .skip (.exit 2))) (.seq (.block 3 (.reg none [.q 35 (.mv (.tmp 5)), .q 36 (.mv (.tmp 0)), .q 37 (.mv (.tmp 0)), .q 38 (.mv (.tmp 6)), .q 39 (.iaddrS 5 (.tmp 37) (.tmp 38)), .q 40 (.addr 4 (.tmp 39)), .q 41 (.load 1 false (.tmp 40)), .q 42 (.mv (.tmp 7)), .q 43 (.iaddrS 2 (.tmp 41) (.tmp 42)), .q 44 (.load 2 true (.tmp 43)), .q 45 (.call 41 [.tmp 36, .tmp 44] 0), .q 46 (.iaddrS 1 (.tmp 35) (.tmp 45)), .s (.store 1 (.tmp 46) (.val (.bool true)))])) (.reg none [.q 33 (.mv (.tmp 7)), .q 34 (.bin .add (.tmp 33) (.val (.int .i64 1))), .q 7 (.mv (.tmp 34))])))))) .skip))) (.reg none [.q 14 (.mv (.tmp 6)), .q 15 (.bin .sub (.tmp 14) (.val (.int .i64 1))), .q 6 (.mv (.tmp 15))])))))) (.seq (.reg none [.q 47 (.mv (.tmp 5)), .q 4 (.mv (.tmp 47))]) .ret))))
def R63 : List LRes := [.tmp 4]
theorem low63 : Tryz.f63.body.bind (lowerCode Tryz.prog 48) = some L63 := by kernel_rfl
theorem res63 : lowerRes Tryz.prog Tryz.f63.results.toList = some R63 := by kernel_rfl
set_option maxRecDepth 100000 in
def L64 : LC := (.seq (.reg none [.q 4 (.mv (.val .nilsl))]) (.seq (.reg none [.q 5 (.mv (.val .nilsl))]) (.seq (.seq (.reg none [.q 6 (.mv (.val (.int .i64 0)))]) (.block 0 (.loop (.seq (.seq (.reg none [.q 9 (.mv (.tmp 6)), .q 10 (.bin .lss (.tmp 9) (.val (.int .i64 2)))]) (.cond (.tmp 10) .skip (.exit 0))) (.seq (.block 1 (.seq (.reg none [.q 7 (.mv (.val (.int .i64 1)))]) (.block 2 (.loop (.seq (.seq (.reg none [.q 13 (.mv (.tmp 7)), .q 14 (.bin .leq (.tmp 13) (.val (.int .i64 20)))]) (.cond (.tmp 14) .skip (.exit 2))) (.seq (.block 3 (.seq (.reg none [.q 17 (.mv (.tmp 0)), .q 18 (.mv (.tmp 6)), .q 19 (.mv (.tmp 7)), .q 20 (.build [.int .i64 0, .int .i64 0] [(0, (1, (.tmp 18))), (1, (1, (.tmp 19)))]), .q 21 (.call 41 [.tmp 17, .tmp 20] 0), .q 8 (.mv (.tmp 21))]) (.seq (.reg none [.q 22 (.mv (.tmp 8)), .q 23 (.bin .geq (.tmp 22) (.val (.int .i64 0))), .q 24 (.mv (.tmp 23)), .g 25 (.mv (.tmp 1)) 24 true, .g 26 (.mv (.tmp 8)) 24 true, .g 27 (.iaddrS 1 (.tmp 25) (.tmp 26)) 24 true, .g 28 (.load 1 false (.tmp 27)) 24 true, .q 29 (.pick (.tmp 24) (.tmp 28) (.val (.bool false)))]) (.cond (.tmp 29) (.reg none [.q 30 (.mv (.tmp 5)), .q 31 (.mv (.tmp 0)), .q 32 (.mv (.tmp 8)), .q 33 (.iaddrS 5 (.tmp 31) (.tmp 32)), .q 34 (.addr 0 (.tmp 33)), .q 35 (.load 2 true (.tmp 34)), .q 36 (.mks 2 [.int .i64 0, .int .i64 0] 1 [(0, (.tmp 35))]), .q 37 (.append 50 2 16 (.tmp 30) (.tmp 36)), .q 5 (.mv (.tmp 37))]) .skip)))) (.reg none [.q 15 (.mv (.tmp 7)), .q 16 (.bin .add (.tmp 15) (.val (.int .i64 1))), .q 7 (.mv (.tmp 16))]))))))) (.reg none [.q 11 (.mv (.tmp 6)), .q 12 (.bin .add (.tmp 11) (.val (.int .i64 1))), .q 6 (.mv (.tmp 12))])))))) (.seq (.reg none [.q 38 (.mv (.tmp 5)), .q 4 (.mv (.tmp 38))]) .ret))))
def R64 : List LRes := [.tmp 4]
theorem low64 : Tryz.f64.body.bind (lowerCode Tryz.prog 39) = some L64 := by kernel_rfl
theorem res64 : lowerRes Tryz.prog Tryz.f64.results.toList = some R64 := by kernel_rfl
set_option maxRecDepth 100000 in
def L65 : LC := (.seq (.reg none [.q 2 (.alloc [.int .i64 0, .int .i64 0])]) (.seq (.reg none [.q 3 (.alloc [.int .i64 0, .int .i64 0])]) (.seq (.seq (.reg none [.q 6 (.mv (.tmp 0)), .q 7 (.len false (.tmp 6)), .q 8 (.mv (.val (.int .i64 0)))]) (.block 0 (.loop (.seq (.reg none [.q 9 (.bin .lss (.tmp 8) (.tmp 7))]) (.seq (.cond (.tmp 9) .skip (.exit 0)) (.seq (.block 1 (.seq (.reg none [.q 10 (.iaddrS 5 (.tmp 6) (.tmp 8)), .q 11 (.load 5 true (.tmp 10)), .q 5 (.alloc [.int .i64 0, .int .i64 0, .int .i64 0, .str ⟨#[]⟩, .nilsl]), .s (.store 5 (.tmp 5) (.tmp 11))]) (.reg none [.q 12 (.addr 0 (.tmp 5)), .q 13 (.addr 0 (.tmp 12)), .q 14 (.load 1 false (.tmp 13)), .q 15 (.iaddrA 1 2 (.tmp 3) (.tmp 14)), .q 16 (.load 1 false (.tmp 15)), .q 17 (.bin .add (.tmp 16) (.val (.int .i64 1))), .q 18 (.iaddrA 1 2 (.tmp 3) (.tmp 14)), .s (.store 1 (.tmp 18) (.tmp 17))]))) (.reg none [.q 19 (.bin .add (.tmp 8) (.val (.int .i64 1))), .q 8 (.mv (.tmp 19))]))))))) (.seq (.reg none [.q 20 (.load 2 true (.tmp 3)), .s (.store 2 (.tmp 2) (.tmp 20))]) .ret))))
def R65 : List LRes := [(.cell 2 2 true)]
theorem low65 : Tryz.f65.body.bind (lowerCode Tryz.prog 21) = some L65 := by kernel_rfl
theorem res65 : lowerRes Tryz.prog Tryz.f65.results.toList = some R65 := by kernel_rfl
set_option maxRecDepth 100000 in
def L66 : LC := (.seq (.reg none [.q 1 (.box (.tmp 0)), .q 2 (.mv (.val (.bool false)))]) (.seq (.reg none [.q 3 (.addr 0 (.tmp 1)), .q 4 (.load 1 false (.tmp 3)), .q 5 (.call 80 [.tmp 4, .val (.int .i64 0), .val (.int .i64 1)] 0), .q 6 (.mv (.tmp 5)), .g 7 (.addr 1 (.tmp 1)) 6 true, .g 8 (.load 1 false (.tmp 7)) 6 true, .g 9 (.call 80 [.tmp 8, .val (.int .i64 1), .val (.int .i64 20)] 0) 6 true, .q 10 (.pick (.tmp 6) (.tmp 9) (.val (.bool false))), .q 2 (.mv (.tmp 10))]) .ret))
def R66 : List LRes := [.tmp 2]
theorem low66 : Tryz.f66.body.bind (lowerCode Tryz.prog 11) = some L66 := by kernel_rfl
theorem res66 : lowerRes Tryz.prog Tryz.f66.results.toList = some R66 := by kernel_rfl
set_option maxRecDepth 100000 in
def L67 : LC := (.seq (.reg none [.q 2 (.mv (.val (.bool false)))]) (.seq (.reg none [.q 3 (.mv (.tmp 0)), .q 4 (.call 80 [.tmp 3, .val (.int .i64 1), .val (.int .i64 7)] 0), .q 2 (.mv (.tmp 4))]) .ret))
def R67 : List LRes := [.tmp 2]
theorem low67 : Tryz.f67.body.bind (lowerCode Tryz.prog 5) = some L67 := by kernel_rfl
theorem res67 : lowerRes Tryz.prog Tryz.f67.results.toList = some R67 := by kernel_rfl
set_option maxRecDepth 100000 in
def L68 : LC := (.seq (.reg none [.q 2 (.box (.tmp 0)), .q 3 (.box (.tmp 1)), .q 4 (.mv (.val (.int .i64 0)))]) (.seq (.reg none [.q 5 (.mv (.val (.clo 81 [])))]) (.seq (.seq (.reg none [.q 7 (.mv (.tmp 5)), .q 8 (.addr 0 (.tmp 2)), .q 9 (.load 1 false (.tmp 8)), .q 10 (.addr 0 (.tmp 3)), .q 11 (.load 1 false (.tmp 10)), .q 12 (.callv (.tmp 7) [.tmp 9, .tmp 11]), .q 6 (.mv (.tmp 12))]) (.seq (.reg none [.q 13 (.mv (.tmp 6)), .q 14 (.bin .neq (.tmp 13) (.val (.int .i64 0)))]) (.cond (.tmp 14) (.seq (.reg none [.q 15 (.mv (.tmp 6)), .q 4 (.mv (.tmp 15))]) .ret) .skip))) (.seq (.reg none [.q 16 (.mv (.tmp 5)), .q 17 (.addr 1 (.tmp 2)), .q 18 (.load 1 false (.tmp 17)), .q 19 (.addr 1 (.tmp 3)), .q 20 (.load 1 false (.tmp 19)), .q 21 (.callv (.tmp 16) [.tmp 18, .tmp 20]), .q 4 (.mv (.tmp 21))]) .ret))))
def R68 : List LRes := [.tmp 4]
theorem low68 : Tryz.f68.body.bind (lowerCode Tryz.prog 22) = some L68 := by kernel_rfl
theorem res68 : lowerRes Tryz.prog Tryz.f68.results.toList = some R68 := by kernel_rfl
set_option maxRecDepth 100000 in
def L69 : LC := (.seq (.reg none [.q 2 (.box (.tmp 0)), .q 3 (.mv (.val (.bool false)))]) (.seq (.reg none [.q 4 (.addr 0 (.tmp 2)), .q 5 (.load 2 true (.tmp 4)), .q 6 (.load 2 true (.tmp 1)), .q 7 (.eqag false [.i, .i] (.tmp 5) (.tmp 6)), .q 3 (.mv (.tmp 7))]) .ret))
def R69 : List LRes := [.tmp 3]
theorem low69 : Tryz.f69.body.bind (lowerCode Tryz.prog 8) = some L69 := by kernel_rfl
theorem res69 : lowerRes Tryz.prog Tryz.f69.results.toList = some R69 := by kernel_rfl
set_option maxRecDepth 100000 in
def L70 : LC := (.seq (.reg none [.q 4 (.mv (.val (.bool false)))]) (.seq (.reg none [.q 5 (.mv (.tmp 0)), .q 6 (.mv (.tmp 1)), .q 7 (.call 82 [.tmp 5, .tmp 6] 0), .q 8 (.bin .geq (.tmp 7) (.val (.int .i64 0))), .q 4 (.mv (.tmp 8))]) .ret))
def R70 : List LRes := [.tmp 4]
theorem low70 : Tryz.f70.body.bind (lowerCode Tryz.prog 9) = some L70 := by kernel_rfl
theorem res70 : lowerRes Tryz.prog Tryz.f70.results.toList = some R70 := by kernel_rfl
set_option maxRecDepth 100000 in
def L71 : LC := (.seq (.reg none [.q 2 (.box (.tmp 0)), .q 3 (.mv (.val (.bool false)))]) (.seq (.reg none [.q 4 (.load 1 false (.tmp 1)), .q 5 (.load 2 true (.tmp 2)), .q 6 (.call 51 [.tmp 4, .tmp 5] 0), .q 7 (.bin .lss (.tmp 6) (.val (.int .i64 0))), .q 3 (.mv (.tmp 7))]) .ret))
def R71 : List LRes := [.tmp 3]
theorem low71 : Tryz.f71.body.bind (lowerCode Tryz.prog 8) = some L71 := by kernel_rfl
theorem res71 : lowerRes Tryz.prog Tryz.f71.results.toList = some R71 := by kernel_rfl
set_option maxRecDepth 100000 in
def L72 : LC := (.seq (.reg none [.q 4 (.mv (.val (.bool false)))]) (.seq (.seq (.reg none [.q 6 (.mv (.tmp 0)), .q 7 (.len false (.tmp 6)), .q 8 (.mv (.tmp 1)), .q 9 (.len false (.tmp 8)), .q 10 (.bin .neq (.tmp 7) (.tmp 9))]) (.cond (.tmp 10) (.seq (.reg none [.q 4 (.mv (.val (.bool false)))]) .ret) .skip)) (.seq (.seq (.reg none [.q 11 (.mv (.tmp 0)), .q 12 (.len false (.tmp 11)), .q 13 (.mv (.val (.int .i64 0)))]) (.block 0 (.loop (.seq (.reg none [.q 14 (.bin .lss (.tmp 13) (.tmp 12))]) (.seq (.cond (.tmp 14) .skip (.exit 0)) (.seq (.block 1 (.seq (.reg none [.q 15 (.mv (.tmp 13)), .q 5 (.mv (.tmp 15))]) (.seq (.reg (some []) [.q 16 (.mv (.tmp 0)), .q 17 (.mv (.tmp 5)), .z 18 (.iaddrS 2 (.tmp 16) (.tmp 17)), .z 19 (.load 2 true (.tmp 18)), .q 20 (.mv (.tmp 1)), .q 21 (.mv (.tmp 5)), .z 22 (.iaddrS 2 (.tmp 20) (.tmp 21)), .z 23 (.load 2 true (.tmp 22)), .q 24 (.eqag true [.i, .i] (.tmp 19) (.tmp 23))]) (.cond (.tmp 24) (.seq (.reg none [.q 4 (.mv (.val (.bool false)))]) .ret) .skip)))) (.reg none [.q 25 (.bin .add (.tmp 13) (.val (.int .i64 1))), .q 13 (.mv (.tmp 25))]))))))) (.seq (.reg none [.q 4 (.mv (.val (.bool true)))]) .ret))))
def R72 : List LRes := [.tmp 4]
theorem low72 : Tryz.f72.body.bind (lowerCode Tryz.prog 26) = some L72 := by kernel_rfl
theorem res72 : lowerRes Tryz.prog Tryz.f72.results.toList = some R72 := by kernel_rfl
set_option maxRecDepth 100000 in
def L73 : LC := (.seq (.reg none [.q 3 (.box (.tmp 0)), .q 6 (.alloc [.int .i64 0, .nilsl, .nilsl]), .q 7 (.alloc [.int .i64 0, .int .i64 0, .int .i64 0, .str ⟨#[]⟩, .nilsl]), .q 8 (.mv (.val (.int .i64 0)))]) (.seq (.seq (.reg none [.q 12 (.mv (.tmp 1)), .q 13 (.call 67 [.tmp 12] 0), .q 14 (.not (.tmp 13))]) (.cond (.tmp 14) (.seq (.reg none [.q 15 (.build [.int .i64 0, .nilsl, .nilsl] []), .q 16 (.build [.int .i64 0, .int .i64 0, .int .i64 0, .str ⟨#[]⟩, .nilsl] []), .s (.store 3 (.tmp 6) (.tmp 15)), .s (.store 5 (.tmp 7) (.tmp 16)), .q 8 (.mv (.val (.int .i64 3)))]) .ret) .skip)) (.seq (.reg (some []) [.z 17 (.addr 1 (.tmp 3)), .z 18 (.load 1 false (.tmp 17)), .z 19 (.call 65 [.tmp 18] 0), .z 20 (.addr 0 (.tmp 3)), .z 21 (.load 1 false (.tmp 20)), .q 22 (.idxA 1 2 false (.tmp 19) (.tmp 21)), .q 23 (.bin .add (.tmp 22) (.val (.int .i64 1))), .q 9 (.mv (.tmp 23))]) (.seq (.reg (some [(0, 11), (1, 11), (6, 11), (7, 11), (9, 11)]) [.z 24 (.addr 0 (.tmp 3)), .z 25 (.load 1 false (.tmp 24)), .q 26 (.mv (.tmp 9)), .q 27 (.build [.int .i64 0, .int .i64 0] [(0, (1, (.tmp 25))), (1, (1, (.tmp 26)))]), .q 28 (.mv (.tmp 1)), .q 29 (.mv (.tmp 2)), .z 30 (.addr 1 (.tmp 3)), .z 31 (.load 1 false (.tmp 30)), .q 32 (.mv (.tmp 1)), .z 33 (.call 83 [.tmp 31, .tmp 32] 0), .q 34 (.build [.int .i64 0, .int .i64 0, .int .i64 0, .str ⟨#[]⟩, .nilsl] [(0, (2, (.tmp 27))), (2, (1, (.tmp 28))), (3, (1, (.tmp 29))), (4, (1, (.tmp 33)))]), .z 10 (.alloc [.int .i64 0, .int .i64 0, .int .i64 0, .str ⟨#[]⟩, .nilsl]), .s (.store 5 (.tmp 10) (.tmp 34))]) (.seq (.seq (.reg none [.q 35 (.mv (.tmp 2)), .q 36 (.len true (.tmp 35)), .q 37 (.bin .gtr (.tmp 36) (.val (.int .i64 12))), .q 38 (.mv (.tmp 37)), .g 39 (.mv (.tmp 9)) 38 false, .g 40 (.bin .gtr (.tmp 39) (.val (.int .i64 20))) 38 false, .q 41 (.pick (.tmp 38) (.val (.bool true)) (.tmp 40)), .q 42 (.mv (.tmp 41)), .g 43 (.addr 1 (.tmp 3)) 42 false, .g 44 (.load 1 false (.tmp 43)) 42 false, .g 45 (.len false (.tmp 44)) 42 false, .g 46 (.bin .eql (.tmp 45) (.val (.int .i64 40))) 42 false, .q 47 (.pick (.tmp 42) (.val (.bool true)) (.tmp 46)), .q 48 (.mv (.tmp 47)), .g 49 (.addr 4 (.tmp 10)) 48 false, .g 50 (.load 1 false (.tmp 49)) 48 false, .g 51 (.len false (.tmp 50)) 48 false, .g 52 (.bin .gtr (.tmp 51) (.val (.int .i64 6))) 48 false, .q 53 (.pick (.tmp 48) (.val (.bool true)) (.tmp 52))]) (.cond (.tmp 53) (.seq (.reg none [.q 54 (.build [.int .i64 0, .nilsl, .nilsl] []), .q 55 (.build [.int .i64 0, .int .i64 0, .int .i64 0, .str ⟨#[]⟩, .nilsl] []), .s (.store 3 (.tmp 6) (.tmp 54)), .s (.store 5 (.tmp 7) (.tmp 55)), .q 8 (.mv (.val (.int .i64 2)))]) .ret) .skip)) (.seq (.reg none [.q 56 (.load 3 true (.tmp 3)), .q 57 (.call 36 [.tmp 56] 0), .q 58 (.build [.int .i64 0, .nilsl, .nilsl] [(0, (3, (.tmp 57)))]), .q 59 (.box (.tmp 58)), .q 11 (.mv (.tmp 59))]) (.seq (.reg (some []) [.q 60 (.mv (.tmp 11)), .q 61 (.mv (.tmp 11)), .z 62 (.nilchk (.tmp 61)), .z 63 (.addr 0 (.tmp 62)), .z 64 (.addr 1 (.tmp 63)), .z 65 (.load 1 false (.tmp 64)), .z 66 (.load 5 true (.tmp 10)), .q 67 (.mks 5 [.int .i64 0, .int .i64 0, .int .i64 0, .str ⟨#[]⟩, .nilsl] 1 [(0, (.tmp 66))]), .q 68 (.append 53 5 64 (.tmp 65) (.tmp 67)), .q 69 (.nilchk (.tmp 60)), .q 70 (.addr 0 (.tmp 69)), .q 71 (.addr 1 (.tmp 70)), .s (.store 1 (.tmp 71) (.tmp 68))]) (.seq (.reg none [.q 72 (.mv (.tmp 11)), .q 73 (.call 78 [.tmp 72] 0)]) (.seq (.reg (some []) [.q 74 (.mv (.tmp 11)), .z 75 (.nilchk (.tmp 74)), .z 76 (.addr 0 (.tmp 75)), .z 77 (.load 3 true (.tmp 76)), .z 78 (.load 5 true (.tmp 10)), .z 79 (.call 37 [.tmp 78] 0), .s (.store 3 (.tmp 6) (.tmp 77)), .s (.store 5 (.tmp 7) (.tmp 79)), .q 8 (.mv (.val (.int .i64 0)))]) .ret)))))))))
def R73 : List LRes := [(.cell 6 3 true), (.cell 7 5 true), .tmp 8]
theorem low73 : Tryz.f73.body.bind (lowerCode Tryz.prog 80) = some L73 := by kernel_rfl
theorem res73 : lowerRes Tryz.prog Tryz.f73.results.toList = some R73 := by kernel_rfl
set_option maxRecDepth 100000 in
def L75 : LC := (.seq (.reg none [.q 4 (.box (.tmp 1)), .q 6 (.mv (.val (.int .i64 0))), .q 7 (.mv (.val (.bool false)))]) (.seq (.reg none [.q 12 (.mv (.tmp 0)), .q 13 (.len false (.tmp 12)), .q 8 (.mv (.tmp 13))]) (.seq (.reg none [.q 14 (.mv (.tmp 8)), .q 9 (.mv (.val (.int .i64 0))), .q 10 (.mv (.tmp 14))]) (.seq (.block 0 (.loop (.seq (.seq (.reg none [.q 15 (.mv (.tmp 9)), .q 16 (.mv (.tmp 10)), .q 17 (.bin .lss (.tmp 15) (.tmp 16))]) (.cond (.tmp 17) .skip (.exit 0))) (.block 1 (.seq (.reg none [.q 18 (.mv (.tmp 9)), .q 19 (.mv (.tmp 10)), .q 20 (.bin .add (.tmp 18) (.tmp 19)), .q 21 (.conv .u64 (.tmp 20)), .q 22 (.bin .shr (.tmp 21) (.val (.int .u64 1))), .q 23 (.conv .i64 (.tmp 22)), .q 11 (.mv (.tmp 23))]) (.seq (.reg (some []) [.q 24 (.mv (.tmp 2)), .q 25 (.mv (.tmp 0)), .q 26 (.mv (.tmp 11)), .z 27 (.iaddrS 5 (.tmp 25) (.tmp 26)), .z 28 (.load 5 true (.tmp 27)), .z 29 (.load 2 true (.tmp 4)), .q 30 (.callv (.tmp 24) [.tmp 28, .tmp 29]), .q 31 (.bin .lss (.tmp 30) (.val (.int .i64 0)))]) (.cond (.tmp 31) (.reg none [.q 32 (.mv (.tmp 11)), .q 33 (.bin .add (.tmp 32) (.val (.int .i64 1))), .q 9 (.mv (.tmp 33))]) (.reg none [.q 34 (.mv (.tmp 11)), .q 10 (.mv (.tmp 34))])))))))) (.seq (.reg (some []) [.q 35 (.mv (.tmp 9)), .q 36 (.mv (.tmp 9)), .q 37 (.mv (.tmp 8)), .q 38 (.bin .lss (.tmp 36) (.tmp 37)), .q 39 (.mv (.tmp 38)), .g 40 (.mv (.tmp 2)) 39 true, .g 41 (.mv (.tmp 0)) 39 true, .g 42 (.mv (.tmp 9)) 39 true, .y 43 (.iaddrS 5 (.tmp 41) (.tmp 42)) 39 true, .y 44 (.load 5 true (.tmp 43)) 39 true, .y 45 (.load 2 true (.tmp 4)) 39 true, .g 46 (.callv (.tmp 40) [.tmp 44, .tmp 45]) 39 true, .g 47 (.bin .eql (.tmp 46) (.val (.int .i64 0))) 39 true, .q 48 (.pick (.tmp 39) (.tmp 47) (.val (.bool false))), .q 6 (.mv (.tmp 35)), .q 7 (.mv (.tmp 48))]) .ret)))))
def R75 : List LRes := [.tmp 6, .tmp 7]
theorem low75 : Tryz.f75.body.bind (lowerCode Tryz.prog 49) = some L75 := by kernel_rfl
theorem res75 : lowerRes Tryz.prog Tryz.f75.results.toList = some R75 := by kernel_rfl
set_option maxRecDepth 100000 in
def L76 : LC := (.seq (.reg none [.q 2 (.box (.tmp 0)), .q 3 (.box (.tmp 1)), .q 4 (.mv (.val (.int .i64 0)))]) (.seq (.reg none [.q 5 (.addr 0 (.tmp 2)), .q 6 (.load 2 true (.tmp 5)), .q 7 (.load 2 true (.tmp 3)), .q 8 (.call 68 [.tmp 6, .tmp 7] 0), .q 4 (.mv (.tmp 8))]) .ret))
def R76 : List LRes := [.tmp 4]
theorem low76 : Tryz.f76.body.bind (lowerCode Tryz.prog 9) = some L76 := by kernel_rfl
theorem res76 : lowerRes Tryz.prog Tryz.f76.results.toList = some R76 := by kernel_rfl
set_option maxRecDepth 100000 in
def L78 : LC := (.seq (.reg none [.q 1 (.box (.tmp 0))]) (.seq (.reg none [.q 4 (.clo 86 [.tmp 1]), .q 2 (.mv (.tmp 4))]) (.seq (.reg none [.q 5 (.load 1 false (.tmp 1)), .q 6 (.nilchk (.tmp 5)), .q 7 (.addr 0 (.tmp 6)), .q 8 (.addr 2 (.tmp 7)), .q 9 (.load 1 false (.tmp 8)), .q 10 (.mv (.tmp 2)), .q 11 (.call 54 [.tmp 9, .tmp 10] 0), .q 3 (.mv (.tmp 11))]) (.block 0 (.loop (.seq (.seq (.reg none [.q 12 (.mv (.tmp 3)), .q 13 (.bin .geq (.tmp 12) (.val (.int .i64 0)))]) (.cond (.tmp 13) .skip (.exit 0))) (.seq (.block 1 (.seq (.reg (some [(0, 15)]) [.z 21 (.load 1 false (.tmp 1)), .z 22 (.load 1 false (.tmp 1)), .z 23 (.nilchk (.tmp 22)), .z 24 (.addr 0 (.tmp 23)), .z 25 (.addr 1 (.tmp 24)), .z 26 (.load 1 false (.tmp 25)), .z 27 (.load 1 false (.tmp 1)), .z 28 (.nilchk (.tmp 27)), .z 29 (.addr 0 (.tmp 28)), .z 30 (.addr 2 (.tmp 29)), .z 31 (.load 1 false (.tmp 30)), .q 32 (.mv (.tmp 3)), .z 33 (.iaddrS 5 (.tmp 31) (.tmp 32)), .z 34 (.load 5 true (.tmp 33)), .q 35 (.mks 5 [.int .i64 0, .int .i64 0, .int .i64 0, .str ⟨#[]⟩, .nilsl] 1 [(0, (.tmp 34))]), .z 36 (.append 53 5 64 (.tmp 26) (.tmp 35)), .q 37 (.nilchk (.tmp 21)), .q 38 (.addr 0 (.tmp 37)), .q 39 (.addr 1 (.tmp 38)), .s (.store 1 (.tmp 39) (.tmp 36))]) (.reg (some [(0, 9)]) [.z 40 (.load 1 false (.tmp 1)), .z 41 (.load 1 false (.tmp 1)), .z 42 (.nilchk (.tmp 41)), .z 43 (.addr 0 (.tmp 42)), .z 44 (.addr 2 (.tmp 43)), .z 45 (.load 1 false (.tmp 44)), .q 46 (.mv (.tmp 3)), .q 47 (.mv (.tmp 3)), .q 48 (.bin .add (.tmp 47) (.val (.int .i64 1))), .z 49 (.call 74 [.tmp 45, .tmp 46, .tmp 48] 1), .q 50 (.nilchk (.tmp 40)), .q 51 (.addr 0 (.tmp 50)), .q 52 (.addr 2 (.tmp 51)), .s (.store 1 (.tmp 52) (.tmp 49))]))) (.reg none [.q 14 (.load 1 false (.tmp 1)), .q 15 (.nilchk (.tmp 14)), .q 16 (.addr 0 (.tmp 15)), .q 17 (.addr 2 (.tmp 16)), .q 18 (.load 1 false (.tmp 17)), .q 19 (.mv (.tmp 2)), .q 20 (.call 54 [.tmp 18, .tmp 19] 0), .q 3 (.mv (.tmp 20))]))))))))
def R78 : List LRes := []
theorem low78 : Tryz.f78.body.bind (lowerCode Tryz.prog 53) = some L78 := by kernel_rfl
theorem res78 : lowerRes Tryz.prog Tryz.f78.results.toList = some R78 := by kernel_rfl
set_option maxRecDepth 100000 in
def L79 : LC := (.seq (.reg none [.q 4 (.mv (.val (.bool false)))]) (.seq (.reg none [.q 6 (.mks 1 [.int .i64 0] 3 [(0, (.val (.int .i64 1))), (1, (.val (.int .i64 2))), (2, (.val (.int .i64 4)))]), .q 5 (.mv (.tmp 6))]) (.seq (.reg none [.q 7 (.mv (.tmp 0)), .q 8 (.mv (.tmp 5)), .q 9 (.mv (.tmp 1)), .q 10 (.iaddrS 1 (.tmp 8) (.tmp 9)), .q 11 (.load 1 false (.tmp 10)), .q 12 (.bin .quo (.tmp 7) (.tmp 11)), .q 13 (.bin .rem (.tmp 12) (.val (.int .i64 2))), .q 14 (.bin .eql (.tmp 13) (.val (.int .i64 1))), .q 4 (.mv (.tmp 14))]) .ret)))
def R79 : List LRes := [.tmp 4]
theorem low79 : Tryz.f79.body.bind (lowerCode Tryz.prog 15) = some L79 := by kernel_rfl
theorem res79 : lowerRes Tryz.prog Tryz.f79.results.toList = some R79 := by kernel_rfl
set_option maxRecDepth 100000 in
def L80 : LC := (.seq (.reg none [.q 6 (.mv (.val (.bool false)))]) (.seq (.reg none [.q 7 (.mv (.tmp 0)), .q 8 (.mv (.tmp 1)), .q 9 (.bin .geq (.tmp 7) (.tmp 8)), .q 10 (.mv (.tmp 9)), .g 11 (.mv (.tmp 0)) 10 true, .g 12 (.mv (.tmp 2)) 10 true, .g 13 (.bin .leq (.tmp 11) (.tmp 12)) 10 true, .q 14 (.pick (.tmp 10) (.tmp 13) (.val (.bool false))), .q 6 (.mv (.tmp 14))]) .ret))
def R80 : List LRes := [.tmp 6]
theorem low80 : Tryz.f80.body.bind (lowerCode Tryz.prog 15) = some L80 := by kernel_rfl
theorem res80 : lowerRes Tryz.prog Tryz.f80.results.toList = some R80 := by kernel_rfl
set_option maxRecDepth 100000 in
def L81 : LC := (.seq (.reg none [.q 4 (.mv (.val (.int .i64 0)))]) (.seq (.block 0 (.seq (.reg none [.q 6 (.mv (.tmp 0)), .q 7 (.mv (.tmp 1)), .q 8 (.bin .lss (.tmp 6) (.tmp 7)), .q 5 (.mv (.tmp 8))]) (.cond (.tmp 5) (.seq (.reg none [.q 4 (.mv (.val (.int .i64 (-1))))]) .ret) (.seq (.reg none [.q 10 (.mv (.tmp 0)), .q 11 (.mv (.tmp 1)), .q 12 (.bin .gtr (.tmp 10) (.tmp 11)), .q 9 (.mv (.tmp 12))]) (.cond (.tmp 9) (.seq (.reg none [.q 4 (.mv (.val (.int .i64 1)))]) .ret) .skip))))) (.seq (.reg none [.q 4 (.mv (.val (.int .i64 0)))]) .ret)))
def R81 : List LRes := [.tmp 4]
theorem low81 : Tryz.f81.body.bind (lowerCode Tryz.prog 13) = some L81 := by kernel_rfl
theorem res81 : lowerRes Tryz.prog Tryz.f81.results.toList = some R81 := by kernel_rfl
set_option maxRecDepth 100000 in
def L82 : LC := (.seq (.reg none [.q 4 (.mv (.val (.int .i64 0)))]) (.seq (.seq (.reg none [.q 6 (.mv (.tmp 0)), .q 7 (.len false (.tmp 6)), .q 8 (.mv (.val (.int .i64 0)))]) (.block 0 (.loop (.seq (.reg none [.q 9 (.bin .lss (.tmp 8) (.tmp 7))]) (.seq (.cond (.tmp 9) .skip (.exit 0)) (.seq (.block 1 (.seq (.reg none [.q 10 (.mv (.tmp 8)), .q 5 (.mv (.tmp 10))]) (.seq (.reg none [.q 11 (.mv (.tmp 1)), .q 12 (.mv (.tmp 0)), .q 13 (.mv (.tmp 5)), .q 14 (.iaddrS 2 (.tmp 12) (.tmp 13)), .q 15 (.load 2 true (.tmp 14)), .q 16 (.callv (.tmp 11) [.tmp 15])]) (.cond (.tmp 16) (.seq (.reg none [.q 17 (.mv (.tmp 5)), .q 4 (.mv (.tmp 17))]) .ret) .skip)))) (.reg none [.q 18 (.bin .add (.tmp 8) (.val (.int .i64 1))), .q 8 (.mv (.tmp 18))]))))))) (.seq (.reg none [.q 4 (.mv (.val (.int .i64 (-1))))]) .ret)))
def R82 : List LRes := [.tmp 4]
theorem low82 : Tryz.f82.body.bind (lowerCode Tryz.prog 19) = some L82 := by kernel_rfl
theorem res82 : lowerRes Tryz.prog Tryz.f82.results.toList = some R82 := by kernel_rfl
set_option maxRecDepth 100000 in
def L83 : LC := (.seq (.reg none [.q 4 (.mv (.val .nilsl))]) (.seq (.reg none [.q 10 (.mv (.tmp 0)), .q 11 (.call 87 [.tmp 10] 0), .q 5 (.alloc [.nilp]), .s (.store 1 (.tmp 5) (.tmp 11))]) (.seq (.reg none [.q 12 (.mv (.tmp 0)), .q 13 (.mv (.tmp 1)), .q 14 (.call 88 [.tmp 12, .tmp 13] 0), .q 6 (.mv (.tmp 14))]) (.seq (.reg none [.q 7 (.mv (.val .nilsl))]) (.seq (.seq (.reg none [.q 15 (.mv (.tmp 6)), .q 16 (.len false (.tmp 15)), .q 17 (.mv (.val (.int .i64 0)))]) (.block 0 (.loop (.seq (.reg none [.q 18 (.bin .lss (.tmp 17) (.tmp 16))]) (.seq (.cond (.tmp 18) .skip (.exit 0)) (.seq (.block 1 (.seq (.reg none [.q 19 (.iaddrS 5 (.tmp 15) (.tmp 17)), .q 20 (.load 5 true (.tmp 19)), .q 9 (.alloc [.int .i64 0, .int .i64 0, .int .i64 0, .str ⟨#[]⟩, .nilsl]), .s (.store 5 (.tmp 9) (.tmp 20))]) (.seq (.reg none [.q 21 (.mv (.tmp 6)), .q 22 (.clo 89 [.tmp 5, .tmp 9]), .q 23 (.call 33 [.tmp 21, .tmp 22] 0), .q 24 (.not (.tmp 23))]) (.cond (.tmp 24) (.reg none [.q 25 (.mv (.tmp 7)), .q 26 (.addr 0 (.tmp 9)), .q 27 (.load 2 true (.tmp 26)), .q 28 (.mks 2 [.int .i64 0, .int .i64 0] 1 [(0, (.tmp 27))]), .q 29 (.append 50 2 16 (.tmp 25) (.tmp 28)), .q 7 (.mv (.tmp 29))]) .skip)))) (.reg none [.q 30 (.bin .add (.tmp 17) (.val (.int .i64 1))), .q 17 (.mv (.tmp 30))]))))))) (.seq (.reg none [.q 31 (.mv (.tmp 7)), .q 32 (.call 91 [.tmp 31, .val (.clo 68 [])] 1)]) (.seq (.reg none [.q 33 (.mv (.tmp 7)), .q 4 (.mv (.tmp 33))]) .ret)))))))
def R83 : List LRes := [.tmp 4]
theorem low83 : Tryz.f83.body.bind (lowerCode Tryz.prog 34) = some L83 := by kernel_rfl
theorem res83 : lowerRes Tryz.prog Tryz.f83.results.toList = some R83 := by kernel_rfl
set_option maxRecDepth 100000 in
def L86 : LC := (.seq (.reg none [.q 2 (.box (.tmp 0)), .q 3 (.mv (.val (.bool false)))]) (.seq (.reg (some []) [.z 4 (.load 1 false (.tmp 1)), .z 5 (.nilchk (.tmp 4)), .z 6 (.addr 0 (.tmp 5)), .z 7 (.addr 1 (.tmp 6)), .z 8 (.load 1 false (.tmp 7)), .z 9 (.load 5 true (.tmp 2)), .q 10 (.call 52 [.tmp 8, .tmp 9] 0), .q 3 (.mv (.tmp 10))]) .ret))
def R86 : List LRes := [.tmp 3]
theorem low86 : Tryz.f86.body.bind (lowerCode Tryz.prog 11) = some L86 := by kernel_rfl
theorem res86 : lowerRes Tryz.prog Tryz.f86.results.toList = some R86 := by kernel_rfl
set_option maxRecDepth 100000 in
def L87 : LC := (.seq (.reg none [.q 2 (.mv (.val .nilp))]) (.seq (.reg none [.q 9 (.mv (.tmp 0)), .q 10 (.build [.nilsl, .nilsl] [(0, (1, (.tmp 9)))]), .q 11 (.box (.tmp 10)), .q 3 (.mv (.tmp 11))]) (.seq (.seq (.reg none [.q 12 (.mv (.tmp 0)), .q 13 (.len false (.tmp 12)), .q 14 (.mv (.val (.int .i64 0)))]) (.block 0 (.loop (.seq (.reg none [.q 15 (.bin .lss (.tmp 14) (.tmp 13))]) (.seq (.cond (.tmp 15) .skip (.exit 0)) (.seq (.block 1 (.seq (.reg none [.q 16 (.iaddrS 5 (.tmp 12) (.tmp 14)), .q 17 (.load 5 true (.tmp 16)), .q 5 (.alloc [.int .i64 0, .int .i64 0, .int .i64 0, .str ⟨#[]⟩, .nilsl]), .s (.store 5 (.tmp 5) (.tmp 17))]) (.seq (.reg none [.q 6 (.mv (.val .nilsl))]) (.seq (.seq (.reg none [.q 18 (.addr 4 (.tmp 5)), .q 19 (.load 1 false (.tmp 18)), .q 20 (.len false (.tmp 19)), .q 21 (.mv (.val (.int .i64 0)))]) (.block 2 (.loop (.seq (.reg none [.q 22 (.bin .lss (.tmp 21) (.tmp 20))]) (.seq (.cond (.tmp 22) .skip (.exit 2)) (.seq (.block 3 (.seq (.reg none [.q 23 (.iaddrS 2 (.tmp 19) (.tmp 21)), .q 24 (.load 2 true (.tmp 23)), .q 8 (.alloc [.int .i64 0, .int .i64 0]), .s (.store 2 (.tmp 8) (.tmp 24))]) (.reg (some [(3, 5)]) [.q 25 (.mv (.tmp 6)), .z 26 (.load 2 true (.tmp 8)), .q 27 (.mks 2 [.int .i64 0, .int .i64 0] 1 [(0, (.tmp 26))]), .z 28 (.append 50 2 16 (.tmp 25) (.tmp 27)), .q 29 (.mv (.tmp 3)), .z 30 (.load 2 true (.tmp 8)), .q 31 (.call 93 [.tmp 29, .tmp 30] 0), .q 32 (.append 50 2 16 (.tmp 28) (.tmp 31)), .q 6 (.mv (.tmp 32))]))) (.reg none [.q 33 (.bin .add (.tmp 21) (.val (.int .i64 1))), .q 21 (.mv (.tmp 33))]))))))) (.seq (.reg none [.q 34 (.mv (.tmp 6)), .q 35 (.call 91 [.tmp 34, .val (.clo 68 [])] 1)]) (.reg (some [(2, 6), (3, 6), (4, 6)]) [.q 36 (.mv (.tmp 3)), .q 37 (.mv (.tmp 3)), .z 38 (.nilchk (.tmp 37)), .z 39 (.addr 1 (.tmp 38)), .z 40 (.load 1 false (.tmp 39)), .q 41 (.mv (.tmp 6)), .z 42 (.call 94 [.tmp 41] 1), .q 43 (.mks 1 [.nilsl] 1 [(0, (.tmp 42))]), .q 44 (.append 51 1 24 (.tmp 40) (.tmp 43)), .q 45 (.nilchk (.tmp 36)), .q 46 (.addr 1 (.tmp 45)), .s (.store 1 (.tmp 46) (.tmp 44))])))))) (.reg none [.q 47 (.bin .add (.tmp 14) (.val (.int .i64 1))), .q 14 (.mv (.tmp 47))]))))))) (.seq (.reg none [.q 48 (.mv (.tmp 3)), .q 2 (.mv (.tmp 48))]) .ret))))
def R87 : List LRes := [.tmp 2]
theorem low87 : Tryz.f87.body.bind (lowerCode Tryz.prog 49) = some L87 := by kernel_rfl
theorem res87 : lowerRes Tryz.prog Tryz.f87.results.toList = some R87 := by kernel_rfl
set_option maxRecDepth 100000 in
def L88 : LC := (.seq (.reg none [.q 4 (.mv (.val .nilsl))]) (.seq (.reg none [.q 5 (.mv (.val .nilsl))]) (.seq (.seq (.reg none [.q 8 (.mv (.tmp 0)), .q 9 (.len false (.tmp 8)), .q 10 (.mv (.val (.int .i64 0)))]) (.block 0 (.loop (.seq (.reg none [.q 11 (.bin .lss (.tmp 10) (.tmp 9))]) (.seq (.cond (.tmp 11) .skip (.exit 0)) (.seq (.block 1 (.seq (.reg none [.q 12 (.iaddrS 5 (.tmp 8) (.tmp 10)), .q 13 (.load 5 true (.tmp 12)), .q 7 (.alloc [.int .i64 0, .int .i64 0, .int .i64 0, .str ⟨#[]⟩, .nilsl]), .s (.store 5 (.tmp 7) (.tmp 13))]) (.seq (.reg none [.q 14 (.addr 2 (.tmp 7)), .q 15 (.load 1 false (.tmp 14)), .q 16 (.mv (.tmp 1)), .q 17 (.bin .and (.tmp 15) (.tmp 16)), .q 18 (.bin .neq (.tmp 17) (.val (.int .i64 0)))]) (.cond (.tmp 18) (.reg none [.q 19 (.mv (.tmp 5)), .q 20 (.load 5 true (.tmp 7)), .q 21 (.mks 5 [.int .i64 0, .int .i64 0, .int .i64 0, .str ⟨#[]⟩, .nilsl] 1 [(0, (.tmp 20))]), .q 22 (.append 53 5 64 (.tmp 19) (.tmp 21)), .q 5 (.mv (.tmp 22))]) .skip)))) (.reg none [.q 23 (.bin .add (.tmp 10) (.val (.int .i64 1))), .q 10 (.mv (.tmp 23))]))))))) (.seq (.reg none [.q 24 (.mv (.tmp 5)), .q 4 (.mv (.tmp 24))]) .ret))))
def R88 : List LRes := [.tmp 4]
theorem low88 : Tryz.f88.body.bind (lowerCode Tryz.prog 25) = some L88 := by kernel_rfl
theorem res88 : lowerRes Tryz.prog Tryz.f88.results.toList = some R88 := by kernel_rfl
set_option maxRecDepth 100000 in
def L89 : LC := (.seq (.reg none [.q 3 (.box (.tmp 0)), .q 4 (.mv (.val (.bool false)))]) (.seq (.reg none [.q 5 (.load 1 false (.tmp 1)), .q 6 (.addr 0 (.tmp 2)), .q 7 (.load 2 true (.tmp 6)), .q 8 (.addr 0 (.tmp 3)), .q 9 (.load 2 true (.tmp 8)), .q 10 (.call 90 [.tmp 5, .tmp 7, .tmp 9] 0), .q 4 (.mv (.tmp 10))]) .ret))
def R89 : List LRes := [.tmp 4]
theorem low89 : Tryz.f89.body.bind (lowerCode Tryz.prog 11) = some L89 := by kernel_rfl
theorem res89 : lowerRes Tryz.prog Tryz.f89.results.toList = some R89 := by kernel_rfl
set_option maxRecDepth 100000 in
def L90 : LC := (.seq (.reg none [.q 4 (.box (.tmp 1)), .q 5 (.box (.tmp 2)), .q 6 (.mv (.val (.bool false)))]) (.seq (.reg (some []) [.q 7 (.mv (.tmp 0)), .z 8 (.load 2 true (.tmp 5)), .z 9 (.call 93 [.tmp 7, .tmp 8] 0), .z 10 (.load 2 true (.tmp 4)), .q 11 (.call 95 [.tmp 9, .tmp 10] 0), .q 6 (.mv (.tmp 11))]) .ret))
def R90 : List LRes := [.tmp 6]
theorem low90 : Tryz.f90.body.bind (lowerCode Tryz.prog 12) = some L90 := by kernel_rfl
theorem res90 : lowerRes Tryz.prog Tryz.f90.results.toList = some R90 := by kernel_rfl
set_option maxRecDepth 100000 in
def L93 : LC := (.seq (.reg none [.q 3 (.box (.tmp 1)), .q 4 (.mv (.val .nilsl))]) (.seq (.reg (some []) [.q 5 (.mv (.tmp 0)), .z 6 (.nilchk (.tmp 5)), .z 7 (.addr 1 (.tmp 6)), .z 8 (.load 1 false (.tmp 7)), .q 9 (.mv (.tmp 0)), .z 10 (.nilchk (.tmp 9)), .z 11 (.addr 0 (.tmp 10)), .z 12 (.load 1 false (.tmp 11)), .z 13 (.load 2 true (.tmp 3)), .z 14 (.call 51 [.tmp 12, .tmp 13] 0), .q 15 (.iaddrS 1 (.tmp 8) (.tmp 14)), .q 16 (.load 1 false (.tmp 15)), .q 4 (.mv (.tmp 16))]) .ret))
def R93 : List LRes := [.tmp 4]
theorem low93 : Tryz.f93.body.bind (lowerCode Tryz.prog 17) = some L93 := by kernel_rfl
theorem res93 : lowerRes Tryz.prog Tryz.f93.results.toList = some R93 := by kernel_rfl
set_option maxRecDepth 100000 in
def L95 : LC := (.seq (.reg none [.q 3 (.box (.tmp 1)), .q 4 (.mv (.val (.bool false)))]) (.seq (.reg none [.q 5 (.mv (.tmp 0)), .q 6 (.load 2 true (.tmp 3)), .q 7 (.call 99 [.tmp 5, .tmp 6] 0), .q 8 (.bin .geq (.tmp 7) (.val (.int .i64 0))), .q 4 (.mv (.tmp 8))]) .ret))
def R95 : List LRes := [.tmp 4]
theorem low95 : Tryz.f95.body.bind (lowerCode Tryz.prog 9) = some L95 := by kernel_rfl
theorem res95 : lowerRes Tryz.prog Tryz.f95.results.toList = some R95 := by kernel_rfl
set_option maxRecDepth 100000 in
def L99 : LC := (.seq (.reg none [.q 3 (.box (.tmp 1)), .q 4 (.mv (.val (.int .i64 0)))]) (.seq (.seq (.reg none [.q 6 (.mv (.tmp 0)), .q 7 (.len false (.tmp 6)), .q 8 (.mv (.val (.int .i64 0)))]) (.block 0 (.loop (.seq (.reg none [.q 9 (.bin .lss (.tmp 8) (.tmp 7))]) (.seq (.cond (.tmp 9) .skip (.exit 0)) (.seq (.block 1 (.seq (.reg none [.q 10 (.mv (.tmp 8)), .q 5 (.mv (.tmp 10))]) (.seq (.reg (some []) [.z 11 (.load 2 true (.tmp 3)), .q 12 (.mv (.tmp 0)), .q 13 (.mv (.tmp 5)), .z 14 (.iaddrS 2 (.tmp 12) (.tmp 13)), .z 15 (.load 2 true (.tmp 14)), .q 16 (.eqag false [.i, .i] (.tmp 11) (.tmp 15))]) (.cond (.tmp 16) (.seq (.reg none [.q 17 (.mv (.tmp 5)), .q 4 (.mv (.tmp 17))]) .ret) .skip)))) (.reg none [.q 18 (.bin .add (.tmp 8) (.val (.int .i64 1))), .q 8 (.mv (.tmp 18))]))))))) (.seq (.reg none [.q 4 (.mv (.val (.int .i64 (-1))))]) .ret)))
def R99 : List LRes := [.tmp 4]
theorem low99 : Tryz.f99.body.bind (lowerCode Tryz.prog 19) = some L99 := by kernel_rfl
theorem res99 : lowerRes Tryz.prog Tryz.f99.results.toList = some R99 := by kernel_rfl
end Go.Proofs.YtkgobnnkcnnfhaaGreat
namespace Go.Proofs.YtkgobnnkcnnfhaaGreat
set_option linter.unusedSimpArgs false
set_option linter.unusedVariables false
open Go.RowKit
theorem within_meets (n a b : Int) : Meets Tryz.prog 80 [.int .i64 n, .int .i64 a, .int .i64 b] [] (.bool (wthn n a b)) [] := by
 refine Meets.of_walk Tryz.func80 Tryz.ntmps80 low80 res80 (by simp) fun x hx => ?_
 by_cases h : a ≤ n
 all_goals
  simp only [go_sem, Nat.reduceLT, Nat.reduceAdd, Nat.reduceEqDiff, Nat.reduceLeDiff, Nat.reduceSub, Nat.reduceMul, Int.reduceEq, reduceIte, L80, R80, h, decide_true, decide_false]
  refine ret_pure hx ?_
  simp only [go_sem, Nat.reduceLT, Nat.reduceAdd, Nat.reduceEqDiff, Nat.reduceLeDiff, Nat.reduceSub, Nat.reduceMul, Int.reduceEq, reduceIte, L80, R80, wthn, h, decide_false, true_and, false_and]
theorem id_meets (r n : Int) : Meets Tryz.prog 66 [.agg [.int .i64 r, .int .i64 n]] [] (.bool (okId ⟨r, n⟩)) [] := by
 refine Meets.of_walk Tryz.func66 Tryz.ntmps66 low66 res66 (by simp) fun x hx => ?_
 simp only [go_sem, Nat.reduceLT, Nat.reduceAdd, Nat.reduceEqDiff, Nat.reduceLeDiff, Nat.reduceSub, Nat.reduceMul, Int.reduceEq, reduceIte, L66, R66]
 refine ops_call (.pure (within_meets _ _ _)) ?_
 cases h : wthn r 0 1
 ·
  simp only [go_sem, Nat.reduceLT, Nat.reduceAdd, Nat.reduceEqDiff, Nat.reduceLeDiff, Nat.reduceSub, Nat.reduceMul, Int.reduceEq, reduceIte]
  refine ret_pure hx ?_
  simp [go_sem, Nat.reduceLT, Nat.reduceAdd, Nat.reduceEqDiff, Nat.reduceLeDiff, Nat.reduceSub, Nat.reduceMul, Int.reduceEq, reduceIte, L66, R66, okId, h]
 ·
  simp only [go_sem, Nat.reduceLT, Nat.reduceAdd, Nat.reduceEqDiff, Nat.reduceLeDiff, Nat.reduceSub, Nat.reduceMul, Int.reduceEq, reduceIte]
  refine ops_call (.pure (within_meets _ _ _)) ?_
  simp only [go_sem, Nat.reduceLT, Nat.reduceAdd, Nat.reduceEqDiff, Nat.reduceLeDiff, Nat.reduceSub, Nat.reduceMul, Int.reduceEq, reduceIte]
  refine ret_pure hx ?_
  simp [go_sem, Nat.reduceLT, Nat.reduceAdd, Nat.reduceEqDiff, Nat.reduceLeDiff, Nat.reduceSub, Nat.reduceMul, Int.reduceEq, reduceIte, L66, R66, okId, h]
end Go.Proofs.YtkgobnnkcnnfhaaGreat
namespace Go.Proofs.YtkgobnnkcnnfhaaGreat
set_option linter.unusedSimpArgs false
set_option linter.unusedVariables false
open Go.RowKit
theorem cmp_meets (a b : Int) : Meets Tryz.prog 81 [.int .i64 a, .int .i64 b] [] (.int .i64 (cmpI a b)) [] := by
 refine Meets.of_walk Tryz.func81 Tryz.ntmps81 low81 res81 (by simp) fun x hx => ?_
 by_cases h : a < b
 ·
  simp only [go_sem, Nat.reduceLT, Nat.reduceAdd, Nat.reduceEqDiff, Nat.reduceLeDiff, Nat.reduceSub, Nat.reduceMul, Int.reduceEq, reduceIte, L81, R81, h, decide_true]
  refine ret_pure hx ?_
  simp [go_sem, Nat.reduceLT, Nat.reduceAdd, Nat.reduceEqDiff, Nat.reduceLeDiff, Nat.reduceSub, Nat.reduceMul, Int.reduceEq, reduceIte, L81, R81, cmpI, h]
 ·
  by_cases h2 : b < a
  ·
   simp only [go_sem, Nat.reduceLT, Nat.reduceAdd, Nat.reduceEqDiff, Nat.reduceLeDiff, Nat.reduceSub, Nat.reduceMul, Int.reduceEq, reduceIte, L81, R81, h, h2, decide_true, decide_false]
   refine ret_pure hx ?_
   simp [go_sem, Nat.reduceLT, Nat.reduceAdd, Nat.reduceEqDiff, Nat.reduceLeDiff, Nat.reduceSub, Nat.reduceMul, Int.reduceEq, reduceIte, L81, R81, cmpI, h, h2]
  ·
   simp only [go_sem, Nat.reduceLT, Nat.reduceAdd, Nat.reduceEqDiff, Nat.reduceLeDiff, Nat.reduceSub, Nat.reduceMul, Int.reduceEq, reduceIte, L81, R81, h, h2, decide_false]
   refine ret_pure hx ?_
   simp [go_sem, Nat.reduceLT, Nat.reduceAdd, Nat.reduceEqDiff, Nat.reduceLeDiff, Nat.reduceSub, Nat.reduceMul, Int.reduceEq, reduceIte, L81, R81, cmpI, h, h2]
def cId (x : Id) : List PV := [.int .i64 x.r, .int .i64 x.n]
theorem order_meets (a b : Id) : Meets Tryz.prog 68 [.agg (cId a), .agg (cId b)] [] (.int .i64 (ordI a b)) [] := by
 refine Meets.of_walk Tryz.func68 Tryz.ntmps68 low68 res68 (by simp) fun x hx => ?_
 simp only [go_sem, Nat.reduceLT, Nat.reduceAdd, Nat.reduceEqDiff, Nat.reduceLeDiff, Nat.reduceSub, Nat.reduceMul, Int.reduceEq, reduceIte, L68, R68, cId]
 refine ops_callv rfl (by kernel_rfl) (.pure (cmp_meets _ _)) ?_
 by_cases h : cmpI a.r b.r = 0
 ·
  simp only [go_sem, Nat.reduceLT, Nat.reduceAdd, Nat.reduceEqDiff, Nat.reduceLeDiff, Nat.reduceSub, Nat.reduceMul, Int.reduceEq, reduceIte, h, decide_true, decide_false]
  refine ops_callv rfl (by kernel_rfl) (.pure (cmp_meets _ _)) ?_
  simp only [go_sem, Nat.reduceLT, Nat.reduceAdd, Nat.reduceEqDiff, Nat.reduceLeDiff, Nat.reduceSub, Nat.reduceMul, Int.reduceEq, reduceIte]
  refine ret_pure hx ?_
  simp [go_sem, Nat.reduceLT, Nat.reduceAdd, Nat.reduceEqDiff, Nat.reduceLeDiff, Nat.reduceSub, Nat.reduceMul, Int.reduceEq, reduceIte, L68, R68, ordI, h]
 ·
  simp only [go_sem, Nat.reduceLT, Nat.reduceAdd, Nat.reduceEqDiff, Nat.reduceLeDiff, Nat.reduceSub, Nat.reduceMul, Int.reduceEq, reduceIte, h, decide_true, decide_false]
  refine ret_pure hx ?_
  simp [go_sem, Nat.reduceLT, Nat.reduceAdd, Nat.reduceEqDiff, Nat.reduceLeDiff, Nat.reduceSub, Nat.reduceMul, Int.reduceEq, reduceIte, L68, R68, ordI, h]
theorem less_meets (a b : Id) : Meets Tryz.prog 50 [.agg (cId a), .agg (cId b)] [] (.bool (lessB a b)) [] := by
 refine Meets.of_walk Tryz.func50 Tryz.ntmps50 low50 res50 (by simp) fun x hx => ?_
 simp only [go_sem, Nat.reduceLT, Nat.reduceAdd, Nat.reduceEqDiff, Nat.reduceLeDiff, Nat.reduceSub, Nat.reduceMul, Int.reduceEq, reduceIte, L50, R50, cId]
 refine ops_call (.pure (order_meets a b)) ?_
 have h : lessB a b = decide (ordI a b < 0) := by rw [Bool.eq_iff_iff, decide_eq_true_iff, ordI_lt]
 simp only [go_sem, Nat.reduceLT, Nat.reduceAdd, Nat.reduceEqDiff, Nat.reduceLeDiff, Nat.reduceSub, Nat.reduceMul, Int.reduceEq, reduceIte]
 refine ret_pure hx ?_
 simp only [go_sem, Nat.reduceLT, Nat.reduceAdd, Nat.reduceEqDiff, Nat.reduceLeDiff, Nat.reduceSub, Nat.reduceMul, Int.reduceEq, reduceIte, L50, R50, h]
theorem colors_meets (n : Int) : Meets Tryz.prog 67 [.int .i64 n] [] (.bool (wthn n 1 7)) [] := by
 refine Meets.of_walk Tryz.func67 Tryz.ntmps67 low67 res67 (by simp) fun x hx => ?_
 simp only [go_sem, Nat.reduceLT, Nat.reduceAdd, Nat.reduceEqDiff, Nat.reduceLeDiff, Nat.reduceSub, Nat.reduceMul, Int.reduceEq, reduceIte, L67, R67]
 refine ops_call (.pure (within_meets _ _ _)) ?_
 simp only [go_sem, Nat.reduceLT, Nat.reduceAdd, Nat.reduceEqDiff, Nat.reduceLeDiff, Nat.reduceSub, Nat.reduceMul, Int.reduceEq, reduceIte]
 refine ret_pure hx ?_
 simp only [go_sem, Nat.reduceLT, Nat.reduceAdd, Nat.reduceEqDiff, Nat.reduceLeDiff, Nat.reduceSub, Nat.reduceMul, Int.reduceEq, reduceIte, L67, R67]
end Go.Proofs.YtkgobnnkcnnfhaaGreat
namespace Go.Proofs.YtkgobnnkcnnfhaaGreat
set_option linter.unusedSimpArgs false
set_option linter.unusedVariables false
open Go.RowKit
def cE (e : Entry) : List PV := [.int .i64 e.id.r, .int .i64 e.id.n, .int .i64 e.c, .str e.t, .list (e.ls.map cId)]
theorem check_meets (e : Entry) : Meets Tryz.prog 49 [.agg (cE e)] [] (.int .i64 (checkEntry e)) [] := by
 refine Meets.of_walk Tryz.func49 Tryz.ntmps49 low49 res49 (by simp) fun x hx => ?_
 simp only [go_sem, Nat.reduceLT, Nat.reduceAdd, Nat.reduceEqDiff, Nat.reduceLeDiff, Nat.reduceSub, Nat.reduceMul, Int.reduceEq, reduceIte, L49, R49, cE]
 refine ops_call (.pure (id_meets _ _)) ?_
 cases h1 : okId e.id
 ·
  simp only [go_sem, Nat.reduceLT, Nat.reduceAdd, Nat.reduceEqDiff, Nat.reduceLeDiff, Nat.reduceSub, Nat.reduceMul, Int.reduceEq, reduceIte]
  refine ret_pure hx ?_
  simp [go_sem, Nat.reduceLT, Nat.reduceAdd, Nat.reduceEqDiff, Nat.reduceLeDiff, Nat.reduceSub, Nat.reduceMul, Int.reduceEq, reduceIte, L49, R49, checkEntry, h1]
 simp only [go_sem, Nat.reduceLT, Nat.reduceAdd, Nat.reduceEqDiff, Nat.reduceLeDiff, Nat.reduceSub, Nat.reduceMul, Int.reduceEq, reduceIte]
 refine ops_call (.pure (colors_meets _)) ?_
 cases h2 : wthn e.c 1 7
 ·
  simp only [go_sem, Nat.reduceLT, Nat.reduceAdd, Nat.reduceEqDiff, Nat.reduceLeDiff, Nat.reduceSub, Nat.reduceMul, Int.reduceEq, reduceIte]
  refine ret_pure hx ?_
  simp [go_sem, Nat.reduceLT, Nat.reduceAdd, Nat.reduceEqDiff, Nat.reduceLeDiff, Nat.reduceSub, Nat.reduceMul, Int.reduceEq, reduceIte, L49, R49, checkEntry, h1, h2]
 by_cases h3 : 12 < e.t.size
 ·
  have h3' : decide ((12 : Int) < e.t.size) = true := by simp; omega
  simp only [go_sem, Nat.reduceLT, Nat.reduceAdd, Nat.reduceEqDiff, Nat.reduceLeDiff, Nat.reduceSub, Nat.reduceMul, Int.reduceEq, reduceIte, h3']
  refine ret_pure hx ?_
  simp [go_sem, Nat.reduceLT, Nat.reduceAdd, Nat.reduceEqDiff, Nat.reduceLeDiff, Nat.reduceSub, Nat.reduceMul, Int.reduceEq, reduceIte, L49, R49, checkEntry, h1, h2, h3]
 have h3' : decide ((12 : Int) < e.t.size) = false := by simp; omega
 by_cases h4 : 6 < e.ls.length
 ·
  have h4' : decide ((6 : Int) < (e.ls.length : Nat)) = true := by simp; omega
  simp only [go_sem, Nat.reduceLT, Nat.reduceAdd, Nat.reduceEqDiff, Nat.reduceLeDiff, Nat.reduceSub, Nat.reduceMul, Int.reduceEq, reduceIte, h3', h4']
  refine ret_pure hx ?_
  simp [go_sem, Nat.reduceLT, Nat.reduceAdd, Nat.reduceEqDiff, Nat.reduceLeDiff, Nat.reduceSub, Nat.reduceMul, Int.reduceEq, reduceIte, L49, R49, checkEntry, h1, h2, h3, h4]
 have h4' : decide ((6 : Int) < (e.ls.length : Nat)) = false := by simp; omega
 have hc : checkEntry e = firstNZ (linkErr e.id e.ls) e.ls.length := by simp [checkEntry, h1, h2, h3, h4]
 simp only [go_sem, Nat.reduceLT, Nat.reduceAdd, Nat.reduceEqDiff, Nat.reduceLeDiff, Nat.reduceSub, Nat.reduceMul, Int.reduceEq, reduceIte, h3', h4', hc]
 refine loop_inv [1, 28, 29, 30] 1 (fun n st => ∃ k : Nat, k + n = e.ls.length ∧ firstNZ (linkErr e.id e.ls) k = 0 ∧
  st = ⟨mkE .top [(1, .ptr 0 0), (28, .list (e.ls.map cId)), (29, .int .i64 e.ls.length), (30, .int .i64 k)], [.box (cE e)]⟩) e.ls.length (by simp [hx]) (by simp) ?_ ?_
 ·
  refine ⟨0, by omega, rfl, ?_⟩
  simp [trim_mk, go_sem, Nat.reduceLT, Nat.reduceAdd, Nat.reduceEqDiff, Nat.reduceLeDiff, Nat.reduceSub, Nat.reduceMul, Int.reduceEq, reduceIte, subHeap, renObj, pos, List.range_succ, cE]
 ·
  rintro n st ⟨k, hk, hz, rfl⟩
  simp only [go_sem, Nat.reduceLT, Nat.reduceAdd, Nat.reduceEqDiff, Nat.reduceLeDiff, Nat.reduceSub, Nat.reduceMul, Int.reduceEq, reduceIte, cE]
  by_cases hlt : k < e.ls.length
  ·
   have hg : e.ls[k]? = some (nth e.ls k) := nth_get? _ _ hlt
   simp only [go_sem, Nat.reduceLT, Nat.reduceAdd, Nat.reduceEqDiff, Nat.reduceLeDiff, Nat.reduceSub, Nat.reduceMul, Int.reduceEq, reduceIte, hlt, hg, cId]
   refine ops_call (.pure (id_meets _ _)) ?_
   cases h5 : okId (nth e.ls k)
   ·
    have h5' : okId ⟨(nth e.ls k).r, (nth e.ls k).n⟩ = false := h5
    simp only [go_sem, Nat.reduceLT, Nat.reduceAdd, Nat.reduceEqDiff, Nat.reduceLeDiff, Nat.reduceSub, Nat.reduceMul, Int.reduceEq, reduceIte, h5']
    refine ret_pure hx ?_
    have : linkErr e.id e.ls k = 3 := by simp [linkErr, h5]
    simp only [go_sem, Nat.reduceLT, Nat.reduceAdd, Nat.reduceEqDiff, Nat.reduceLeDiff, Nat.reduceSub, Nat.reduceMul, Int.reduceEq, reduceIte, hc, firstNZ_hit hz (by rw [this]; decide) hlt, this]
   have h5' : okId ⟨(nth e.ls k).r, (nth e.ls k).n⟩ = true := h5
   have w1 : IntKind.i64.wrap ((k : Int) + 1) = ((k + 1 : Nat) : Int) := by rw [IntWalk.i64_in _ (by omega)]; omega
   have okw : (k = 0 ∨ ordI (nth e.ls (k - 1)) (nth e.ls k) < 0) → lessB (nth e.ls (k - 1)) (nth e.ls k) = true ∨ k = 0 := fun h => by
    rcases h with h | h
    ·
     exact .inr h
    ·
     exact .inl (ordI_lt.1 h)
   by_cases hb : 0 < k ∧ 0 ≤ ordI (nth e.ls (k - 1)) (nth e.ls k)
   ·
    obtain ⟨h0, h6⟩ := hb
    have hg1 : e.ls[k - 1]? = some (nth e.ls (k - 1)) := nth_get? _ _ (by omega)
    have e1 : IntKind.i64.wrap ((k : Int) - 1) = ((k - 1 : Nat) : Int) := by rw [IntWalk.i64_in _ (by omega)]; omega
    have d0 : decide ((0 : Int) < (k : Int)) = true := by simp; omega
    have hlt1 : k - 1 < e.ls.length := by omega
    simp only [go_sem, Nat.reduceLT, Nat.reduceAdd, Nat.reduceEqDiff, Nat.reduceLeDiff, Nat.reduceSub, Nat.reduceMul, Int.reduceEq, reduceIte, h5', d0, hlt1, hg1, e1, cId]
    refine ops_call (.pure (order_meets (nth e.ls (k - 1)) (nth e.ls k))) ?_
    simp only [go_sem, Nat.reduceLT, Nat.reduceAdd, Nat.reduceEqDiff, Nat.reduceLeDiff, Nat.reduceSub, Nat.reduceMul, Int.reduceEq, reduceIte, h6]
    refine ret_pure hx ?_
    have hl : lessB (nth e.ls (k - 1)) (nth e.ls k) = false := by rw [← Bool.not_eq_true, ← ordI_lt]; omega
    have : linkErr e.id e.ls k = 4 := by simp [linkErr, h5, h0, hl]
    simp only [go_sem, Nat.reduceLT, Nat.reduceAdd, Nat.reduceEqDiff, Nat.reduceLeDiff, Nat.reduceSub, Nat.reduceMul, Int.reduceEq, reduceIte, hc, firstNZ_hit hz (by rw [this]; decide) hlt, this]
   ·
    have hok : k = 0 ∨ lessB (nth e.ls (k - 1)) (nth e.ls k) = true := by
     rcases Nat.eq_zero_or_pos k with h | h
     ·
      exact .inl h
     ·
      exact .inr (ordI_lt.1 (by omega))
    have fin : ∀ H : List AObj, 1 ≤ H.length → H.take 1 = [.box (cE e)] → True := fun _ _ _ => trivial
    by_cases h0 : 0 < k
    ·
     have hg1 : e.ls[k - 1]? = some (nth e.ls (k - 1)) := nth_get? _ _ (by omega)
     have e1 : IntKind.i64.wrap ((k : Int) - 1) = ((k - 1 : Nat) : Int) := by rw [IntWalk.i64_in _ (by omega)]; omega
     have d0 : decide ((0 : Int) < (k : Int)) = true := by simp; omega
     have hlt1 : k - 1 < e.ls.length := by omega
     have h6 : ¬ 0 ≤ ordI (nth e.ls (k - 1)) (nth e.ls k) := fun h => hb ⟨h0, h⟩
     have hl : lessB (nth e.ls (k - 1)) (nth e.ls k) = true := ordI_lt.1 (by omega)
     simp only [go_sem, Nat.reduceLT, Nat.reduceAdd, Nat.reduceEqDiff, Nat.reduceLeDiff, Nat.reduceSub, Nat.reduceMul, Int.reduceEq, reduceIte, h5', d0, hlt1, hg1, e1, cId]
     refine ops_call (.pure (order_meets (nth e.ls (k - 1)) (nth e.ls k))) ?_
     by_cases h7 : (nth e.ls k).r = e.id.r <;> by_cases h8 : e.id.n ≤ (nth e.ls k).n <;> simp only [go_sem, Nat.reduceLT, Nat.reduceAdd, Nat.reduceEqDiff, Nat.reduceLeDiff, Nat.reduceSub, Nat.reduceMul, Int.reduceEq, reduceIte, h6, h7, h8]
     ·
      refine ret_pure hx ?_
      have : linkErr e.id e.ls k = 4 := by simp [linkErr, h5, hl, h7, h8]
      simp only [go_sem, Nat.reduceLT, Nat.reduceAdd, Nat.reduceEqDiff, Nat.reduceLeDiff, Nat.reduceSub, Nat.reduceMul, Int.reduceEq, reduceIte, hc, firstNZ_hit hz (by rw [this]; decide) hlt, this]
     all_goals
      have : linkErr e.id e.ls k = 0 := by simp [linkErr, h5, hl, h7, h8]
      refine ⟨by simp, n - 1, by omega, k + 1, by omega, firstNZ_succ hz this, ?_⟩
      simp [trim_mk, go_sem, Nat.reduceLT, Nat.reduceAdd, Nat.reduceEqDiff, Nat.reduceLeDiff, Nat.reduceSub, Nat.reduceMul, Int.reduceEq, reduceIte, subHeap, renObj, pos, List.range_succ, cE, w1]
    ·
     have d0 : decide ((0 : Int) < (k : Int)) = false := by simp; omega
     by_cases h7 : (nth e.ls k).r = e.id.r <;> by_cases h8 : e.id.n ≤ (nth e.ls k).n <;> simp only [go_sem, Nat.reduceLT, Nat.reduceAdd, Nat.reduceEqDiff, Nat.reduceLeDiff, Nat.reduceSub, Nat.reduceMul, Int.reduceEq, reduceIte, h5', d0, h7, h8]
     ·
      refine ret_pure hx ?_
      have : linkErr e.id e.ls k = 4 := by simp [linkErr, h5, h0, h7, h8]
      simp only [go_sem, Nat.reduceLT, Nat.reduceAdd, Nat.reduceEqDiff, Nat.reduceLeDiff, Nat.reduceSub, Nat.reduceMul, Int.reduceEq, reduceIte, hc, firstNZ_hit hz (by rw [this]; decide) hlt, this]
     all_goals
      have : linkErr e.id e.ls k = 0 := by simp [linkErr, h5, h0, h7, h8]
      refine ⟨by simp, n - 1, by omega, k + 1, by omega, firstNZ_succ hz this, ?_⟩
      simp [trim_mk, go_sem, Nat.reduceLT, Nat.reduceAdd, Nat.reduceEqDiff, Nat.reduceLeDiff, Nat.reduceSub, Nat.reduceMul, Int.reduceEq, reduceIte, subHeap, renObj, pos, List.range_succ, cE, w1]
  ·
   simp only [go_sem, Nat.reduceLT, Nat.reduceAdd, Nat.reduceEqDiff, Nat.reduceLeDiff, Nat.reduceSub, Nat.reduceMul, Int.reduceEq, reduceIte, hlt]
   refine ret_pure hx ?_
   simp only [go_sem, Nat.reduceLT, Nat.reduceAdd, Nat.reduceEqDiff, Nat.reduceLeDiff, Nat.reduceSub, Nat.reduceMul, Int.reduceEq, reduceIte]
   first | rw [hc, show e.ls.length = k by omega, hz] | rw [show e.ls.length = k by omega, hz]
end Go.Proofs.YtkgobnnkcnnfhaaGreat
/- What the law texts say of entries, in words of their own: contracts. -/
namespace Go.Proofs.YtkgobnnkcnnfhaaGreat
set_option linter.unusedSimpArgs false
set_option linter.unusedVariables false
open Go.RowKit
theorem between_meets (n a b : Int) : Meets Tryz.prog 21 [.int .i64 n, .int .i64 a, .int .i64 b] [] (.bool (wthn n a b)) [] := by
 refine Meets.of_walk Tryz.func21 Tryz.ntmps21 low21 res21 (by simp) fun x hx => ?_
 by_cases h : a ≤ n
 all_goals
  simp only [go_sem, Nat.reduceLT, Nat.reduceAdd, Nat.reduceEqDiff, Nat.reduceLeDiff, Nat.reduceSub, Nat.reduceMul, Int.reduceEq, reduceIte, L21, R21, h, decide_true, decide_false]
  refine ret_pure hx ?_
  simp only [go_sem, Nat.reduceLT, Nat.reduceAdd, Nat.reduceEqDiff, Nat.reduceLeDiff, Nat.reduceSub, Nat.reduceMul, Int.reduceEq, reduceIte, L21, R21, wthn, h, decide_false, true_and, false_and]
theorem isId_meets (a : Id) : Meets Tryz.prog 43 [.agg (cId a)] [] (.bool (okId a)) [] := by
 refine Meets.of_walk Tryz.func43 Tryz.ntmps43 low43 res43 (by simp) fun x hx => ?_
 simp only [go_sem, Nat.reduceLT, Nat.reduceAdd, Nat.reduceEqDiff, Nat.reduceLeDiff, Nat.reduceSub, Nat.reduceMul, Int.reduceEq, reduceIte, L43, R43, cId]
 refine ops_call (.pure (between_meets _ _ _)) ?_
 cases h : wthn a.r 0 1
 ·
  simp only [go_sem, Nat.reduceLT, Nat.reduceAdd, Nat.reduceEqDiff, Nat.reduceLeDiff, Nat.reduceSub, Nat.reduceMul, Int.reduceEq, reduceIte]
  refine ret_pure hx ?_
  simp [go_sem, Nat.reduceLT, Nat.reduceAdd, Nat.reduceEqDiff, Nat.reduceLeDiff, Nat.reduceSub, Nat.reduceMul, Int.reduceEq, reduceIte, L43, R43, okId, h]
 ·
  simp only [go_sem, Nat.reduceLT, Nat.reduceAdd, Nat.reduceEqDiff, Nat.reduceLeDiff, Nat.reduceSub, Nat.reduceMul, Int.reduceEq, reduceIte]
  refine ops_call (.pure (between_meets _ _ _)) ?_
  simp only [go_sem, Nat.reduceLT, Nat.reduceAdd, Nat.reduceEqDiff, Nat.reduceLeDiff, Nat.reduceSub, Nat.reduceMul, Int.reduceEq, reduceIte]
  refine ret_pure hx ?_
  simp [go_sem, Nat.reduceLT, Nat.reduceAdd, Nat.reduceEqDiff, Nat.reduceLeDiff, Nat.reduceSub, Nat.reduceMul, Int.reduceEq, reduceIte, L43, R43, okId, h]
theorem isAhead_meets (a b : Id) : Meets Tryz.prog 40 [.agg (cId a), .agg (cId b)] [] (.bool (lessB a b)) [] := by
 refine Meets.of_walk Tryz.func40 Tryz.ntmps40 low40 res40 (by simp) fun x hx => ?_
 by_cases h1 : a.r < b.r
 ·
  simp only [go_sem, Nat.reduceLT, Nat.reduceAdd, Nat.reduceEqDiff, Nat.reduceLeDiff, Nat.reduceSub, Nat.reduceMul, Int.reduceEq, reduceIte, L40, R40, cId, h1, decide_true]
  refine ret_pure hx ?_
  simp [go_sem, Nat.reduceLT, Nat.reduceAdd, Nat.reduceEqDiff, Nat.reduceLeDiff, Nat.reduceSub, Nat.reduceMul, Int.reduceEq, reduceIte, L40, R40, lessB, h1]
 ·
  by_cases h2 : a.r = b.r
  ·
   simp only [go_sem, Nat.reduceLT, Nat.reduceAdd, Nat.reduceEqDiff, Nat.reduceLeDiff, Nat.reduceSub, Nat.reduceMul, Int.reduceEq, reduceIte, L40, R40, cId, h1, h2, decide_true, decide_false, Int.lt_irrefl]
   refine ret_pure hx ?_
   simp [go_sem, Nat.reduceLT, Nat.reduceAdd, Nat.reduceEqDiff, Nat.reduceLeDiff, Nat.reduceSub, Nat.reduceMul, Int.reduceEq, reduceIte, L40, R40, lessB, h2]
  ·
   simp only [go_sem, Nat.reduceLT, Nat.reduceAdd, Nat.reduceEqDiff, Nat.reduceLeDiff, Nat.reduceSub, Nat.reduceMul, Int.reduceEq, reduceIte, L40, R40, cId, h1, h2, decide_false]
   refine ret_pure hx ?_
   simp [go_sem, Nat.reduceLT, Nat.reduceAdd, Nat.reduceEqDiff, Nat.reduceLeDiff, Nat.reduceSub, Nat.reduceMul, Int.reduceEq, reduceIte, L40, R40, lessB, h1, h2]
end Go.Proofs.YtkgobnnkcnnfhaaGreat
/- Ids and entries that are the same. -/
namespace Go.Proofs.YtkgobnnkcnnfhaaGreat
set_option linter.unusedSimpArgs false
set_option linter.unusedVariables false
open Go.RowKit
theorem ids_ext' {x y : List Id} (hl : x.length = y.length) (h : ∀ k, k < x.length → nth x k = nth y k) : x = y := by
 refine List.ext_getElem hl fun k h1 h2 => ?_
 have := h k h1
 rwa [nth_eq _ _ h1, nth_eq _ _ h2] at this
theorem i64_up {k : Nat} (h : k < 9223372036854775807) : IntKind.i64.wrap ((k : Int) + 1) = ((k + 1 : Nat) : Int) := by
 rw [IntWalk.i64_in _ (by omega)]; omega
theorem beqId (a b : Id) : (decide (a.r = b.r) && decide (a.n = b.n)) = decide (a = b) := by
 rw [Bool.eq_iff_iff]; simp [Id.eq_iff]
theorem sameIds_meets (a b : List Id) (hm : a.length ≤ 9223372036854775807) : Meets Tryz.prog 61 [.list (a.map cId), .list (b.map cId)] [] (.bool (decide (a = b))) [] := by
 refine Meets.of_walk Tryz.func61 Tryz.ntmps61 low61 res61 (by simp) fun x hx => ?_
 by_cases hl : a.length = b.length
 ·
  have hl' : ((a.length : Int) = (b.length : Int)) = True := by simp [hl]
  simp only [go_sem, Nat.reduceLT, Nat.reduceAdd, Nat.reduceEqDiff, Nat.reduceLeDiff, Nat.reduceSub, Nat.reduceMul, Int.reduceEq, reduceIte, L61, R61, hl']
  refine loop_inv [0, 1, 5] 0 (fun n st => ∃ k : Nat, k + n = a.length ∧ (∀ j, j < k → nth a j = nth b j) ∧
   st = ⟨mkE .top [(0, .list (a.map cId)), (1, .list (b.map cId)), (5, .int .i64 k)], []⟩) a.length (by simp [hx]) (by simp) ?_ ?_
  ·
   refine ⟨0, by omega, fun j h => by omega, ?_⟩
   simp [trim_mk, go_sem, Nat.reduceLT, Nat.reduceAdd, Nat.reduceEqDiff, Nat.reduceLeDiff, Nat.reduceSub, Nat.reduceMul, Int.reduceEq, reduceIte, subHeap, renObj, pos, List.range_succ]
  ·
   rintro n st ⟨k, hk, hz, rfl⟩
   simp only [go_sem, Nat.reduceLT, Nat.reduceAdd, Nat.reduceEqDiff, Nat.reduceLeDiff, Nat.reduceSub, Nat.reduceMul, Int.reduceEq, reduceIte]
   by_cases hlt : k < a.length
   ·
    have hg : a[k]? = some (nth a k) := nth_get? _ _ hlt
    have hlt2 : k < b.length := by omega
    have hg2 : b[k]? = some (nth b k) := nth_get? _ _ hlt2
    have hw := i64_up (k := k) (by omega)
    by_cases he : nth a k = nth b k
    ·
     simp only [go_sem, Nat.reduceLT, Nat.reduceAdd, Nat.reduceEqDiff, Nat.reduceLeDiff, Nat.reduceSub, Nat.reduceMul, Int.reduceEq, reduceIte, hlt, hlt2, hg, hg2, cId, he, hw]
     refine ⟨by simp, n - 1, by omega, k + 1, by omega, fun j hj => ?_, ?_⟩
     ·
      by_cases e : j = k
      ·
       rw [e]; exact he
      ·
       exact hz j (by omega)
     ·
      simp [trim_mk, go_sem, Nat.reduceLT, Nat.reduceAdd, Nat.reduceEqDiff, Nat.reduceLeDiff, Nat.reduceSub, Nat.reduceMul, Int.reduceEq, reduceIte, subHeap, renObj, pos]
    ·
     simp only [go_sem, Nat.reduceLT, Nat.reduceAdd, Nat.reduceEqDiff, Nat.reduceLeDiff, Nat.reduceSub, Nat.reduceMul, Int.reduceEq, reduceIte, hlt, hlt2, hg, hg2, cId, beqId, he]
     refine ret_pure hx ?_
     have : ¬ a = b := fun e => he (by rw [e])
     simp [go_sem, Nat.reduceLT, Nat.reduceAdd, Nat.reduceEqDiff, Nat.reduceLeDiff, Nat.reduceSub, Nat.reduceMul, Int.reduceEq, reduceIte, L61, R61, this]
   ·
    simp only [go_sem, Nat.reduceLT, Nat.reduceAdd, Nat.reduceEqDiff, Nat.reduceLeDiff, Nat.reduceSub, Nat.reduceMul, Int.reduceEq, reduceIte, hlt, decide_false]
    refine ret_pure hx ?_
    have : a = b := ids_ext' hl fun j hj => hz j (by omega)
    simp [go_sem, Nat.reduceLT, Nat.reduceAdd, Nat.reduceEqDiff, Nat.reduceLeDiff, Nat.reduceSub, Nat.reduceMul, Int.reduceEq, reduceIte, L61, R61, this]
 ·
  have hl' : ((a.length : Int) = (b.length : Int)) = False := by simp; omega
  simp only [go_sem, Nat.reduceLT, Nat.reduceAdd, Nat.reduceEqDiff, Nat.reduceLeDiff, Nat.reduceSub, Nat.reduceMul, Int.reduceEq, reduceIte, L61, R61, hl']
  refine ret_pure hx ?_
  have : ¬ a = b := fun e => hl (by rw [e])
  simp [go_sem, Nat.reduceLT, Nat.reduceAdd, Nat.reduceEqDiff, Nat.reduceLeDiff, Nat.reduceSub, Nat.reduceMul, Int.reduceEq, reduceIte, L61, R61, this]
end Go.Proofs.YtkgobnnkcnnfhaaGreat
/- Entries that are the same; what is wrong with an entry, in the law text's words. -/
namespace Go.Proofs.YtkgobnnkcnnfhaaGreat
set_option linter.unusedSimpArgs false
set_option linter.unusedVariables false
open Go.RowKit
def sameE (a b : Entry) : Bool := decide (a.id = b.id) && decide (a.c = b.c) && decide (a.t = b.t) && decide (a.ls = b.ls)
theorem sameEntry_meets (a b : Entry) : Meets Tryz.prog 44 [.agg (cE a), .agg (cE b)] [] (.bool (sameE a b)) [] := by
 refine Meets.len2 0 4 rfl (by simp [cE]; rfl) fun hm => ?_
 have hm' : a.ls.length ≤ 9223372036854775807 := by simp [maxLen] at hm; omega
 refine Meets.of_walk Tryz.func44 Tryz.ntmps44 low44 res44 (by simp) fun x hx => ?_
 by_cases h1 : a.id = b.id
 ·
  by_cases h2 : a.c = b.c
  ·
   by_cases h3 : a.t = b.t
   ·
    simp only [go_sem, Nat.reduceLT, Nat.reduceAdd, Nat.reduceEqDiff, Nat.reduceLeDiff, Nat.reduceSub, Nat.reduceMul, Int.reduceEq, reduceIte, L44, R44, cE, beqId, h1, h2, h3]
    refine ops_call (.pure (sameIds_meets _ _ hm')) ?_
    simp only [go_sem, Nat.reduceLT, Nat.reduceAdd, Nat.reduceEqDiff, Nat.reduceLeDiff, Nat.reduceSub, Nat.reduceMul, Int.reduceEq, reduceIte]
    refine ret_pure hx ?_
    simp [go_sem, Nat.reduceLT, Nat.reduceAdd, Nat.reduceEqDiff, Nat.reduceLeDiff, Nat.reduceSub, Nat.reduceMul, Int.reduceEq, reduceIte, L44, R44, sameE, h1, h2, h3]
   ·
    simp only [go_sem, Nat.reduceLT, Nat.reduceAdd, Nat.reduceEqDiff, Nat.reduceLeDiff, Nat.reduceSub, Nat.reduceMul, Int.reduceEq, reduceIte, L44, R44, cE, beqId, h1, h2, h3]
    refine ret_pure hx ?_
    simp [go_sem, Nat.reduceLT, Nat.reduceAdd, Nat.reduceEqDiff, Nat.reduceLeDiff, Nat.reduceSub, Nat.reduceMul, Int.reduceEq, reduceIte, L44, R44, sameE, h1, h2, h3]
  ·
   simp only [go_sem, Nat.reduceLT, Nat.reduceAdd, Nat.reduceEqDiff, Nat.reduceLeDiff, Nat.reduceSub, Nat.reduceMul, Int.reduceEq, reduceIte, L44, R44, cE, beqId, h1, h2]
   refine ret_pure hx ?_
   simp [go_sem, Nat.reduceLT, Nat.reduceAdd, Nat.reduceEqDiff, Nat.reduceLeDiff, Nat.reduceSub, Nat.reduceMul, Int.reduceEq, reduceIte, L44, R44, sameE, h1, h2]
 ·
  simp only [go_sem, Nat.reduceLT, Nat.reduceAdd, Nat.reduceEqDiff, Nat.reduceLeDiff, Nat.reduceSub, Nat.reduceMul, Int.reduceEq, reduceIte, L44, R44, cE, beqId, h1]
  refine ret_pure hx ?_
  simp [go_sem, Nat.reduceLT, Nat.reduceAdd, Nat.reduceEqDiff, Nat.reduceLeDiff, Nat.reduceSub, Nat.reduceMul, Int.reduceEq, reduceIte, L44, R44, sameE, h1]
end Go.Proofs.YtkgobnnkcnnfhaaGreat
/- slices.Compact at ids: in memory. -/
namespace Go.Proofs.YtkgobnnkcnnfhaaGreat
open Go.RowKit Go.Lib Go.Sort
open Go.Shelf
def eId (x : Id) : List Value := [.int .i64 x.r, .int .i64 x.n]
theorem setMany_flat {α : Type} [Inhabited α] (enc : α → List Value) (k : Nat) (hk : ∀ x, (enc x).length = k) (d : Array α) (i : Nat) (hi : i < d.size) (x : α) : setMany (flatK enc k d) (i * k) (enc x) = flatK enc k (d.setIfInBounds i x) := by
  refine ext_get! (by simp) fun t ht => ?_
  have ht' : t < d.size * k := by simpa using ht
  have k0 : 0 < k := by rcases Nat.eq_zero_or_pos k with h | h; · subst h; simp at ht'
                        · exact h
  rw [get_setMany _ _ _ t (by simpa using ht'), get_flatK _ _ _ t ht', get_flatK _ _ _ t (by simpa using ht'), hk]
  by_cases a : t / k = i
  · have m : t - i * k = t % k := by subst a; rw [Nat.mod_eq_sub_div_mul]
    rw [if_pos ((blk_iff k i t k0).2 a), m, a, getElem!_set_same d i x hi]
  · rw [if_neg (fun h => a ((blk_iff k i t k0).1 h)), getElem!_set_other d i _ x a]
theorem run_clear_cells {P : Program} (w : World) (t e ty : TypeId) (z : Value) (ht : P.underlying t = some (.slice e)) (hv : ∀ w, (zeroValue e).run P w = .ok z w) (h1 : ∀ v ∈ z.cells, v.oneCell' = true) (b o n c : Nat) (hn : 0 < n)
    (hc : ∀ j, j < n * z.cells.size → (w.cell? ⟨b, o + j, none⟩).isSome = true) (hf : ∀ j, j < n * z.cells.size → w.frozen? ⟨b, o + j, none⟩ = false) :
    ∃ zs : List Value, zs.length = n * z.cells.size ∧ (Builtin.clear_ #[t] ty #[.slice (some ⟨b, o, none⟩) n c]).run P w = .ok (.tuple #[]) (w.setCells b o zs) := by
  refine ⟨(Builtin.zeroCells z.cells n).toList, by simp [Builtin.zeroCells, Nat.mul_comm], ?_⟩
  have hst := run_storeCells_cells (P := P) b o (Builtin.zeroCells z.cells n).toList 0 w (by simpa [Builtin.zeroCells, Nat.mul_comm] using hc) (by simpa [Builtin.zeroCells, Nat.mul_comm] using hf) (by
    intro v hv'
    obtain ⟨i, hi, rfl⟩ := List.mem_iff_getElem.1 hv'
    simp only [Builtin.zeroCells, Array.getElem_toList, Array.getElem_map, Array.getElem_range]
    have hs : 0 < z.cells.size := by
      rcases Nat.eq_zero_or_pos z.cells.size with h | h
      · simp [Builtin.zeroCells, h] at hi
      · exact h
    have := Nat.mod_lt i hs
    exact h1 _ (by simp [getElem!_pos, this]))
  simp only [Nat.add_zero] at hst
  obtain ⟨m, rfl⟩ : ∃ m, n = m + 1 := ⟨n - 1, by omega⟩
  simp [Builtin.clear_, run_underlying ht, hv, hst]
theorem eId_len (x : Id) : (eId x).length = 2 := rfl
theorem eId_one (x : Id) : ∀ v ∈ eId x, v.oneCell' = true := by
 intro v hv; simp [eId] at hv; rcases hv with rfl | rfl <;> rfl
theorem holdsK_two {w : World} {blk off : Nat} {d : Array Id} (h : HoldsK eId 2 w blk off d) {i : Nat} (hi : i < d.size) :
    w.cell? ⟨blk, off + i * 2, none⟩ = some (.int .i64 d[i]!.r) ∧ w.cell? ⟨blk, off + i * 2 + 1, none⟩ = some (.int .i64 d[i]!.n) ∧ w.frozen? ⟨blk, off + i * 2, none⟩ = false ∧ w.frozen? ⟨blk, off + i * 2 + 1, none⟩ = false :=
  ⟨(h.cell hi (c := 0) (by omega)).1, (h.cell hi (c := 1) (by omega)).1, (h.cell hi (c := 0) (by omega)).2, (h.cell hi (c := 1) (by omega)).2⟩
theorem store_world_id {w wr : World} {n blk off : Nat} {dk : Array Id} {i : Nat} (hi : i < dk.size) (hwr : wr = putRowK eId 2 (Sort.ahead w n) blk off dk) (x : Id) :
    wr.setCells blk (off + i * 2) (eId x) = putRowK eId 2 (Sort.ahead w n) blk off (dk.setIfInBounds i x) := by
  subst hwr
  unfold putRowK
  rw [setCells_putRow _ _ _ _ _ _ (by rw [size_flatK, eId_len]; omega), setMany_flat eId 2 eId_len dk i hi x]
def CompOut (w : World) (blk off : Nat) (d : Array Id) (w' : World) : Prop :=
 ∃ (q : Nat) (F : Array Value), F.size = d.size * 2 ∧ (∀ t, t < (compactUpTo d d.size).length * 2 → F[t]! = (flatK eId 2 (compactUpTo d d.size).toArray)[t]!) ∧ w' = putRow id (Sort.ahead w q) blk off F
theorem compOut_same {w : World} {blk off : Nat} {d : Array Id} (hH : HoldsK eId 2 w blk off d) (q : Nat) (hall : ∀ j, j < d.size → keeps d j = true) : (compactUpTo d d.size).length = d.size ∧ CompOut w blk off d (w.drewN q) := by
 have e : compactUpTo d d.size = d.toList := by rw [compactUpTo_all d _ hall, range_map_get]
 refine ⟨by rw [e]; simp, q, flatK eId 2 d, size_flatK _ _ _, fun t _ => by rw [e], ?_⟩
 exact (putRow_self id (Sort.ahead w q) blk off _ (holdsK_ahead eId 2 w q blk off d hH)).symm
set_option maxHeartbeats 4000000 in
set_option maxRecDepth 1000000 in
theorem compactI_calls (blk off cap : Nat) (d : Array Id) (w : World) (hH : HoldsK eId 2 w blk off d) (hsz : d.size ≤ 9223372036854775807) (hcap : d.size ≤ cap) :
    Calls Tryz.prog 94 #[.slice (some ⟨blk, off, none⟩) d.size cap] w fun e w' => e = .returned (.slice (some ⟨blk, off, none⟩) (compactUpTo d d.size).length cap) ∧ CompOut w blk off d w' := by
  have mixed : Tryz.prog.follows Departure.mixedOrders = true := rfl
  have HS : Aside (∀ q, (∀ j, j < d.size → keeps d j = true) → (compactUpTo d d.size).length = d.size ∧ CompOut w blk off d (w.drewN q)) := fun q => compOut_same hH q
  by_cases h2 : d.size < 2
  · have HH : Aside (HoldsK eId 2 w blk off d) := hH
    clear hH
    go_enter Tryz.func94, Tryz.ntmps94
    go_wp2
    go_ret
    obtain ⟨e1, e2⟩ := HS.out 0 (fun j hj => keeps_lt_one d j (by omega))
    exact ⟨by rw [e1]; rfl, e2⟩
  · go_enter Tryz.func94, Tryz.ntmps94
    go_wp2
    go_loopg [3] d.size (fun g s3 wr => ∃ k q : Nat, 1 ≤ k ∧ k ≤ d.size ∧ d.size - k ≤ g ∧ s3 = .int .i64 k ∧ wr = w.drewN q ∧ ∀ j, j < k → keeps d j = true)
    case atStart => exact ⟨1, 0, Nat.le_refl _, by omega, by omega, rfl, rfl, keeps_lt_one d⟩
    case round =>
      obtain ⟨k, q, hk1, hk, hg, rfl, rfl, hall⟩ := hrel
      by_cases hlt : k < d.size
      · obtain ⟨c1, c1', f1, f1'⟩ := holdsK_two hH hlt
        obtain ⟨c0, c0', f0, f0'⟩ := holdsK_two hH (i := k - 1) (by omega)
        have A : Aside (∀ j, j < k → keeps d j = true) := hall
        have HH : Aside (HoldsK eId 2 w blk off d) := hH
        clear hall hH f1 f1' f0 f0'
        generalize hx : d[k]! = x at c1 c1'
        generalize hy : d[k - 1]! = y at c0 c0'
        have B : Aside (d[k]! = x ∧ d[k - 1]! = y) := ⟨hx, hy⟩
        clear hx hy
        by_cases hdup : x = y
        · subst hdup
          go_wp2_with fail
          go_region_o
          go_wp2
          clear c0 c1 c0' c1'
          go_loopg [3, 5] d.size (fun g s3 s5 wr => ∃ (kk k2 q2 : Nat) (dk : Array Id), s3 = .int .i64 kk ∧ s5 = .int .i64 k2 ∧ 1 ≤ k2 ∧ k + k2 ≤ d.size ∧ d.size - (k + k2) ≤ g ∧ wr = putRowK eId 2 (Sort.ahead w q2) blk off dk ∧ CompInv d (k + k2) kk dk)
          case atStart => exact ⟨k, 1, q + 1, d, rfl, rfl, Nat.le_refl _, by omega, by omega, (putRowK_self eId 2 (Sort.ahead w (q + 1)) blk off d (holdsK_ahead eId 2 w (q + 1) blk off d HH.out)).symm, CompInv.start A.out (keeps_neg (by omega) (by rw [B.out.1, B.out.2]))⟩
          case round =>
            obtain ⟨kk, k2, q2, dk, rfl, rfl, h1, hle, hg2, hwr, hI⟩ := hrel
            have hkk := hI.lt
            have hds := hI.size
            have hHk : HoldsK eId 2 wr blk off dk := by rw [hwr]; exact holdsK_putRowK eId 2 _ blk off d dk (holdsK_ahead eId 2 w q2 blk off d HH.out) hds
            have W2 : Aside (wr = putRowK eId 2 (Sort.ahead w q2) blk off dk) := hwr
            have I2 : Aside (CompInv d (k + k2) kk dk) := hI
            clear hwr
            by_cases hlt2 : k + k2 < d.size
            · obtain ⟨cm, cm', -, -⟩ := holdsK_two hHk (i := k + k2) (by omega)
              obtain ⟨cp, cp', -, -⟩ := holdsK_two hHk (i := k + k2 - 1) (by omega)
              obtain ⟨ck, ck', fk, fk'⟩ := holdsK_two hHk (i := kk) (by omega)
              rw [hI.high (k + k2) (by omega), show off + (k + k2) * 2 = off + k * 2 + k2 * 2 by omega] at cm cm'
              rw [hI.high (k + k2 - 1) (by omega), show off + (k + k2 - 1) * 2 = off + k * 2 + (k2 - 1) * 2 by omega] at cp cp'
              clear hHk hI
              generalize hu : d[k + k2]! = u at cm cm'
              generalize hv : d[k + k2 - 1]! = v at cp cp'
              generalize dk[kk]! = old at ck ck'
              have C : Aside (d[k + k2]! = u ∧ d[k + k2 - 1]! = v) := ⟨hu, hv⟩
              clear hu hv
              by_cases huv : u = v
              · subst huv
                go_wp2_with fail
                go_region_o
                go_wp2
                go_roundg (d.size - (k + (k2 + 1)))
                case measure => omega
                case rel => exact ⟨kk, k2 + 1, q2 + 1, dk, rfl, by go_num, by omega, by omega, Nat.le_refl _, by rw [W2.out]; rfl, I2.out.skip (keeps_neg (by omega) (by rw [C.out.1, C.out.2]))⟩
              · have N : Aside (u ≠ v) := huv
                obtain ⟨ur, un⟩ := u
                obtain ⟨vr, vn⟩ := v
                simp only at cm cm' cp cp'
                by_cases hr : ur = vr
                · subst hr
                  have hn : un ≠ vn := fun e => huv (by rw [e])
                  clear huv
                  go_wp2_with fail
                  go_region_o
                  go_wp2
                  go_roundg (d.size - (k + (k2 + 1)))
                  case measure => omega
                  case rel =>
                    refine ⟨kk + 1, k2 + 1, q2 + 1, dk.setIfInBounds kk ⟨ur, un⟩, by go_num, by go_num, by omega, by omega, Nat.le_refl _, ?_, ?_⟩
                    · exact store_world_id (wr := wr.drew) (n := q2 + 1) (by omega) (by rw [W2.out]; rfl) ⟨ur, un⟩
                    · have := I2.out.keep hlt2 (keeps_pos (by rw [C.out.1, C.out.2]; exact N.out)); rwa [C.out.1] at this
                · clear huv
                  go_wp2_with fail
                  go_region_o
                  go_wp2
                  go_roundg (d.size - (k + (k2 + 1)))
                  case measure => omega
                  case rel =>
                    refine ⟨kk + 1, k2 + 1, q2 + 1, dk.setIfInBounds kk ⟨ur, un⟩, by go_num, by go_num, by omega, by omega, Nat.le_refl _, ?_, ?_⟩
                    · exact store_world_id (wr := wr.drew) (n := q2 + 1) (by omega) (by rw [W2.out]; rfl) ⟨ur, un⟩
                    · have := I2.out.keep hlt2 (keeps_pos (by rw [C.out.1, C.out.2]; exact N.out)); rwa [C.out.1] at this
            · have hend : k + k2 = d.size := by omega
              obtain ⟨zs, hzl, hcl⟩ : ∃ zs : List Value, zs.length = (d.size - kk) * 2 ∧ ∀ ty, (Builtin.clear_ #[51] ty #[.slice (some ⟨blk, off + kk * 2, none⟩) (d.size - kk) (cap - kk)]).run Tryz.prog wr = .ok (.tuple #[]) (wr.setCells blk (off + kk * 2) zs) := by
                obtain ⟨zs, h1, h2⟩ := run_clear_cells (P := Tryz.prog) wr 51 50 0 (.agg #[.int .i64 0, .int .i64 0]) rfl (fun _ => by kernel_rfl) (by intro v hv; simp [Value.cells] at hv; rcases hv with rfl | rfl <;> rfl) blk (off + kk * 2) (d.size - kk) (cap - kk) (by omega)
                  (fun j hj => by
                    have hj' : j < (d.size - kk) * 2 := hj
                    have := (hHk (kk * 2 + j) (by rw [size_flatK]; omega)).1
                    rw [← Nat.add_assoc] at this
                    rw [this]; rfl) (fun j hj => by
                    have hj' : j < (d.size - kk) * 2 := hj
                    have := (hHk (kk * 2 + j) (by rw [size_flatK]; omega)).2
                    rwa [← Nat.add_assoc] at this)
                exact ⟨zs, h1, fun ty => h2⟩
              clear hHk hI
              go_wp2
              go_ret
              have hI := I2.out
              rw [hend] at hI
              refine ⟨by rw [hI.len]; rfl, q2, setMany (flatK eId 2 dk) (kk * 2) zs, by simp [hI.size], fun t ht => ?_, ?_⟩
              · rw [hI.len] at ht
                have hts : t < dk.size * 2 := by have := hI.size; omega
                have hq : t / 2 < kk := by omega
                rw [get_setMany _ _ _ t (by rw [size_flatK]; exact hts), if_neg (by omega), get_flatK _ _ _ _ hts, get_flatK _ _ _ _ (by simp [hI.len]; omega)]
                have := hI.low (t / 2) hq
                rw [show (compactUpTo d d.size).toArray[t / 2]! = dk[t / 2]! by simp [this]]
              · rw [W2.out]
                unfold putRowK
                exact setCells_putRow _ _ _ _ _ _ (by rw [size_flatK, hzl]; have := hI.size; omega)
        · have B' : Aside (x ≠ y) := hdup
          obtain ⟨xr, xn⟩ := x
          obtain ⟨yr, yn⟩ := y
          simp only at c0 c0' c1 c1'
          by_cases hr : xr = yr
          · subst hr
            have hn : xn ≠ yn := fun e => hdup (by rw [e])
            clear hdup
            go_wp2_with fail
            go_region_o
            go_wp2
            go_roundg (d.size - (k + 1))
            case measure => omega
            case rel =>
              refine ⟨k + 1, q + 1, by omega, by omega, Nat.le_refl _, by go_num, rfl, fun j hj => ?_⟩
              by_cases e : j = k
              · subst e
                exact keeps_pos (by rw [B.out.1, B.out.2]; exact B'.out)
              · exact A.out j (by omega)
          · clear hdup
            go_wp2_with fail
            go_region_o
            go_wp2
            go_roundg (d.size - (k + 1))
            case measure => omega
            case rel =>
              refine ⟨k + 1, q + 1, by omega, by omega, Nat.le_refl _, by go_num, rfl, fun j hj => ?_⟩
              by_cases e : j = k
              · subst e
                exact keeps_pos (by rw [B.out.1, B.out.2]; exact B'.out)
              · exact A.out j (by omega)
      · have : k = d.size := by omega
        subst this
        have HH : Aside (HoldsK eId 2 w blk off d) := hH
        clear hH
        go_wp2
        go_ret
        obtain ⟨e1, e2⟩ := HS.out q hall
        exact ⟨by rw [e1]; rfl, e2⟩
set_option maxHeartbeats 1000000 in
theorem compactI_nil (w : World) : Calls Tryz.prog 94 #[.slice none 0 0] w fun e w' => e = .returned (.slice none 0 0) ∧ w' = w := by
 go_enter Tryz.func94, Tryz.ntmps94
 go_wp2
 go_ret
 exact ⟨rfl, rfl⟩
end Go.Proofs.YtkgobnnkcnnfhaaGreat
/- slices.Compact at ids: as a contract: an array becomes a list. -/
namespace Go.Proofs.YtkgobnnkcnnfhaaGreat
open Go.RowKit
open Go.Sort (flatK putRowK HoldsK size_flatK get_flatK putCells mapBlock onCells)
theorem flat_id : Flat cId eId 2 where
 k0 := by omega
 len := fun _ => rfl
 lenp := fun _ => rfl
 one := eId_one
 fit := fun S w a j p h => by
  rcases j with _ | _ | j
  ·
   cases h; exact .int _ _
  ·
   cases h; exact .int _ _
  ·
   simp [cId] at h
 back := fun S w a j p u h hr => by
  rcases j with _ | _ | j
  ·
   cases h; cases hr; rfl
  ·
   cases h; cases hr; rfl
  ·
   simp [cId] at h
section
variable {x : Cx} {C : Conc} {H : List AObj} {w w' : World}
theorem HR.dropNil (hr : HR x C H w) {id v T sz : Nat} {sto ipu : Bool} (hid : H[id]? = some (.arr v sto ipu T sz [])) :
    HR x C (H.set id .gone) w ∧ (∀ p u, RepV (Stab x C H w) w C p u → RepV (Stab x C (H.set id .gone) w) w C p u) :=
  hr.change (C' := C) hid (ob' := .gone) (step_refl w) rfl (fun _ => rfl) (fun _ _ => ⟨rfl, rfl⟩) (.inl ⟨rfl, rfl⟩) (fun b o hb hf => trivial) (fun b o hb hf => rfl) (fun b hb => hb.elim) (fun _ _ => trivial)
theorem row_worldF (w : World) (g m : Nat) (F : Array Value) {cur : Array Value} {T : TypeId} {fr : Nat × Nat} (hc : w.heap[g]? = some (.cells cur T fr)) :
    ∃ cur' : Array Value, (Go.Sort.putRow id (Go.Sort.ahead w m) g 0 F).heap[g]? = some (.cells cur' T fr) ∧ cur'.size = cur.size ∧
      (∀ t y, t < F.size → cur'[t]? = some y → y = F[t]!) ∧ Step w (Go.Sort.putRow id (Go.Sort.ahead w m) g 0 F) (fun b => b = g) := by
  have hlt : g < w.heap.size := (Array.getElem?_eq_some_iff.1 hc).1
  have hh : (Go.Sort.putRow id (Go.Sort.ahead w m) g 0 F).heap = w.heap.modify g (onCells (putCells id 0 F)) := rfl
  refine ⟨putCells id 0 F cur, ?_, by simp [putCells], fun t y ht hy => ?_, ?_⟩
  · rw [hh, Array.getElem?_modify, if_pos rfl, hc]
    rfl
  · rw [putCells, Array.getElem?_mapIdx] at hy
    cases hcu : cur[t]? with
    | none => rw [hcu] at hy; cases hy
    | some z =>
      rw [hcu, Option.map_some, if_pos ⟨Nat.zero_le _, by omega⟩] at hy
      exact (Option.some.inj hy).symm
  · refine ⟨by rw [hh]; simp, rfl, rfl, rfl, fun b hb hne => ?_⟩
    rw [hh, Array.getElem?_modify, if_neg (fun e => hne e.symm)]
end
theorem one_arg {vs : Array Value} (h : vs.toList.length = 1) : ∃ a, vs = #[a] ∧ vs.toList[0]? = some a := by
 obtain ⟨l⟩ := vs
 obtain ⟨a, rfl⟩ := List.length_eq_one_iff.1 h
 exact ⟨a, rfl, rfl⟩
theorem two_args {vs : Array Value} (h : vs.toList.length = 2) : ∃ a b, vs = #[a, b] ∧ vs.toList[0]? = some a ∧ vs.toList[1]? = some b := by
 obtain ⟨l⟩ := vs
 match l, h with
 | [a, b], _ => exact ⟨a, b, rfl, rfl, rfl⟩
def compI (l : List Id) : List Id := Lib.compact l
theorem compactIds_meets (l : List Id) (v T : Nat) (hl : l.length ≤ 9223372036854775807) :
    Meets Tryz.prog 94 [.arr 0 v] [.arr v true false T 2 (l.map cId)] (.list ((compI l).map cId)) [.gone] := by
  intro x vs hx h0 hp
  obtain ⟨a, rfl, h1⟩ := one_arg hp.1
  have ha := hp.2 0 _ _ rfl h1
  obtain ⟨e1, e2, e3⟩ := h0.row (id := 0) rfl ha
  rcases e3 with ⟨rfl, hnil⟩ | ⟨g, cap, cur, rfl, hc, hcap, hm, hz, hrow⟩
  · have : l = [] := by simpa using hnil
    subst this
    refine (compactI_nil x.w0).mono ?_
    rintro e w' ⟨rfl, rfl⟩
    obtain ⟨k1, k2⟩ := h0.dropNil (id := 0) (v := v) (T := T) (sz := 2) rfl
    exact ⟨_, x.C0, rfl, k1, .pure repP_nil⟩
  · have hH := flat_id.holds l hc hrow
    have key := compactI_calls g 0 cap l.toArray x.w0 hH (by simpa using hl) (by simpa using hcap)
    rw [List.length_map]
    refine Calls.mono key ?_
    rintro e w' ⟨rfl, q, F, f1, f2, rfl⟩
    obtain ⟨cur', c1, c2, c3, c4⟩ := row_worldF x.w0 g q F hc
    have hown : (x.C0.sv 0).ownBlock = some g := by rw [← e1]; rfl
    have hle : (compI l).length ≤ l.length := by
      show (Lib.compactUpTo l.toArray l.length).length ≤ _
      unfold Lib.compactUpTo
      rw [List.length_map]
      exact Nat.le_trans (List.length_filter_le _ _) (by simp)
    have hcl : ((compI l).map cId).length ≤ cap := by rw [List.length_map]; rw [List.length_map] at hcap; omega
    obtain ⟨k1, k2, k3⟩ := h0.drop (id := 0) (g := g) (cap' := cap) (rows' := (compI l).map cId) (cur' := cur') rfl
      ⟨c4.size, c4.os, c4.tape, c4.output, fun b hb hne => c4.blk b hb fun e => hne (by rw [hown, e])⟩ hown c1 hcl hm (by rw [c2, hz])
      (fun row hr => by obtain ⟨y, -, rfl⟩ := List.mem_map.1 hr; rfl)
      (fun k row j p u a b c => (flat_id.rep (d' := (compI l).toArray) (cur' := cur') (fun t y ht hy => by
        rw [c3 t y (by rw [f1]; simp at ht ⊢; omega) hy]
        refine f2 t ?_
        rw [List.size_toArray] at ht
        rw [List.size_toArray]
        exact ht) (compI l).length (fun i hi => by simp [hi]) rfl (by simp) k row j p u a b c).2)
    refine ⟨_, x.C0, rfl, k1, .pure ?_⟩
    rw [List.length_map] at k3
    exact k3
end Go.Proofs.YtkgobnnkcnnfhaaGreat
/- slices.Delete of one element of k cells: in memory, and as a contract. -/
namespace Go.Proofs.YtkgobnnkcnnfhaaGreat
open Go.RowKit Go.Lib Go.Sort
open Go.Shelf
def DelF (k n i : Nat) (cs F : Array Value) : Prop := F.size = cs.size ∧ ∀ t, t < (n - 1) * k → F[t]! = if t < i * k then cs[t]! else cs[t + k]!
def DelOut (k n i : Nat) (w : World) (blk : Nat) (cs : Array Value) (w' : World) : Prop := ∃ (q : Nat) (F : Array Value), DelF k n i cs F ∧ w' = putRow id (Sort.ahead w q) blk 0 F
theorem delF_of {k n i : Nat} {cs : Array Value} (hz : n * k ≤ cs.size) (hi : i < n) (news zs : List Value) (hn : news.length = (n - (i + 1)) * k) (hnew : ∀ t, t < news.length → news[t]! = cs[(i + 1) * k + t]!) :
    DelF k n i cs (setMany (setMany cs (i * k) news) ((n - 1) * k) zs) := by
  refine ⟨by simp, fun t ht => ?_⟩
  obtain ⟨m, rfl⟩ : ∃ m, n = i + 1 + m := ⟨n - (i + 1), by omega⟩
  have e1 : i + 1 + m - (i + 1) = m := by omega
  have e2 : i + 1 + m - 1 = i + m := by omega
  rw [e1] at hn
  rw [e2] at ht ⊢
  have e3 : (i + 1 + m) * k = i * k + k + m * k := by rw [Nat.add_mul, Nat.add_mul, Nat.one_mul]
  have e4 : (i + m) * k = i * k + m * k := Nat.add_mul _ _ _
  have e5 : (i + 1) * k = i * k + k := by rw [Nat.add_mul, Nat.one_mul]
  rw [e3] at hz
  rw [e4] at ht ⊢
  rw [e5] at hnew
  rw [get_setMany _ _ _ t (by simp; omega), if_neg (by omega), get_setMany _ _ _ t (by omega)]
  by_cases h : t < i * k
  · rw [if_neg (by omega), if_pos h]
  · rw [if_pos (by omega), if_neg h, hnew _ (by omega), show i * k + k + (t - i * k) = t + k by omega]
theorem three_args {vs : Array Value} (h : vs.toList.length = 3) : ∃ a b c, vs = #[a, b, c] ∧ vs.toList[0]? = some a ∧ vs.toList[1]? = some b ∧ vs.toList[2]? = some c := by
 obtain ⟨l⟩ := vs
 match l, h with
 | [a, b, c], _ => exact ⟨a, b, c, rfl, rfl, rfl, rfl⟩
theorem del_rep {S : Nat → Nat → Prop} {w : World} {rows : List (List PV)} {cur cur' F : Array Value} {sz n i : Nat} (hn : rows.length = n) (hi : i < n) (hz : ∀ row ∈ rows, row.length = sz) (hcs : n * sz ≤ cur.size) (hF : DelF sz n i cur F)
    (hc' : ∀ t y, t < F.size → cur'[t]? = some y → y = F[t]!)
    (hrow : ∀ (k : Nat) row (j : Nat) p, rows[k]? = some row → row[j]? = some p → ∃ y, cur[k * sz + j]? = some y ∧ y.oneCell' = true ∧ RepP S w p y) :
    ∀ (k : Nat) row (j : Nat) p u, (rows.eraseIdx i)[k]? = some row → row[j]? = some p → cur'[k * sz + j]? = some u → u.oneCell' = true ∧ RepP S w p u := by
  intro k row j p u a b c
  have hk : k < n - 1 := by
    have := (List.getElem?_eq_some_iff.1 a).1
    rw [List.length_eraseIdx, if_pos (by omega)] at this; omega
  have hj : j < sz := by rw [← hz row (List.mem_of_mem_eraseIdx (List.mem_of_getElem? a))]; exact (List.getElem?_eq_some_iff.1 b).1
  have hle : (k + 1) * sz ≤ (n - 1) * sz := Nat.mul_le_mul_right _ (by omega)
  have hle2 : (n - 1) * sz ≤ n * sz := Nat.mul_le_mul_right _ (by omega)
  rw [Nat.add_mul, Nat.one_mul] at hle
  have hu := hc' _ _ (by rw [hF.1]; omega) c
  rw [hF.2 _ (by omega)] at hu
  rw [List.getElem?_eraseIdx] at a
  by_cases hki : k < i
  · rw [if_pos hki] at a
    have : (k + 1) * sz ≤ i * sz := Nat.mul_le_mul_right _ (by omega)
    rw [Nat.add_mul, Nat.one_mul] at this
    rw [if_pos (by omega)] at hu
    obtain ⟨y, y1, y2, y3⟩ := hrow k row j p a b
    obtain ⟨y4, y5⟩ := Array.getElem?_eq_some_iff.1 y1
    rw [getElem!_pos cur _ y4, y5] at hu
    subst hu
    exact ⟨y2, y3⟩
  · rw [if_neg hki] at a
    have : i * sz ≤ k * sz := Nat.mul_le_mul_right _ (by omega)
    rw [if_neg (by omega)] at hu
    obtain ⟨y, y1, y2, y3⟩ := hrow (k + 1) row j p a b
    rw [show (k + 1) * sz + j = k * sz + j + sz by rw [Nat.add_mul, Nat.one_mul]; omega] at y1
    obtain ⟨y4, y5⟩ := Array.getElem?_eq_some_iff.1 y1
    rw [getElem!_pos cur _ y4, y5] at hu
    subst hu
    exact ⟨y2, y3⟩
theorem holds_cur {w : World} {g T : Nat} {cur : Array Value} (hc : w.heap[g]? = some (.cells cur T (0, 0))) : Holds id w g 0 cur := by
 intro t ht
 refine ⟨?_, ?_⟩
 ·
  simp [World.cell?, hc, getElem!_pos cur t ht, ht]
 ·
  simp [World.frozen?, hc]
set_option maxHeartbeats 4000000 in
set_option maxRecDepth 1000000 in
theorem delE_calls (blk off cap n i j : Nat) (cs : Array Value) (w : World) (h0 : off = 0) (hj : j = i + 1) (hH : Holds id w blk off cs) (hz : cs.size = cap * 5) (h1 : ∀ t, t < n * 5 → (cs[t]!).oneCell' = true) (hn : n ≤ cap) (hm : cap ≤ 9223372036854775807) (hi : i < n) :
    Calls Tryz.prog 74 #[.slice (some ⟨blk, off, none⟩) n cap, .int .i64 i, .int .i64 j] w fun e w' => e = .returned (.slice (some ⟨blk, off, none⟩) (n - 1) cap) ∧ DelOut 5 n i w blk cs w' := by
  have mixed : Tryz.prog.follows Departure.mixedOrders = true := rfl
  have hcz : n * 5 ≤ cs.size := by rw [hz]; exact Nat.mul_le_mul_right _ hn
  obtain ⟨news, hnews⟩ : ∃ news : List Value, news = (List.range ((n - j) * 5)).map fun t => cs[j * 5 + t]! := ⟨_, rfl⟩
  have hlen : news.length = (n - j) * 5 := by rw [hnews]; simp
  have hget : ∀ t u, news[t]? = some u → t < (n - j) * 5 ∧ u = cs[j * 5 + t]! := by
    intro t u hu
    have ht : t < news.length := (List.getElem?_eq_some_iff.1 hu).1
    rw [hlen] at ht
    rw [hnews, List.getElem?_map, List.getElem?_range ht] at hu
    exact ⟨ht, (Option.some.inj hu).symm⟩
  obtain ⟨A, hA, hsrc⟩ : ∃ A : Addr, (if cap = j then some (⟨blk, off, none⟩ : Addr) else some ⟨blk, off + j * 5, none⟩) = some A ∧ Hid (∀ t u, news[t]? = some u → w.drew.cell? (A.add t) = some u) := by
    by_cases h : cap = j
    · refine ⟨⟨blk, off, none⟩, by simp [h], fun t u hu => ?_⟩
      have := (hget t u hu).1
      have e : n - j = 0 := by omega
      rw [e] at this; omega
    · refine ⟨⟨blk, off + j * 5, none⟩, by simp [h], fun t u hu => ?_⟩
      obtain ⟨ht, rfl⟩ := hget t u hu
      rw [Addr.add_lit, Nat.add_assoc]
      exact (hH _ (by omega)).1
  have s1 : Hid (news.length = (n - j) * 5) := hlen
  have s2 : Hid (∀ u ∈ news, u.oneCell' = true) := by
    intro u hu
    obtain ⟨t, ht, rfl⟩ := List.getElem_of_mem hu
    obtain ⟨h2, h3⟩ := hget t _ (List.getElem?_eq_getElem ht)
    rw [h3]
    exact h1 _ (by omega)
  have s3 : Hid (∀ t, t < news.length → (w.drew.cell? ⟨blk, off + i * 5 + t, none⟩).isSome = true ∧ w.drew.frozen? ⟨blk, off + i * 5 + t, none⟩ = false) := by
    intro t ht
    rw [hlen] at ht
    rw [Nat.add_assoc]
    exact ⟨by show (w.cell? _).isSome = true; rw [(hH (i * 5 + t) (by omega)).1]; rfl, (hH (i * 5 + t) (by omega)).2⟩
  obtain ⟨W1, hW1⟩ : ∃ W1, W1 = w.drew.setCells blk (off + i * 5) news := ⟨_, rfl⟩
  have hput : W1 = putRow id (Sort.ahead w 1) blk off (setMany cs (i * 5) news) := by
    rw [hW1, ← setCells_putRow _ _ _ _ _ _ (by omega), putRow_self id (Sort.ahead w 1) blk off cs (holds_ahead id w 1 blk off cs hH)]
    rfl
  have hH1 : Holds id W1 blk off (setMany cs (i * 5) news) := by rw [hput]; exact holds_putRow id _ blk off cs _ (holds_ahead id w 1 blk off cs hH) (by simp)
  obtain ⟨zs, hzl, hcl⟩ : ∃ zs : List Value, zs.length = (n - (i + (n - j))) * 5 ∧ ∀ ty, (Builtin.clear_ #[45] ty #[.slice (some ⟨blk, off + (i + (n - j)) * 5, none⟩) (n - (i + (n - j))) (cap - (i + (n - j)))]).run Tryz.prog W1 = .ok (.tuple #[]) (W1.setCells blk (off + (i + (n - j)) * 5) zs) := by
    obtain ⟨zs, e1, e2⟩ := run_clear_cells (P := Tryz.prog) W1 45 53 0 (.agg #[.int .i64 0, .int .i64 0, .int .i64 0, .string ⟨#[]⟩, .slice none 0 0]) rfl (fun _ => by kernel_rfl) (by intro v hv; simp [Value.cells] at hv; first | (rcases hv with rfl | rfl | rfl <;> rfl) | (rcases hv with rfl | rfl | rfl | rfl | rfl <;> rfl)) blk (off + (i + (n - j)) * 5) (n - (i + (n - j))) (cap - (i + (n - j))) (by omega)
      (fun s hs => by
        have hs' : s < (n - (i + (n - j))) * 5 := hs
        have := (hH1 ((i + (n - j)) * 5 + s) (by rw [size_setMany]; omega)).1
        rw [← Nat.add_assoc] at this
        rw [this]; rfl) (fun s hs => by
        have hs' : s < (n - (i + (n - j))) * 5 := hs
        have := (hH1 ((i + (n - j)) * 5 + s) (by rw [size_setMany]; omega)).2
        rwa [← Nat.add_assoc] at this)
    exact ⟨zs, e1, fun ty => e2⟩
  have fin : Aside (DelOut 5 n i w blk cs (W1.setCells blk (off + (i + (n - j)) * 5) zs)) := by
    subst h0 hj
    refine ⟨1, _, delF_of hcz hi news zs hlen (fun t ht => ?_), ?_⟩
    · rw [getElem!_pos news t ht]
      exact (hget t _ (List.getElem?_eq_getElem ht)).2
    · rw [hput, setCells_putRow _ _ _ _ _ _ (by rw [size_setMany, hzl]; omega), show i + (n - (i + 1)) = n - 1 by omega]
  have hW : Hid (W1 = w.drew.setCells blk (off + i * 5) news) := hW1
  have hic : i ≤ cap := by omega
  have hjc : j ≤ cap := by omega
  obtain ⟨i0, hi0, hz0, hz1, hz2⟩ := info_parts (P := Tryz.prog) (e := 53) (z := .agg #[.int .i64 0, .int .i64 0, .int .i64 0, .string ⟨#[]⟩, .slice none 0 0]) (size := 5) (bytes := 64) (by kernel_rfl)
  clear hput hW1 hH1 hH hget hnews hlen h1 hz hcz h0
  have hij : ¬ i = j := by omega
  have hijle : i ≤ j := by omega
  have hjn : j ≤ n := by omega
  have hA' : Hid (j = i + 1) := hj
  clear hj
  go_enter Tryz.func74, Tryz.ntmps74
  go_wp2_with fail
  go_region_law_o (refine step_append_room rfl (.tmp 22) (.tmp 25) 45 rfl 53 i0 5 rfl hi0 hz1 blk off i cap (by simp [Act.eval, Act.put]) A (n - j) (cap - j) news (by simp [Act.eval, Act.put]) s1.out hsrc.out s2.out (by omega) s3.out ?_; rw [← hW.out])
  go_wp2
  go_ret
  have hj := hA'.out
  exact ⟨by rw [show n - 1 = i + (n - j) by omega]; rfl, fin.out⟩
theorem delE_meets (rows : List (List PV)) (v T i : Nat) (hi : i < rows.length) :
    Meets Tryz.prog 74 [.arr 0 v, .int .i64 i, .int .i64 ((i + 1 : Nat) : Int)] [.arr v true false T 5 rows] (.arr 0 (v + 1)) [.arr (v + 1) true false T 5 (rows.eraseIdx i)] := by
  intro x vs hx h0 hp
  obtain ⟨a, b, c, rfl, p1, p2, p3⟩ := three_args hp.1
  have ha := hp.2 0 _ _ rfl p1
  obtain rfl := (hp.2 1 _ _ rfl p2).int_inv
  obtain rfl := (hp.2 2 _ _ rfl p3).int_inv
  obtain ⟨e1, e2, e3⟩ := h0.row (id := 0) rfl ha
  rcases e3 with ⟨rfl, hnil⟩ | ⟨g, cap, cur, rfl, hc, hcap, hm, hz, hrow⟩
  · subst hnil; simp at hi
  · have hH := holds_cur hc
    have hcs : rows.length * 5 ≤ cur.size := by rw [hz]; exact Nat.mul_le_mul_right _ hcap
    have key := delE_calls g 0 cap rows.length i (i + 1) cur x.w0 rfl rfl hH hz (fun t ht => by
      have hk : t / 5 < rows.length := Nat.div_lt_of_lt_mul (by omega)
      have hj : t % 5 < (rows[t / 5]'hk).length := by rw [e2 _ (List.getElem_mem hk)]; exact Nat.mod_lt _ (by omega)
      obtain ⟨y, y1, y2, -⟩ := hrow (t / 5) _ (t % 5) _ (List.getElem?_eq_getElem hk) (List.getElem?_eq_getElem hj)
      rw [show t / 5 * 5 + t % 5 = t by omega] at y1
      obtain ⟨y4, y5⟩ := Array.getElem?_eq_some_iff.1 y1
      rw [getElem!_pos cur _ y4, y5]; exact y2) hcap (by simp [maxLen] at hm; omega) hi
    refine key.mono ?_
    rintro e w' ⟨rfl, q, F, hF, rfl⟩
    obtain ⟨cur', c1, c2, c3, c4⟩ := row_worldF x.w0 g q F hc
    have hown : (x.C0.sv 0).ownBlock = some g := by rw [← e1]; rfl
    have hlen : (rows.eraseIdx i).length = rows.length - 1 := by rw [List.length_eraseIdx, if_pos hi]
    obtain ⟨C', k1, k2, k3⟩ := h0.rerow (id := 0) (v' := v + 1) (g' := g) (cap' := cap) (rows' := rows.eraseIdx i) (cur' := cur') rfl (by
      refine ⟨c4.size, c4.os, c4.tape, c4.output, fun b hb hne => c4.blk b hb fun e => hne (by rw [hown, e])⟩) (.inl hown) (.inr (by omega)) c1 (by rw [hlen]; omega) hm (by rw [c2, hz])
      (fun row hr => e2 row (List.mem_of_mem_eraseIdx hr)) (del_rep rfl hi e2 hcs hF c3 hrow)
    rw [hlen] at k3
    exact ⟨_, C', rfl, k1, k3⟩
end Go.Proofs.YtkgobnnkcnnfhaaGreat
/- slices.Insert of one element of k cells: in memory. -/
namespace Go.Proofs.YtkgobnnkcnnfhaaGreat
open Go.RowKit Go.Lib Go.Sort
open Go.Shelf
def InsF (k n i : Nat) (cs : Array Value) (vs : List Value) (F : Array Value) : Prop := ∀ t, t < (n + 1) * k → F[t]! = if t < i * k then cs[t]! else if t < i * k + k then vs[t - i * k]! else cs[t - k]!
theorem run_overlaps_own {P : Program} (w : World) (tS tR e : TypeId) (ht : P.underlying tS = some (.slice e)) (size : Nat) (hz : ∀ w, (Go.sizeOf e).run P w = .ok size w)
    (a b : Addr) (la ca lb cb : Nat) (hne : a.block ≠ b.block) (tA tB : TypeId) (kA kB : Nat)
    (hsa : w.shape? a.block = some (tA, kA)) (hsb : w.shape? b.block = some (tB, kB)) (hkB : kB ≠ 0) (hkA : kA ≠ 0)
    (hfa : w.frozen? b = false) (hfe : w.frozen? { block := b.block, off := kB } = false) :
    (Extern.SlicesOverlaps.overlaps #[tS, tS] #[tR] #[.slice (some a) la ca, .slice (some b) lb cb]).run P w = .ok (.bool false) w := by
  have hnb : (a.block != b.block) = true := by simpa using hne
  have hnb' : (a.block == b.block) = false := by simpa using hne
  change Sem.run P (α := Value) (do
    let some t := (#[tS, tS] : Array TypeId)[0]? | stuck "slices.overlaps: no parameter types"
    let .slice elem ← underlying t | stuck "slices.overlaps: slice type expected"
    let size ← sizeOf elem
    match (some a : Option Addr), (some b : Option Addr) with
    | some a, some b =>
      if la = 0 ∨ lb = 0 ∨ size = 0 then pure (Value.bool false)
      else if a.block != b.block && (← frozen a) && (← frozen b) then unsupported .addressObserved
      else do
        if a.block != b.block then do
          noView a; noView b
          if ← mayBeOne a b then return Value.bool ((← choose (.extern "sameAddr.stringBytes" 2)) == 1)
        pure (Value.bool (a.block == b.block && a.off < b.off + lb * size && b.off < a.off + la * size))
    | _, _ => pure (Value.bool false)) w = _
  by_cases h0 : la = 0 ∨ lb = 0 ∨ size = 0
  · simp [run_underlying ht, hz, h0]
  · cases kB with
    | zero => exact absurd rfl hkB
    | succ kB =>
     cases kA with
     | zero => exact absurd rfl hkA
     | succ kA =>
      cases h1 : w.frozen? a <;> cases h2 : w.frozen? { block := a.block, off := kA + 1 } <;>
        simp [run_underlying ht, hz, h0, hnb, hnb', frozen, noView, viewAt, mayBeOne, stringish, shape, Sem.run, hsa, hsb, hfa, hfe, h1, h2]
theorem run_copy_cellsK {P : Program} (w : World) (dT sT ty elem : TypeId) (k : Nat) (b o dLen dCap : Nat) (a : Addr) (sLen sCap m : Nat) (cs : List Value)
    (hu : P.underlying dT = some (.slice elem)) (hs : (P.info? elem).map (·.size) = some k) (hm : m = Nat.min sLen dLen) (hn : cs.length = m * k)
    (hsrc : ∀ j v, cs[j]? = some v → w.cell? (a.add j) = some v) (hc : ∀ j, j < cs.length → (w.cell? ⟨b, o + j, none⟩).isSome = true) (hf : ∀ j, j < cs.length → w.frozen? ⟨b, o + j, none⟩ = false) (h1 : ∀ v ∈ cs, v.oneCell' = true) :
    (Builtin.copy_ #[dT, sT] ty #[.slice (some ⟨b, o, none⟩) dLen dCap, .slice (some a) sLen sCap]).run P w = .ok (goInt m) (w.setCells b o cs) := by
  have hl := run_loadCells_list (P := P) w a cs hsrc
  have hst := run_storeCells_cells (P := P) b o cs 0 w (by simpa using hc) (by simpa using hf) h1
  cases hq : P.info? elem with
  | none => simp [hq] at hs
  | some i =>
    have hi : i.size = k := by simpa [hq] using hs
    rw [hn] at hl
    simp [Builtin.copy_, run_underlying hu, Builtin.lenOf, Builtin.firstCells, sizeOf, typeInfo, hq, hi, ← hm, hl, hst]
def seg (cs : Array Value) (s m : Nat) : List Value := (List.range m).map fun t => cs[s + t]!
theorem seg_len (cs : Array Value) (s m : Nat) : (seg cs s m).length = m := by simp [seg]
theorem seg_get {cs : Array Value} {s m t : Nat} {u : Value} (h : (seg cs s m)[t]? = some u) : t < m ∧ u = cs[s + t]! := by
 have ht : t < (seg cs s m).length := (List.getElem?_eq_some_iff.1 h).1
 rw [seg_len] at ht
 rw [seg, List.getElem?_map, List.getElem?_range ht] at h
 exact ⟨ht, (Option.some.inj h).symm⟩
theorem seg_get! {cs : Array Value} {s m t : Nat} (h : t < m) : (seg cs s m)[t]! = cs[s + t]! := by
 rw [getElem!_pos _ t (by rw [seg_len]; exact h)]
 simp [seg]
theorem seg_one {cs : Array Value} {s m e : Nat} (h1 : ∀ t, t < e → (cs[t]!).oneCell' = true) (he : s + m ≤ e) : ∀ v ∈ seg cs s m, v.oneCell' = true := by
 intro v hv
 obtain ⟨t, ht, rfl⟩ := List.getElem_of_mem hv
 obtain ⟨h2, h3⟩ := seg_get (List.getElem?_eq_getElem ht)
 rw [h3]; exact h1 _ (by omega)
theorem insF_of {k n i : Nat} {cs : Array Value} {vs : List Value} (hz : (n + 1) * k ≤ cs.size) (hi : i ≤ n) (hv : vs.length = k) :
    InsF k n i cs vs (setMany (setMany cs ((i + 1) * k) (seg cs (i * k) ((n - i) * k))) (i * k) vs) := by
  intro t ht
  obtain ⟨m, rfl⟩ : ∃ m, n = i + m := ⟨n - i, by omega⟩
  have e1 : (i + m + 1) * k = i * k + m * k + k := by rw [Nat.add_mul, Nat.add_mul, Nat.one_mul]
  have e2 : (i + 1) * k = i * k + k := by rw [Nat.add_mul, Nat.one_mul]
  have e3 : i + m - i = m := by omega
  rw [e1] at hz ht
  rw [e2, e3, get_setMany _ _ _ t (by simp; omega), hv]
  by_cases h1 : t < i * k
  · rw [if_neg (by omega), if_pos h1, get_setMany _ _ _ t (by omega), if_neg (by omega)]
  · by_cases h2 : t < i * k + k
    · rw [if_pos (by omega), if_neg h1, if_pos h2]
    · rw [if_neg (by omega), if_neg h1, if_neg h2, get_setMany _ _ _ t (by omega), seg_len, if_pos (by omega), seg_get! (by omega), show i * k + (t - (i * k + k)) = t - k by omega]
theorem wpList_append_room_k {P : Program} (w : World) {ops : Array Oper} {rest : List Oper} {o : Oper} {a : Act} {Q : Exit → Act → World → Prop}
    (hg : o.guard = none) (s x : Operand) (t : TypeId) (hop : o.op = Op.call { callee := Callee.builtin Builtin.append, args := #[s, x], argTypes := #[t, t] })
    (e : TypeId) (i : TypeInfo) (size : Nat) (h1 : P.underlying t = some (.slice e)) (h2 : P.info? e = some i) (h4 : i.size = size)
    (b off n cap : Nat) (hs : a.eval s = .slice (some ⟨b, off, none⟩) n cap) (ad : Addr) (m c : Nat) (news : List Value) (hx : a.eval x = .slice (some ad) m c) (hn : news.length = m * size)
    (hc : ∀ j u, news[j]? = some u → w.cell? (ad.add j) = some u) (h1c : ∀ u ∈ news, u.oneCell' = true) (hroom : n + m ≤ cap)
    (hspare : ∀ j, j < news.length → (w.cell? ⟨b, off + n * size + j, none⟩).isSome = true ∧ w.frozen? ⟨b, off + n * size + j, none⟩ = false)
    (hK : wpList P ops Q rest (a.put o.dst (.slice (some ⟨b, off, none⟩) (n + m) cap)) (w.setCells b (off + n * size) news)) :
    wpList P ops Q (o :: rest) a w := by
  refine wpList_plain hg fun K hK' => ?_
  subst h4
  have hrun := run_append_room_cells (P := P) w t o.type e i h1 h2 b off n cap ad m c news hn hc h1c hroom (fun j hj => (hspare j hj).1) (fun j hj => (hspare j hj).2)
  unfold Oper.wp
  simp [execOp, hop, resolve, invoke, builtin, hs, hx, hrun, Result.andThen]
  exact hK' _ _ hK
set_option maxHeartbeats 4000000 in
set_option maxRecDepth 1000000 in
theorem insE_shift (blk off cap n i m vb voff vc tA kA : Nat) (cs : Array Value) (vs : List Value) (w : World) (h0 : off = 0) (hm1 : m = 1) (hH : Holds id w blk off cs) (hz : cs.size = cap * 5) (h1 : ∀ t, t < n * 5 → (cs[t]!).oneCell' = true)
    (hvl : vs.length = 5) (hvs : ∀ j v, vs[j]? = some v → w.cell? ⟨vb, voff + j, none⟩ = some v) (h1v : ∀ v ∈ vs, v.oneCell' = true) (hvb : vb ≠ blk) (hsa : w.shape? vb = some (tA, kA)) (hkA : kA ≠ 0) (tB : TypeId) (hsb : w.shape? blk = some (tB, cap * 5)) (hfb : ∀ o, w.frozen? ⟨blk, o, none⟩ = false)
    (hm : cap ≤ 9223372036854775807) (hi : i < n) (hroom : n + m ≤ cap) :
    Calls Tryz.prog 77 #[.slice (some ⟨blk, off, none⟩) n cap, .int .i64 i, .slice (some ⟨vb, voff, none⟩) m vc] w fun e w' => e = .returned (.slice (some ⟨blk, off, none⟩) (n + m) cap) ∧ ∃ (q : Nat) (F : Array Value), F.size = cs.size ∧ InsF 5 n i cs vs F ∧ w' = putRow id (Sort.ahead w q) blk 0 F := by
  have mixed : Tryz.prog.follows Departure.mixedOrders = true := rfl
  have hz1 : ¬ ((m : Int) = 0) := by omega
  have hz2 : ¬ ((i : Int) = (n : Int)) := by omega
  have hsz : (Tryz.prog.info? 53).map (·.size) = some 5 := by kernel_rfl
  have hov : ∀ lb cb, (callFunc 84 #[.slice (some ⟨vb, voff, none⟩) m vc, .slice (some ⟨blk, off + (i + m) * 5, none⟩) lb cb]).run Tryz.prog w = .ok (.value (.bool false)) w := fun lb cb => by
    rw [run_callFunc_extern Tryz.func84 (by kernel_rfl) (by kernel_rfl) (by kernel_rfl) (e := Extern.SlicesOverlaps.overlaps #[45, 45] #[4]) (by kernel_rfl),
      run_overlaps_own w 45 4 53 rfl 5 (fun _ => by kernel_rfl) ⟨vb, voff, none⟩ ⟨blk, off + (i + m) * 5, none⟩ m vc lb cb hvb tA tB kA (cap * 5) hsa hsb (by omega) hkA (hfb _) (hfb _)]
    rfl
  have hw1 : IntKind.i64.wrap ((i : Int) + (m : Int)) = (i : Int) + (m : Int) := by rw [IntKind.wrap_i64]; omega
  have hb1 : (0 : Int) ≤ (i : Int) + (m : Int) := by omega
  have hin : i ≤ n := by omega
  have htn : ((i : Int) + (m : Int)).toNat = i + m := by omega
  have hb2 : ¬ (cap = i + m) := by omega
  have hb3 : (i : Int) ≤ (n : Int) + (m : Int) := by omega
  have hb4 : ¬ (cap = i) := by omega
  have hcz : n * 5 ≤ cs.size := by rw [hz]; exact Nat.mul_le_mul_right _ (by omega)
  have hcz1 : (n + m) * 5 ≤ cs.size := by rw [hz]; exact Nat.mul_le_mul_right _ hroom
  obtain ⟨news, hnews⟩ : ∃ news, news = seg cs (i * 5) ((n - i) * 5) := ⟨_, rfl⟩
  have hnl : news.length = (n - i) * 5 := by rw [hnews, seg_len]
  have hcp1 : ∀ ty dc sc, (Builtin.copy_ #[45, 45] ty #[.slice (some ⟨blk, off + (i + m) * 5, none⟩) (n + m - (i + m)) dc, .slice (some ⟨blk, off + i * 5, none⟩) (n + m - i) sc]).run Tryz.prog w.drew = .ok (goInt ((n - i : Nat) : Int)) (w.drew.setCells blk (off + (i + m) * 5) news) := fun ty dc sc =>
    run_copy_cellsK w.drew _ _ ty 53 5 blk (off + (i + m) * 5) (n + m - (i + m)) dc ⟨blk, off + i * 5, none⟩ (n + m - i) sc (n - i) news rfl hsz (by simp only [Nat.min_def]; split <;> omega) hnl
      (fun j v hj => by
        rw [hnews] at hj
        obtain ⟨ht, rfl⟩ := seg_get hj
        rw [Addr.add_lit, Nat.add_assoc]; exact (hH _ (by omega)).1)
      (fun j hj => by rw [hnl] at hj; rw [Nat.add_assoc]; show (w.cell? _).isSome = true; rw [(hH _ (by omega)).1]; rfl) (fun j hj => by exact hfb _)
      (by rw [hnews]; exact seg_one h1 (by omega))
  obtain ⟨W1, hW1⟩ : ∃ W1, W1 = w.drew.setCells blk (off + (i + m) * 5) news := ⟨_, rfl⟩
  have hput : W1 = putRow id (Sort.ahead w 1) blk off (setMany cs ((i + m) * 5) news) := by
    rw [hW1, ← setCells_putRow _ _ _ _ _ _ (by omega), putRow_self id (Sort.ahead w 1) blk off cs (holds_ahead id w 1 blk off cs hH)]
    rfl
  have hH1 : Holds id W1 blk off (setMany cs ((i + m) * 5) news) := by rw [hput]; exact holds_putRow id _ blk off cs _ (holds_ahead id w 1 blk off cs hH) (by simp)
  have hcp2 : ∀ (W : World), W = W1 → ∀ ty dc, (Builtin.copy_ #[45, 45] ty #[.slice (some ⟨blk, off + i * 5, none⟩) (n + m - i) dc, .slice (some ⟨vb, voff, none⟩) m vc]).run Tryz.prog W = .ok (goInt m) (W.setCells blk (off + i * 5) vs) := fun W hWc ty dc => by
    subst hWc
    refine run_copy_cellsK W _ _ ty 53 5 blk (off + i * 5) (n + m - i) dc ⟨vb, voff, none⟩ m vc m vs rfl hsz (by simp only [Nat.min_def]; split <;> omega) (by omega)
      (fun j v hj => by
        rw [Addr.add_lit, hW1, World.cell?_setCells_out blk _ _ _ _ (fun h _ => absurd h hvb)]
        exact hvs j v hj)
      (fun j hj => by rw [Nat.add_assoc, (hH1 _ (by rw [size_setMany]; omega)).1]; rfl) (fun j hj => by rw [Nat.add_assoc]; exact (hH1 _ (by rw [size_setMany]; omega)).2) h1v
  have fin : Aside (∃ (q : Nat) (F : Array Value), F.size = cs.size ∧ InsF 5 n i cs vs F ∧ W1.setCells blk (off + i * 5) vs = putRow id (Sort.ahead w q) blk 0 F) := by
    subst h0 hm1
    refine ⟨1, _, ?_, insF_of hcz1 (by omega) hvl, ?_⟩
    · simp
    · rw [hput, setCells_putRow _ _ _ _ _ _ (by rw [size_setMany]; omega), hnews]
  rw [← hW1] at hcp1
  clear hkA hput hH hH1 hnews hnl hz hcz hcz1 h1 hvs h1v hsa hsb hfb hvl h0 hm1 hvb
  go_enter Tryz.func77, Tryz.ntmps77
  go_wp2_with (simp only [hov])
  go_region_law_o (refine step_copy_runI rfl _ _ 45 45 rfl _ _ (by simp [Act.eval, Act.put]) (by simp [Act.eval, Act.put]) (hcp1 _ _ _) ?_)
  go_wp2_with (at_builtin; refine wpList_copy_runI _ rfl _ _ 45 45 rfl _ _ rfl rfl (hcp2 _ rfl _ _) ?_)
  go_ret
  exact ⟨rfl, by rw [← hW1]; exact fin.out⟩
set_option maxHeartbeats 4000000 in
set_option maxRecDepth 1000000 in
theorem insE_end_room (blk off cap n m vb voff vc : Nat) (cs : Array Value) (vs : List Value) (w : World) (h0 : off = 0) (hm1 : m = 1) (hH : Holds id w blk off cs) (hz : cs.size = cap * 5)
    (hvl : vs.length = 5) (hvs : ∀ j v, vs[j]? = some v → w.cell? ⟨vb, voff + j, none⟩ = some v) (h1v : ∀ v ∈ vs, v.oneCell' = true)
    (hm : cap ≤ 9223372036854775807) (hroom : n + m ≤ cap) :
    Calls Tryz.prog 77 #[.slice (some ⟨blk, off, none⟩) n cap, .int .i64 n, .slice (some ⟨vb, voff, none⟩) m vc] w fun e w' => e = .returned (.slice (some ⟨blk, off, none⟩) (n + m) cap) ∧ ∃ (q : Nat) (F : Array Value), F.size = cs.size ∧ InsF 5 n n cs vs F ∧ w' = putRow id (Sort.ahead w q) blk 0 F := by
  have mixed : Tryz.prog.follows Departure.mixedOrders = true := rfl
  have hz1 : ¬ ((m : Int) = 0) := by omega
  have hcz1 : (n + m) * 5 ≤ cs.size := by rw [hz]; exact Nat.mul_le_mul_right _ hroom
  obtain ⟨i0, hi0, hz0, hzs, hzb⟩ := info_parts (P := Tryz.prog) (e := 53) (z := .agg #[.int .i64 0, .int .i64 0, .int .i64 0, .string ⟨#[]⟩, .slice none 0 0]) (size := 5) (bytes := 64) (by kernel_rfl)
  have s1 : Hid (∀ j u, vs[j]? = some u → w.cell? (Addr.add ⟨vb, voff, none⟩ j) = some u) := fun j u hj => by rw [Addr.add_lit]; exact hvs j u hj
  have s2 : Hid (∀ u ∈ vs, u.oneCell' = true) := h1v
  have s3 : Hid (∀ j, j < vs.length → (w.cell? ⟨blk, off + n * 5 + j, none⟩).isSome = true ∧ w.frozen? ⟨blk, off + n * 5 + j, none⟩ = false) := fun j hj => by
    rw [Nat.add_assoc]; exact ⟨by rw [(hH _ (by omega)).1]; rfl, (hH _ (by omega)).2⟩
  have s5 : Hid (vs.length = m * 5) := by show vs.length = m * 5; omega
  have s6 : Hid (∀ j u, (seg cs 0 (n * 5))[j]? = some u → w.cell? ⟨blk, off + j, none⟩ = some u) := fun j u hj => by
    obtain ⟨ht, rfl⟩ := seg_get hj
    rw [Nat.zero_add]; exact (hH _ (by omega)).1
  have fin : Aside (∃ (q : Nat) (F : Array Value), F.size = cs.size ∧ InsF 5 n n cs vs F ∧ w.setCells blk (off + n * 5) vs = putRow id (Sort.ahead w q) blk 0 F) := by
    subst h0 hm1
    refine ⟨0, setMany cs (n * 5) vs, by simp, fun t ht => ?_, ?_⟩
    · rw [get_setMany _ _ _ t (by omega), hvl]
      by_cases h1 : t < n * 5
      · rw [if_neg (by omega), if_pos h1]
      · rw [if_pos (by omega), if_neg h1, if_pos (by omega)]
    · rw [← setCells_putRow _ _ _ _ _ _ (by omega), putRow_self id (Sort.ahead w 0) blk 0 cs (holds_ahead id w 0 blk 0 cs hH)]
      rfl
  have hml : n + m ≤ maxLen := by unfold maxLen; omega
  clear hH hz hcz1 hvs h1v hvl h0 hm1
  go_enter Tryz.func77, Tryz.ntmps77
  go_wp2_with (at_builtin; refine wpList_append_room_k _ rfl _ _ 45 rfl 53 i0 5 rfl hi0 hzs blk off n cap rfl ⟨vb, voff, none⟩ m vc vs rfl s5.out s1.out s2.out hroom s3.out ?_)
  go_ret
  exact ⟨rfl, fin.out⟩
set_option maxHeartbeats 4000000 in
set_option maxRecDepth 1000000 in
theorem insE_end_grow (ao : Option Addr) (cap n m vb voff vc : Nat) (olds vs : List Value) (w : World) (hm1 : m = 1) (hnone : ao = none → n = 0 ∧ cap = 0) (hlo : olds.length = n * 5) (holds : ∀ b, ao = some b → ∀ j u, olds[j]? = some u → w.cell? (b.add j) = some u)
    (hvl : vs.length = 5) (hvs : ∀ j v, vs[j]? = some v → w.cell? ⟨vb, voff + j, none⟩ = some v) (h1v : ∀ v ∈ vs, v.oneCell' = true)
    (hnc : n ≤ cap) (hfull : cap < n + m) (hbig : (n + m) * 64 ≤ 140737488355328) :
    Calls Tryz.prog 77 #[.slice ao n cap, .int .i64 n, .slice (some ⟨vb, voff, none⟩) m vc] w fun e w' => ∃ v', e = .returned v' ∧ w'.ownsRow w.heap.size 53 5 v' (n + m) (olds ++ vs) ∧ w.grownBy w' none := by
  have mixed : Tryz.prog.follows Departure.mixedOrders = true := rfl
  have hz1 : ¬ ((m : Int) = 0) := by omega
  obtain ⟨i0, hi0, hz0, hzs, hzb⟩ := info_parts (P := Tryz.prog) (e := 53) (z := .agg #[.int .i64 0, .int .i64 0, .int .i64 0, .string ⟨#[]⟩, .slice none 0 0]) (size := 5) (bytes := 64) (by kernel_rfl)
  have s1 : Hid (∀ j u, vs[j]? = some u → w.cell? (Addr.add ⟨vb, voff, none⟩ j) = some u) := fun j u hj => by rw [Addr.add_lit]; exact hvs j u hj
  have s2 : Hid (∀ u ∈ vs, u.oneCell' = true) := h1v
  have s5 : Hid (vs.length = m * 5) := by show vs.length = m * 5; omega
  have s6 : Hid (∀ b, ao = some b → ∀ j u, olds[j]? = some u → w.cell? (b.add j) = some u) := holds
  have s7 : Hid (ao = none → n = 0 ∧ cap = 0) := hnone
  have hml : n + m ≤ maxLen := by unfold maxLen; omega
  clear hvs h1v hvl hm1 holds hnone
  go_enter Tryz.func77, Tryz.ntmps77
  go_wp2_with (at_builtin; refine wpList_append_grows _ rfl _ _ 45 rfl 53 i0 (.agg #[.int .i64 0, .int .i64 0, .int .i64 0, .string ⟨#[]⟩, .slice none 0 0]) 5 64 rfl hi0 hz0 hzs hzb rfl (by omega) ao n cap olds rfl s7.out hlo s6.out ⟨vb, voff, none⟩ m vc vs rfl s5.out s1.out s2.out hfull hml hbig (fun v' w' r1 r2 => ?_))
  all_goals
    go_ret
    exact ⟨_, rfl, by assumption, by assumption⟩
end Go.Proofs.YtkgobnnkcnnfhaaGreat
