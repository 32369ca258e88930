/- From an argument's reading as data to what the walks ask of memory; and from a walk that ends in 'true' to a law's statement. -/
import Derived.Test.YthhkafjkhogbmaaProg
import Derived.Test.YthhkafjkhogbmaaBase
import Derived.ProofKit
import Derived.OpenShut
import Derived.Carry
namespace Go.Proofs.Ythhkafjkhogbmaa
open Go.RowKit Go.ChangeShapes Go.WideShapes Go.ChangeAt

section
variable {H : Type} {enc : TypeId × Value → H} {P : Program} {w : World} {sp : Nat → Bool} {held : Bool}

theorem trodAll_stays (hl : laidOutB P = true) {W W' : World} (hb : Below W.heap.size W W') : ∀ {ts : List TypeId} {vs : List Value} {ds : List (DataW H)} {ps : List MemPlace},
    (∀ t ∈ ts, P.readableRec t = true ∧ t < P.types.size) → (∀ x ∈ ps, x.block < W.heap.size) → DataW.TrodAll enc P W 0 (fun _ => true) true ts vs ds ps → DataW.TrodAll enc P W' 0 (fun b => decide (b < W.heap.size)) true ts vs ds ps
  | [], [], [], _, _, _, h => h
  | t :: ts, v :: vs, d :: ds, _, hr, hlt, h => by
    obtain ⟨p, q, h1, h2, rfl⟩ := h
    refine ⟨p, q, Below.trod hl (hr t (by simp)).1 (hr t (by simp)).2 h1 hb (fun x hx => hlt x (by simp [hx])), trodAll_stays hl hb (fun t' ht => hr t' (by simp [ht])) (fun x hx => hlt x (by simp [hx])) h2, rfl⟩
  | [], [], _ :: _, _, _, _, h => h.elim
  | [], _ :: _, _, _, _, _, h => by cases h
  | _ :: _, [], _, _, _, _, h => by cases h
  | _ :: _, _ :: _, [], _, _, _, h => h.elim

/-- A LAW's END: it has answered true, and of what was there nothing has turned. -/
theorem law_post {f : Func} {s : ChangeSpec} {apart : Bool} {W W' : World} {args : Array Value} {ds gs : List (DataW H)} {before : List MemPlace} {tb : TypeId}
    (hl : laidOutB P = true) (hpar : ∀ t ∈ f.params.toList, P.readableRec t = true ∧ t < P.types.size) (hres : f.resultTypes = #[tb]) (hub : P.underlying tb = some .bool) (hvars : s.vars = [])
    (hW : DataW.Whole enc P f.params.toList s.vars apart W args.toList ds gs before)
    (hs : s.fn H (ds ++ gs) = { results := [.lit (.bool true)], args := ds }) (hb : Below W.heap.size W W') : s.post enc P f apart true false false W args (.bool true) W' := by
  have hlt := hW.lt
  have hW' := hW
  obtain ⟨p, q, hA, hV, rfl, hfz, hnd⟩ := hW
  rw [hvars] at hV
  have hq : gs = [] ∧ q = [] := by
    cases gs with
    | nil => exact ⟨rfl, hV⟩
    | cons g gs => exact hV.elim
  obtain ⟨rfl, rfl⟩ := hq
  refine ⟨ds, [], _, [], p, [], hW', ?_, ?_, ?_, hb.frame _, fun h => by cases h⟩
  · rw [hs, hres]
    exact trodAll_mk1 (shut_bool hub true)
  · rw [hs]
    exact trodAll_stays hl hb hpar (fun x hx => hlt x (by simp [hx])) hA
  · rw [hs, hvars]
    rfl

theorem parsOf {ts : List TypeId} (h : (ts.all fun t => P.readableRec t && decide (t < P.types.size)) = true) : ∀ t ∈ ts, P.readableRec t = true ∧ t < P.types.size := by
  intro t ht
  have := List.all_eq_true.1 h t ht
  simpa only [Bool.and_eq_true, decide_eq_true_eq] using this

/-- the fields of a struct's reading -/
theorem trod_fields {t : TypeId} {fs : List (TypeId × Nat)} {fuel : Nat} {cs : List Value} {x : DataW H × List MemPlace} (hs : P.underlying t = some (.struct (P.fieldsOf t))) (hf : (P.fieldsOf t).toList.map (fun f => (f.type, f.offset)) = fs)
    (h : DataW.trod enc P w 0 sp held fuel t cs = some x) : cs.length = P.cellsOf t ∧ ∀ (i : Nat) (t' : TypeId) (o : Nat), fs[i]? = some (t', o) → ∃ n y, DataW.trod enc P w 0 sp held n t' ((cs.drop o).take (P.cellsOf t')) = some y := by
  obtain ⟨xs, n, _, _, hl, hlen, hq⟩ := DataW.trod_struct hs h
  refine ⟨hl, fun i t' o hi => ?_⟩
  rw [← hf, List.getElem?_map] at hi
  obtain ⟨f, h1, h2⟩ := Option.map_eq_some_iff.1 hi
  simp only [Prod.mk.injEq] at h2
  obtain ⟨rfl, rfl⟩ := h2
  have h3 := hq i f (by simpa using h1)
  have hi2 : i < (P.fieldsOf t).toList.length := (List.getElem?_eq_some_iff.1 h1).1
  have hi3 : i < xs.length := by rw [hlen]; simpa using hi2
  exact ⟨n, xs[i], by rw [h3]; simp⟩

/-- a slice's reading, element by element -/
theorem trod_elems {t e : TypeId} {fuel : Nat} {v : Value} {x : DataW H × List MemPlace} (ht : P.underlying t = some (.slice e)) (hsz : 0 < P.cellsOf e) (h : DataW.trod enc P w 0 sp held fuel t [v] = some x) :
    ∃ a n c, v = .slice a n c ∧ n ≤ c ∧ c ≤ maxLen ∧ ∀ k, k < n → ∃ b o cs m y, a = some ⟨b, o, none⟩ ∧ b < w.heap.size ∧ cs.length = P.cellsOf e ∧ (∀ j, j < P.cellsOf e → w.cell? ⟨b, o + k * P.cellsOf e + j, none⟩ = cs[j]?) ∧
      DataW.trod enc P w 0 sp held m e cs = some y := by
  rcases DataW.trod_slice ht h with ⟨hv, -⟩ | ⟨a, len, cap, elems, rest, m, -, hv, -, -, h1, h2, hl, hel, -, -⟩
  · exact ⟨none, 0, 0, by simpa using hv, by omega, by unfold maxLen; omega, fun k hk => by omega⟩
  · obtain rfl : v = .slice (some a) len cap := by simpa using hv
    have key : ∀ k, k < len → ∃ cs y, w.cells? 0 (a.add (k * P.cellsOf e)) (P.cellsOf e) = some cs ∧ DataW.trod enc P w 0 sp held m e cs = some y := by
      intro k hk
      have := hel k hk
      rw [List.getElem?_eq_getElem (by omega)] at this
      obtain ⟨cs, hcs, hy⟩ := Option.bind_eq_some_iff.1 this
      exact ⟨cs, _, hcs, hy⟩
    refine ⟨some a, len, cap, rfl, h1, h2, fun k hk => ?_⟩
    obtain ⟨cs0, y0, hc0, -⟩ := key 0 (by omega)
    have h0 := (World.cells?_some hc0).2.2 0 hsz
    obtain ⟨ab, ao, asp⟩ := a
    have hl0 := (World.cells?_some hc0).2.1
    have has : asp = none := by
      simp only [Nat.zero_mul, Addr.add, if_true] at h0
      rw [List.getElem?_eq_getElem (by omega)] at h0
      cases asp with
      | none => rfl
      | some s =>
        simp only [World.cell?] at h0
        split at h0 <;> simp at h0
    subst has
    obtain ⟨cs, y, hcs, hy⟩ := key k hk
    have h3 := World.cells?_some hcs
    have add_eq : ∀ (o n : Nat), (⟨ab, o, none⟩ : Addr).add n = ⟨ab, o + n, none⟩ := by
      intro o n; unfold Addr.add; split <;> simp_all
    refine ⟨ab, ao, cs, m, y, rfl, ?_, h3.2.1, fun j hj => ?_, hy⟩
    · exact World.cells?_block (a := ⟨ab, ao, none⟩) (by simpa [add_eq] using hc0) hsz
    · have := h3.2.2 j hj
      simpa [add_eq] using this
end

theorem list2 {α : Type} {l : List α} (h : l.length = 2) : ∃ a b, l = [a, b] := by
  match l, h with
  | [a, b], _ => exact ⟨a, b, rfl⟩
theorem list3 {α : Type} {l : List α} (h : l.length = 3) : ∃ a b c, l = [a, b, c] := by
  match l, h with
  | [a, b, c], _ => exact ⟨a, b, c, rfl⟩
theorem list4 {α : Type} {l : List α} (h : l.length = 4) : ∃ a b c d, l = [a, b, c, d] := by
  match l, h with
  | [a, b, c, d], _ => exact ⟨a, b, c, d, rfl⟩
theorem list5 {α : Type} {l : List α} (h : l.length = 5) : ∃ a b c d e, l = [a, b, c, d, e] := by
  match l, h with
  | [a, b, c, d, e], _ => exact ⟨a, b, c, d, e, rfl⟩
theorem arr_eq {α : Type} {cs : Array α} {l : List α} (h : cs.toList = l) : cs = l.toArray := by rw [← h]

/-- within the bounds of Go's int -/
def I64 (n : Int) : Prop := -9223372036854775808 ≤ n ∧ n ≤ 9223372036854775807
theorem i64_of_wf {n : Int} (h : (Lit.int .i64 n).wf = true) : I64 n := by simpa [Lit.wf, IntKind.min, IntKind.max, IntKind.signed, IntKind.bits, I64] using h

section
variable {H : Type} {enc : TypeId × Value → H} {w : World} {sp : Nat → Bool} {held : Bool}
theorem lawOwn : ownKnob Try.prog.godebug = none := by kernel_rfl
theorem lawLaid : laidOutB Try.prog = true := by kernel_rfl
theorem lawBool : Try.prog.underlying 4 = some .bool := by kernel_rfl
theorem undInt' : Try.prog.underlying 3 = some (.int .i64) := by kernel_rfl
theorem cellsInt : Try.prog.cellsOf 3 = 1 := by kernel_rfl
theorem openInt {fuel : Nat} {cs : List Value} {y : DataW H × List MemPlace} (h : DataW.trod enc Try.prog w 0 sp held fuel 3 cs = some y) : ∃ n, cs = [.int .i64 n] ∧ I64 n := by
  obtain ⟨n, rfl, -, hw⟩ := DataW.trod_int undInt' h
  exact ⟨n, rfl, i64_of_wf hw⟩
theorem undVec' : Try.prog.underlying 23 = some (.array 2 3) := by kernel_rfl
theorem cellsVec : Try.prog.cellsOf 23 = 2 := by kernel_rfl
set_option maxRecDepth 100000 in
theorem openVec {b0 : Nat} {v : Value} {d : DataW H} {p : List MemPlace} (hv : Value.okWide Try.prog w .any b0 23 v) (h : DataW.Trod enc Try.prog w 0 sp held 23 v d p) :
    ∃ a b : Int, v = .agg #[.int .i64 a, .int .i64 b] ∧ I64 a ∧ I64 b := by
  simp only [Value.okWide, undVec'] at hv
  obtain ⟨cs, rfl, hsz, -⟩ := hv
  obtain ⟨fuel, hf⟩ := h
  obtain ⟨xs, m, -, -, hl, hxl, hx⟩ := DataW.trod_array undVec' hf
  rw [cellsVec] at hl
  obtain ⟨u, v, e⟩ := list2 hl
  have h0 := hx 0 (by omega)
  have h1 := hx 1 (by omega)
  rw [List.getElem?_eq_getElem (by omega)] at h0 h1
  rw [e] at h0 h1
  obtain ⟨a, ea, wa⟩ := openInt h0
  obtain ⟨b, eb, wb⟩ := openInt h1
  simp only [cellsInt] at ea eb
  simp at ea eb
  subst ea eb
  exact ⟨a, b, congrArg Value.agg (arr_eq (cs := cs) e), wa, wb⟩
theorem undId : Try.prog.underlying 25 = some (.struct (Try.prog.fieldsOf 25)) := by kernel_rfl
theorem cellsId : Try.prog.cellsOf 25 = 2 := by kernel_rfl
theorem fldsId : (Try.prog.fieldsOf 25).toList.map (fun f => (f.type, f.offset)) = [(3, 0), (3, 1)] := by kernel_rfl
theorem openIdCells {fuel : Nat} {cs : List Value} {y : DataW H × List MemPlace} (h : DataW.trod enc Try.prog w 0 sp held fuel 25 cs = some y) : ∃ a b : Int, cs = [.int .i64 a, .int .i64 b] ∧ I64 a ∧ I64 b := by
  obtain ⟨hl, hx⟩ := trod_fields undId fldsId h
  rw [cellsId] at hl
  obtain ⟨u, v, rfl⟩ := list2 hl
  obtain ⟨n0, y0, h0⟩ := hx 0 3 0 rfl
  obtain ⟨n1, y1, h1⟩ := hx 1 3 1 rfl
  obtain ⟨a, ea, wa⟩ := openInt h0
  obtain ⟨b, eb, wb⟩ := openInt h1
  simp only [cellsInt] at ea eb
  simp at ea eb
  subst ea eb
  exact ⟨a, b, rfl, wa, wb⟩
set_option maxRecDepth 100000 in
theorem openId {b0 : Nat} {v : Value} {d : DataW H} {p : List MemPlace} (hv : Value.okWide Try.prog w .any b0 25 v) (h : DataW.Trod enc Try.prog w 0 sp held 25 v d p) :
    ∃ a b : Int, v = .agg #[.int .i64 a, .int .i64 b] ∧ I64 a ∧ I64 b := by
  obtain ⟨cs, rfl, -⟩ := okWide_struct undId hv
  obtain ⟨fuel, hf⟩ := h
  obtain ⟨a, b, e, wa, wb⟩ := openIdCells hf
  exact ⟨a, b, congrArg Value.agg (arr_eq (cs := cs) e), wa, wb⟩
end

end Go.Proofs.Ythhkafjkhogbmaa
