/- Joined texts of this claim: Op4 Op7. -/
import Derived.Test.YtiandbolipoebaaKE
set_option linter.unusedSimpArgs false
set_option linter.unusedVariables false
set_option linter.unusedSectionVars false
/- Arguments of laws, opened: lists of entries, of ids. -/
namespace Go.Proofs.Ytiandbolipoebaa
open Go.RowKit Go.ChangeShapes Go.WideShapes Go.ChangeAt
section
variable {H : Type} {enc : TypeId × Value → H} {w : World} {sp : Nat → Bool} {held : Bool}
theorem opEntries : Opens enc Try.prog w sp held 22 1 fun ps => ∃ l : List Entry, l.length ≤ reachBytes ∧ (∀ e ∈ l, wfE e) ∧ ps = [.list (l.map cE)] :=
  (opens_slice (by kernel_rfl) (by kernel_rfl) (by omega) opEntry).mono (by
    rintro ps ⟨rows, hm, hr, rfl⟩
    obtain ⟨l, h1, rfl⟩ := rows_map hr
    have hb : 1 ≤ Try.prog.bytesOf 29 := by decide +kernel
    refine ⟨l, ?_, h1, rfl⟩
    have h2 : (l.map cE).length * 1 ≤ (l.map cE).length * Try.prog.bytesOf 29 := Nat.mul_le_mul_left _ hb
    rw [List.length_map] at h2 hm
    omega)
set_option maxRecDepth 100000 in
theorem argEntries {b0 : Nat} {v : Value} {d : DataW H} {p : List MemPlace} (hv : Value.okWide Try.prog w .any b0 22 v) (h : DataW.Trod enc Try.prog w 0 sp held 22 v d p) (hw : ∀ k ∈ d.weights Try.prog 22, k ≤ reachBytes) :
    ∃ l : List Entry, l.length ≤ reachBytes ∧ (∀ e ∈ l, wfE e) ∧ Arg w (.list (l.map cE)) v := by
  obtain ⟨a, n, c, rfl⟩ := okWide_slice (e := 29) (by kernel_rfl) hv
  obtain ⟨q, ⟨l, h1, h2, hq⟩, h3⟩ := open_cell opEntries (by simp) h hw
  simp at hq; subst hq
  exact ⟨l, h1, h2, .of h3⟩
set_option maxRecDepth 100000 in
theorem argIds {b0 : Nat} {v : Value} {d : DataW H} {p : List MemPlace} (hv : Value.okWide Try.prog w .any b0 27 v) (h : DataW.Trod enc Try.prog w 0 sp held 27 v d p) (hw : ∀ k ∈ d.weights Try.prog 27, k ≤ reachBytes) :
    ∃ l : List Id, l.length * 16 ≤ reachBytes ∧ (∀ e ∈ l, wfId e) ∧ Arg w (.list (l.map cId)) v := by
  obtain ⟨a, n, c, rfl⟩ := okWide_slice (e := 26) (by kernel_rfl) hv
  obtain ⟨q, ⟨l, h1, h2, hq⟩, h3⟩ := open_cell opIds (by simp) h hw
  simp at hq; subst hq
  exact ⟨l, h1, h2, .of h3⟩
end
end Go.Proofs.Ytiandbolipoebaa
/- Arguments of laws, opened: sites. -/
namespace Go.Proofs.Ytiandbolipoebaa
open Go.RowKit Go.ChangeShapes Go.WideShapes Go.ChangeAt
section
variable {H : Type} {enc : TypeId × Value → H} {w : World} {sp : Nat → Bool} {held : Bool}
theorem undSite : Try.prog.underlying 24 = some (.struct (Try.prog.fieldsOf 24)) := by kernel_rfl
theorem opSite : Opens enc Try.prog w sp held 24 3 fun ps => ∃ (r : Int) (lg ws : List Entry), (I64 r ∧ lg.length ≤ reachBytes ∧ ws.length ≤ reachBytes ∧ (∀ e ∈ lg, wfE e) ∧ ∀ e ∈ ws, wfE e) ∧ ps = cSi r lg ws :=
  (opens_struct [(3, 1, _), (22, 1, _), (22, 1, _)] undSite (by kernel_rfl) (by kernel_rfl) rfl ⟨opInt, opEntries, opEntries, trivial⟩).mono (by
    rintro ps ⟨a, b, rfl, -, ⟨x, hx, rfl⟩, c, d, rfl, -, ⟨y, hy, hy2, rfl⟩, k, q, rfl, -, ⟨l, hl, hl2, rfl⟩, rfl⟩
    exact ⟨x, y, l, ⟨hx, hy, hl, hy2, hl2⟩, rfl⟩)
set_option maxRecDepth 100000 in
theorem argSite {b0 : Nat} {v : Value} {d : DataW H} {p : List MemPlace} (hv : Value.okWide Try.prog w .any b0 24 v) (h : DataW.Trod enc Try.prog w 0 sp held 24 v d p) (hw : ∀ k ∈ d.weights Try.prog 24, k ≤ reachBytes) :
    ∃ (r : Int) (lg ws : List Entry), (I64 r ∧ lg.length ≤ 1000000000000000 ∧ ws.length ≤ 1000000000000000 ∧ (∀ e ∈ lg, wfE e) ∧ ∀ e ∈ ws, wfE e) ∧ Arg w (.agg (cSi r lg ws)) v := by
  obtain ⟨cs, rfl, -⟩ := okWide_struct undSite hv
  obtain ⟨ps, ⟨r, lg, ws, ⟨a, b, c, d, e⟩, rfl⟩, h4⟩ := open_agg opSite ⟨_, rfl⟩ h hw (Stab (lawCx w) (lawCx w).C0 [] w) (fun _ _ h => lawStab h) _
  simp only [reachBytes] at b c
  exact ⟨r, lg, ws, ⟨a, by omega, by omega, d, e⟩, h4⟩
end
end Go.Proofs.Ytiandbolipoebaa
