/- PacketTells: Encode, Decode and Missing answer just what the document says, errors too, whatever they are handed; no condition. -/
import Derived.Test.YtkibfciheifphaaRows
import Derived.Test.YtkibfciheifphaaKE
set_option linter.unusedSimpArgs false
set_option linter.unusedVariables false
set_option linter.unusedSectionVars false
namespace Go.Proofs.Ytkibfciheifphaa
open Go.RowKit Go.ChangeShapes Go.WideShapes Go.ChangeAt
set_option maxRecDepth 100000 in
theorem packetTells_lifted (os : Os) (started : os.Started) (H : Type) (enc : TypeId × Value → H) :
    ReturnsInHanded {} Try.checked os 3 .any (Rows.packetTellsSpec.pre6 enc Try.prog Try.f3 Rows.packetTellsRow.domain false) (Rows.packetTellsSpec.post enc Try.prog Try.f3 false true false false) := by
  refine returnsInHanded_of_change_sized (C := Try.checked) lawOwn started (by kernel_rfl) Try.func3
    (ChangeSpec.witness6 (enc := enc) (C := Try.checked) false ⟨#[], #[.slice none 0 0, .string ⟨#[]⟩, .slice none 0 0, .agg #[.int .i64 0, .int .i64 0]], []⟩ 8 (by kernel_rfl) (by kernel_rfl) (by kernel_rfl) (by kernel_rfl)) ?_
  intro W base args ds gs before hval0 hW hcnd hwt0 _
  have hwt : ∀ k ∈ DataW.weightsEach Try.prog Try.f3.params.toList ds, k ≤ reachBytes := fun k hk => by
    have h1 := List.all_eq_true.1 hwt0 k
    obtain ⟨_, _, _, hV0, _⟩ := hW
    obtain ⟨rfl, rfl⟩ := trodVars_none hV0
    simp only [List.append_nil] at h1
    have h2 : k ∈ DataW.weightsEach Try.prog (Try.f3.params.toList ++ []) ds := by rw [List.append_nil]; exact hk
    simpa using h1 h2
  have hval : ∀ (j : Nat) t v, Try.f3.params[j]? = some t → args[j]? = some v → Value.okWide Try.prog W .any base t v := hval0
  have hW' := hW
  obtain ⟨p, q, hA0, hV, rfl, hfz, hnd⟩ := hW
  have hA : DataW.TrodAll enc Try.prog W 0 (fun _ => true) true Try.f3.params.toList args.toList ds p := hA0
  rw [Try.params3] at hA hval hwt
  obtain ⟨v0, vs0, d0, ds0, p0, q0, hargs, rfl, rfl, h0, r0⟩ := trodAll_cons hA
  obtain ⟨v1, vs1, d1, ds1, p1, q1, rfl, rfl, rfl, h1, r1⟩ := trodAll_cons r0
  obtain ⟨v2, vs2, d2, ds2, p2, q2, rfl, rfl, rfl, h2, r2⟩ := trodAll_cons r1
  obtain ⟨v3, vs3, d3, ds3, p3, q3, rfl, rfl, rfl, h3, r3⟩ := trodAll_cons r2
  obtain ⟨rfl, rfl, rfl⟩ := trodAll_nil r3
  obtain rfl : args = #[v0, v1, v2, v3] := by cases args; simp_all
  obtain ⟨rfl, rfl⟩ := trodVars_none hV
  have w0 := fun k hk => hwt k (DataW.weights_mem_each (j := 0) rfl rfl k hk)
  have w1 := fun k hk => hwt k (DataW.weights_mem_each (j := 1) rfl rfl k hk)
  have w2 := fun k hk => hwt k (DataW.weights_mem_each (j := 2) rfl rfl k hk)
  have w3 := fun k hk => hwt k (DataW.weights_mem_each (j := 3) rfl rfl k hk)
  have k0 := hval 0 _ v0 rfl rfl
  have k1 := hval 1 _ v1 rfl rfl
  have k2 := hval 2 _ v2 rfl rfl
  have k3 := hval 3 _ v3 rfl rfl
  clear hA0 hval0 hval hcnd hargs hwt0
  obtain ⟨l, wl, -, a0⟩ := argEntries k0 h0 w0
  obtain ⟨s, ws, a1⟩ := argStr k1 h1 w1
  obtain ⟨g, wg, -, a2⟩ := argEntries k2 h2 w2
  obtain ⟨x, y, a3⟩ := argVec k3 h3
  have ws' : s.data.toList.length ≤ maxLen := by simp [reachBytes, maxLen] at *; omega
  have wl' : l.length ≤ 1000000000000000 := by simp [reachBytes] at wl; omega
  have wg' : g.length ≤ 1000000000000000 := by simp [reachBytes] at wg; omega
  rw [← BA_data s] at a1
  refine (law_calls (packetTells_meets l s.data.toList g x y wl' ws' wg') (.cons a0 (.cons a1 (.cons a2 (.cons a3 .nil))))).mono fun e W' ⟨he, hg⟩ => ?_
  subst he
  exact ⟨_, rfl, law_post lawLaid (fun t ht => parsOf (show (Try.f3.params.toList.all fun t => Try.prog.readableRec t && decide (t < Try.prog.types.size)) = true by kernel_rfl) t ht) rfl lawBool rfl hW' rfl hg⟩
theorem packetTells_proved : Rows.PacketTellsSaid :=
  OpenClaim.holds_of_wide 3 Try.f3 rfl rfl rfl rfl rfl rfl rfl ⟨rfl, rfl, rfl, rfl, rfl⟩ rfl rfl rfl rfl rfl (by kernel_rfl) Try.func3 (by kernel_rfl)
    (of_decide_eq_true (by kernel_rfl)) (by unfold Func.isWrapper; first | (rw [if_pos (by decide +kernel)]; kernel_rfl) | (rw [if_neg (by decide +kernel)]; exact ⟨rfl, rfl⟩))
    (fun os started H enc _ => packetTells_lifted os started H enc)
end Go.Proofs.Ytkibfciheifphaa
