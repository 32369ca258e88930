/- ChainKeeps: what was written is read as it was for good, till it is cut off; a write changes no other place; no condition. -/
import Derived.Test.YthhkafjkhogbmaaRows
import Derived.Test.YthhkafjkhogbmaaKD
set_option linter.unusedSimpArgs false
set_option linter.unusedVariables false
set_option linter.unusedSectionVars false
namespace Go.Proofs.Ythhkafjkhogbmaa
open Go.RowKit Go.ChangeShapes Go.WideShapes Go.ChangeAt

set_option maxRecDepth 100000 in
theorem chainKeeps_lifted (os : Os) (started : os.Started) (H : Type) (enc : TypeId × Value → H) :
    ReturnsInHanded {} Try.checked os 10 .any (Rows.chainKeepsSpec.pre6 enc Try.prog Try.f10 Rows.chainKeepsRow.domain false) (Rows.chainKeepsSpec.post enc Try.prog Try.f10 false true false false) := by
  refine returnsInHanded_of_change_sized (C := Try.checked) lawOwn started (by kernel_rfl) Try.func10
    (ChangeSpec.witness6 (enc := enc) (C := Try.checked) false ⟨#[], #[.agg #[.int .i64 0, .bool false, .int .i64 0, .slice none 0 0], .int .i64 0, .int .i64 0, .int .i64 0, .int .i64 0, .string ⟨#[]⟩, .string ⟨#[]⟩], []⟩ 8 (by kernel_rfl) (by kernel_rfl) (by kernel_rfl) (by kernel_rfl)) ?_
  intro W base args ds gs before hval0 hW hcnd hwt0 _
  have hwt : ∀ k ∈ DataW.weightsEach Try.prog Try.f10.params.toList ds, k ≤ reachBytes := fun k hk => by
    have h1 := List.all_eq_true.1 hwt0 k
    obtain ⟨_, _, _, hV0, _⟩ := hW
    obtain ⟨rfl, rfl⟩ := trodVars_none hV0
    simp only [List.append_nil] at h1
    have h2 : k ∈ DataW.weightsEach Try.prog (Try.f10.params.toList ++ []) ds := by rw [List.append_nil]; exact hk
    simpa using h1 h2
  have hval : ∀ (j : Nat) t v, Try.f10.params[j]? = some t → args[j]? = some v → Value.okWide Try.prog W .any base t v := hval0
  have hW' := hW
  obtain ⟨p, q, hA0, hV, rfl, hfz, hnd⟩ := hW
  have hA : DataW.TrodAll enc Try.prog W 0 (fun _ => true) true Try.f10.params.toList args.toList ds p := hA0
  rw [Try.params10] at hA hval hwt
  obtain ⟨v0, vs0, d0, ds0, p0, q0, hargs, rfl, rfl, h0, r0⟩ := trodAll_cons hA
  obtain ⟨v1, vs1, d1, ds1, p1, q1, rfl, rfl, rfl, h1, r1⟩ := trodAll_cons r0
  obtain ⟨v2, vs2, d2, ds2, p2, q2, rfl, rfl, rfl, h2, r2⟩ := trodAll_cons r1
  obtain ⟨v3, vs3, d3, ds3, p3, q3, rfl, rfl, rfl, h3, r3⟩ := trodAll_cons r2
  obtain ⟨v4, vs4, d4, ds4, p4, q4, rfl, rfl, rfl, h4, r4⟩ := trodAll_cons r3
  obtain ⟨v5, vs5, d5, ds5, p5, q5, rfl, rfl, rfl, h5, r5⟩ := trodAll_cons r4
  obtain ⟨v6, vs6, d6, ds6, p6, q6, rfl, rfl, rfl, h6, r6⟩ := trodAll_cons r5
  obtain ⟨rfl, rfl, rfl⟩ := trodAll_nil r6
  obtain rfl : args = #[v0, v1, v2, v3, v4, v5, v6] := by cases args; simp_all
  obtain ⟨rfl, rfl⟩ := trodVars_none hV
  have w0 := fun k hk => hwt k (DataW.weights_mem_each (j := 0) rfl rfl k hk)
  have w1 := fun k hk => hwt k (DataW.weights_mem_each (j := 1) rfl rfl k hk)
  have w2 := fun k hk => hwt k (DataW.weights_mem_each (j := 2) rfl rfl k hk)
  have w3 := fun k hk => hwt k (DataW.weights_mem_each (j := 3) rfl rfl k hk)
  have w4 := fun k hk => hwt k (DataW.weights_mem_each (j := 4) rfl rfl k hk)
  have w5 := fun k hk => hwt k (DataW.weights_mem_each (j := 5) rfl rfl k hk)
  have w6 := fun k hk => hwt k (DataW.weights_mem_each (j := 6) rfl rfl k hk)
  have k0 := hval 0 _ v0 rfl rfl
  have k1 := hval 1 _ v1 rfl rfl
  have k2 := hval 2 _ v2 rfl rfl
  have k3 := hval 3 _ v3 rfl rfl
  have k4 := hval 4 _ v4 rfl rfl
  have k5 := hval 5 _ v5 rfl rfl
  have k6 := hval 6 _ v6 rfl rfl
  clear hA0 hval0 hval hcnd hargs hwt0
  obtain ⟨c, wc, -, -, a0⟩ := argChain k0 h0 w0
  obtain ⟨ep, -, a1⟩ := argInt k1 h1 w1
  obtain ⟨a, -, a2⟩ := argInt k2 h2 w2
  obtain ⟨b, -, a3⟩ := argInt k3 h3 w3
  obtain ⟨u, -, a4⟩ := argInt k4 h4 w4
  obtain ⟨s, -, a5⟩ := argStr k5 h5 w5
  obtain ⟨s2, -, a6⟩ := argStr k6 h6 w6
  refine (law_calls (chainKeeps_meets c ep a b u s s2 wc) (.cons a0 (.cons a1 (.cons a2 (.cons a3 (.cons a4 (.cons a5 (.cons a6 .nil)))))))).mono fun e W' ⟨he, hg⟩ => ?_
  subst he
  exact ⟨_, rfl, law_post lawLaid (fun t ht => parsOf (show (Try.f10.params.toList.all fun t => Try.prog.readableRec t && decide (t < Try.prog.types.size)) = true by kernel_rfl) t ht) rfl lawBool rfl hW' rfl hg⟩
theorem chainKeeps_proved : Rows.ChainKeepsSaid :=
  OpenClaim.holds_of_wide 10 Try.f10 rfl rfl rfl rfl rfl rfl rfl ⟨rfl, rfl, rfl, rfl, rfl⟩ rfl rfl rfl rfl rfl (by kernel_rfl) Try.func10 (by kernel_rfl)
    (of_decide_eq_true (by kernel_rfl)) (by unfold Func.isWrapper; first | (rw [if_pos (by decide +kernel)]; kernel_rfl) | (rw [if_neg (by decide +kernel)]; exact ⟨rfl, rfl⟩))
    (fun os started H enc _ => chainKeeps_lifted os started H enc)

end Go.Proofs.Ythhkafjkhogbmaa
