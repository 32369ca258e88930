/- DeskRuns: a script is its acts, one by one; one that has an error changes nothing. -/
import Derived.Test.YtfdolehffjmdmaaGreatDoorRows
import Derived.Test.YtfdolehffjmdmaaGreatDoorCards
import Derived.Test.YtfdolehffjmdmaaGreatDoorTie
import Derived.Test.YtfdolehffjmdmaaGreatDoorKF
import Derived.Test.YtfdolehffjmdmaaGreatDoorKG
set_option linter.unusedSimpArgs false
set_option linter.unusedVariables false
set_option linter.unusedSectionVars false
namespace Go.Proofs.YtfdolehffjmdmaaGreatDoor
open Go.RowKit Go.ChangeShapes Go.WideShapes Go.ChangeAt
set_option maxRecDepth 100000 in
theorem deskRuns_lifted (os : Os) (started : os.Started) (H : Type) (enc : TypeId × Value → H) :
    ReturnsInHanded {} Tryz.checked os 8 .any (fun w args => (Rows.deskRunsSpec.pre enc Tryz.prog Tryz.f8 Rows.deskRunsRow.domain false w args ∧ laidMetH Tryz.prog Rows.deskRunsRow.laid w) ∧ sizedMet enc Tryz.prog Tryz.f8 (OpenSpec.ofChange Rows.deskRunsSpec) false w args) (Rows.deskRunsSpec.post enc Tryz.prog Tryz.f8 false true false false) := by
  refine returnsInHanded_of_change_and (C := Tryz.checked) (X := fun w _ => laidMetH Tryz.prog Rows.deskRunsRow.laid w) (fun _ _ _ hh h => h.of_heap hh) lawOwn started (by kernel_rfl) Tryz.func8
    (ChangeSpec.witness_shaped (enc := enc) (C := Tryz.checked) (os := os) (X := fun w _ => laidMetH Tryz.prog Rows.deskRunsRow.laid w) false (World.laidAll Tryz.prog os Rows.deskRunsRow.laid) #[.slice none 0 0] 8 (World.laidAll_os _ _ _) (World.shaped_of_ZipB (by kernel_rfl) (by kernel_rfl)) (by kernel_rfl) (by kernel_rfl) (by kernel_rfl) (by rw [MakeChecks.laidMetH_plain _ _ _ (by kernel_rfl)]; exact laidMet_laidAll _ (by kernel_rfl) (by kernel_rfl))) ?_
  intro W base args ds gs before hval0 hW hcnd hwt0 _ _
  have hwt : ∀ k ∈ DataW.weightsEach Tryz.prog Tryz.f8.params.toList ds, k ≤ reachBytes := fun k hk => by
    have h1 := List.all_eq_true.1 hwt0 k
    obtain ⟨_, _, _, hV0, _⟩ := hW
    obtain ⟨rfl, rfl⟩ := trodVars_none hV0
    simp only [List.append_nil] at h1
    have h2 : k ∈ DataW.weightsEach Tryz.prog (Tryz.f8.params.toList ++ []) ds := by rw [List.append_nil]; exact hk
    simpa using h1 h2
  have hval : ∀ (j : Nat) t v, Tryz.f8.params[j]? = some t → args[j]? = some v → Value.okWide Tryz.prog W .any base t v := hval0
  have hW' := hW
  obtain ⟨p, q, hA0, hV, rfl, hfz, hnd⟩ := hW
  have hA : DataW.TrodAll enc Tryz.prog W 0 (fun _ => true) true Tryz.f8.params.toList args.toList ds p := hA0
  rw [Tryz.params8] at hA hval hwt
  obtain ⟨v0, vs0, d0, ds0, p0, q0, hargs, rfl, rfl, h0, r0⟩ := trodAll_cons hA
  obtain ⟨rfl, rfl, rfl⟩ := trodAll_nil r0
  obtain rfl : args = #[v0] := by cases args; simp_all
  obtain ⟨rfl, rfl⟩ := trodVars_none hV
  have w0 := fun k hk => hwt k (DataW.weights_mem_each (j := 0) rfl rfl k hk)
  have k0 := hval 0 _ v0 rfl rfl
  clear hA0 hval0 hval hcnd hargs hwt0
  obtain ⟨l, wl, a0⟩ := argActs k0 h0 w0
  have hr : reachBytes ≤ 9223372036854775806 := by decide
  refine (law_calls (deskRuns_meets l (by omega)) (.cons a0 .nil)).mono fun e W' ⟨he, hg⟩ => ?_
  subst he
  exact ⟨_, rfl, law_post lawLaid (fun t ht => parsOf (show (Tryz.f8.params.toList.all fun t => Tryz.prog.readableRec t && decide (t < Tryz.prog.types.size)) = true by kernel_rfl) t ht) rfl lawBool rfl hW' rfl hg⟩
theorem deskRuns_holds : Rows.DeskRunsSaid :=
 OpenClaim.holds_of_wide 8 Tryz.f8 rfl rfl rfl rfl rfl rfl rfl ⟨rfl, rfl, rfl, rfl, rfl⟩ rfl rfl rfl rfl rfl (by kernel_rfl) Tryz.func8 (by kernel_rfl)
  (of_decide_eq_true (by kernel_rfl)) (by unfold Func.isWrapper; first | (rw [if_pos (by decide +kernel)]; kernel_rfl) | (rw [if_neg (by decide +kernel)]; exact ⟨rfl, rfl⟩))
  (fun os started H enc _ => deskRuns_lifted os started H enc)
theorem deskRuns_proved : Rows.DeskRunsCardSaid :=
 Claim7.holds_tied_plain_at .later [] [.data, .pinned] true (true, "22dd9fd24df04a105f34521d4680b87140700e5aceaee3f5e6594d9092d80d85") false deskRuns_holds (fun _ h => by cases h) (by kernel_rfl) (fun _ h => by cases h) deskRuns_row_tie rfl ⟨rfl, rfl⟩ (by kernel_rfl) rfl
  (fun f fn hf hfn => by
   obtain rfl : f = 8 := Option.some.inj ((show Tryz.prog.funcNamed "cutwater/cutwaterlaw.DeskRuns" = some 8 by kernel_rfl).symm.trans hf) |>.symm
   obtain rfl : fn = Tryz.f8 := (Option.some.inj (Tryz.func8.symm.trans hfn)).symm
   exact ⟨by kernel_rfl, fun j t ht => by
    have hm : t ∈ Tryz.f8.params.toList := Array.mem_toList_iff.2 (Array.mem_of_getElem? ht)
    have hall : (Tryz.f8.params.toList.all fun u => !Tryz.prog.wantsStandIn u) = true := by kernel_rfl
    exact (show Tryz.prog.wantsStandIn t = false by simpa using List.all_eq_true.1 hall t hm)⟩)
  (by kernel_rfl)
end Go.Proofs.YtfdolehffjmdmaaGreatDoor
