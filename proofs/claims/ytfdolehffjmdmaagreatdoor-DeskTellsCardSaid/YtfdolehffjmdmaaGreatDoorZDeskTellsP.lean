/- DeskTells: Run, Text and Same answer just what the document says, errors too, whatever they are handed. -/
import Derived.Test.YtfdolehffjmdmaaGreatDoorRows
import Derived.Test.YtfdolehffjmdmaaGreatDoorCards
import Derived.Test.YtfdolehffjmdmaaGreatDoorTie
import Derived.Test.YtfdolehffjmdmaaGreatDoorKH
set_option linter.unusedSimpArgs false
set_option linter.unusedVariables false
set_option linter.unusedSectionVars false
namespace Go.Proofs.YtfdolehffjmdmaaGreatDoor
open Go.RowKit Go.ChangeShapes Go.WideShapes Go.ChangeAt
set_option maxRecDepth 100000 in
theorem deskTells_lifted (os : Os) (started : os.Started) (H : Type) (enc : TypeId × Value → H) :
    ReturnsInHanded {} Tryz.checked os 6 .any (fun w args => (Rows.deskTellsSpec.pre enc Tryz.prog Tryz.f6 Rows.deskTellsRow.domain false w args ∧ laidMetH Tryz.prog Rows.deskTellsRow.laid w) ∧ sizedMet enc Tryz.prog Tryz.f6 (OpenSpec.ofChange Rows.deskTellsSpec) false w args) (Rows.deskTellsSpec.post enc Tryz.prog Tryz.f6 false true false false) := by
  refine returnsInHanded_of_change_and (C := Tryz.checked) (X := fun w _ => laidMetH Tryz.prog Rows.deskTellsRow.laid w) (fun _ _ _ hh h => h.of_heap hh) lawOwn started (by kernel_rfl) Tryz.func6
    (ChangeSpec.witness_shaped (enc := enc) (C := Tryz.checked) (os := os) (X := fun w _ => laidMetH Tryz.prog Rows.deskTellsRow.laid w) false (World.laidAll Tryz.prog os Rows.deskTellsRow.laid) #[.slice none 0 0, .slice none 0 0, .int .i64 0, .agg #[.slice none 0 0, .slice none 0 0]] 8 (World.laidAll_os _ _ _) (World.shaped_of_ZipB (by kernel_rfl) (by kernel_rfl)) (by kernel_rfl) (by kernel_rfl) (by kernel_rfl) (by rw [MakeChecks.laidMetH_plain _ _ _ (by kernel_rfl)]; exact laidMet_laidAll _ (by kernel_rfl) (by kernel_rfl))) ?_
  intro W base args ds gs before hval0 hW hcnd hwt0 _ _
  have hwt : ∀ k ∈ DataW.weightsEach Tryz.prog Tryz.f6.params.toList ds, k ≤ reachBytes := fun k hk => by
    have h1 := List.all_eq_true.1 hwt0 k
    obtain ⟨_, _, _, hV0, _⟩ := hW
    obtain ⟨rfl, rfl⟩ := trodVars_none hV0
    simp only [List.append_nil] at h1
    have h2 : k ∈ DataW.weightsEach Tryz.prog (Tryz.f6.params.toList ++ []) ds := by rw [List.append_nil]; exact hk
    simpa using h1 h2
  have hval : ∀ (j : Nat) t v, Tryz.f6.params[j]? = some t → args[j]? = some v → Value.okWide Tryz.prog W .any base t v := hval0
  have hW' := hW
  obtain ⟨p, q, hA0, hV, rfl, hfz, hnd⟩ := hW
  have hA : DataW.TrodAll enc Tryz.prog W 0 (fun _ => true) true Tryz.f6.params.toList args.toList ds p := hA0
  rw [Tryz.params6] at hA hval hwt
  obtain ⟨v0, vs0, d0, ds0, p0, q0, hargs, rfl, rfl, h0, r0⟩ := trodAll_cons hA
  obtain ⟨v1, vs1, d1, ds1, p1, q1, rfl, rfl, rfl, h1, r1⟩ := trodAll_cons r0
  obtain ⟨v2, vs2, d2, ds2, p2, q2, rfl, rfl, rfl, h2, r2⟩ := trodAll_cons r1
  obtain ⟨v3, vs3, d3, ds3, p3, q3, rfl, rfl, rfl, h3, r3⟩ := trodAll_cons r2
  obtain ⟨rfl, rfl, rfl⟩ := trodAll_nil r3
  obtain rfl : args = #[v0, v1, v2, v3] := by cases args; simp_all
  obtain ⟨rfl, rfl⟩ := trodVars_none hV
  have w0 := fun k hk => hwt k (DataW.weights_mem_each (j := 0) rfl rfl k hk)
  have w1 := fun k hk => hwt k (DataW.weights_mem_each (j := 1) rfl rfl k hk)
  have w2 := fun k hk => hwt k (DataW.weights_mem_each (j := 2) rfl rfl k hk)
  have w3 := fun k hk => hwt k (DataW.weights_mem_each (j := 3) rfl rfl k hk)
  have k0 := hval 0 _ v0 rfl rfl
  have k1 := hval 1 _ v1 rfl rfl
  have k2 := hval 2 _ v2 rfl rfl
  have k3 := hval 3 _ v3 rfl rfl
  clear hA0 hval0 hval hcnd hargs hwt0
  obtain ⟨l, wl, a0⟩ := argActs k0 h0 w0
  obtain ⟨lg, wg, -, a1⟩ := argEntries k1 h1 w1
  obtain ⟨c, -, a2⟩ := argInt k2 h2 w2
  obtain ⟨ss, ys, ⟨b1, b2, b3, b4⟩, a3⟩ := argWorld k3 h3 w3
  have hr : reachBytes ≤ 9223372036854775806 := by decide
  refine (law_calls (deskTells_meets l lg c ss ys (by omega) (by omega) b1 b2 b3 b4) (.cons a0 (.cons a1 (.cons a2 (.cons a3 .nil))))).mono fun e W' ⟨he, hg⟩ => ?_
  subst he
  exact ⟨_, rfl, law_post lawLaid (fun t ht => parsOf (show (Tryz.f6.params.toList.all fun t => Tryz.prog.readableRec t && decide (t < Tryz.prog.types.size)) = true by kernel_rfl) t ht) rfl lawBool rfl hW' rfl hg⟩
theorem deskTells_holds : Rows.DeskTellsSaid :=
 OpenClaim.holds_of_wide 6 Tryz.f6 rfl rfl rfl rfl rfl rfl rfl ⟨rfl, rfl, rfl, rfl, rfl⟩ rfl rfl rfl rfl rfl (by kernel_rfl) Tryz.func6 (by kernel_rfl)
  (of_decide_eq_true (by kernel_rfl)) (by unfold Func.isWrapper; first | (rw [if_pos (by decide +kernel)]; kernel_rfl) | (rw [if_neg (by decide +kernel)]; exact ⟨rfl, rfl⟩))
  (fun os started H enc _ => deskTells_lifted os started H enc)
theorem deskTells_proved : Rows.DeskTellsCardSaid :=
 Claim7.holds_tied_plain_at .later [] [.data, .pinned] true (true, "22dd9fd24df04a105f34521d4680b87140700e5aceaee3f5e6594d9092d80d85") false deskTells_holds (fun _ h => by cases h) (by kernel_rfl) (fun _ h => by cases h) deskTells_row_tie rfl ⟨rfl, rfl⟩ (by kernel_rfl) rfl
  (fun f fn hf hfn => by
   obtain rfl : f = 6 := Option.some.inj ((show Tryz.prog.funcNamed "cutwater/cutwaterlaw.DeskTells" = some 6 by kernel_rfl).symm.trans hf) |>.symm
   obtain rfl : fn = Tryz.f6 := (Option.some.inj (Tryz.func6.symm.trans hfn)).symm
   exact ⟨by kernel_rfl, fun j t ht => by
    have hm : t ∈ Tryz.f6.params.toList := Array.mem_toList_iff.2 (Array.mem_of_getElem? ht)
    have hall : (Tryz.f6.params.toList.all fun u => !Tryz.prog.wantsStandIn u) = true := by kernel_rfl
    exact (show Tryz.prog.wantsStandIn t = false by simpa using List.all_eq_true.1 hall t hm)⟩)
  (by kernel_rfl)
end Go.Proofs.YtfdolehffjmdmaaGreatDoor
