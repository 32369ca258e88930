/- RestLogs: orders, maps, chains and servers that came, and were changed, change nothing that was handed in, nor what comes next; no condition. -/
import Derived.Test.YtkcahmbcpkjpiaaGreatDoorRows
import Derived.Test.YtkcahmbcpkjpiaaGreatDoorCards
import Derived.Test.YtkcahmbcpkjpiaaGreatDoorTie
import Derived.Test.YtkcahmbcpkjpiaaGreatDoorKJ
set_option linter.unusedSimpArgs false
set_option linter.unusedVariables false
set_option linter.unusedSectionVars false
namespace Go.Proofs.YtkcahmbcpkjpiaaGreatDoor
open Go.RowKit Go.ChangeShapes Go.WideShapes Go.ChangeAt
set_option maxRecDepth 100000 in
theorem restLogs_lifted (os : Os) (started : os.Started) (H : Type) (enc : TypeId × Value → H) :
    ReturnsInHanded {} Tryz.checked os 4 .any (fun w args => (Rows.restLogsSpec.pre enc Tryz.prog Tryz.f4 Rows.restLogsRow.domain false w args ∧ laidMetH Tryz.prog Rows.restLogsRow.laid w) ∧ sizedMet enc Tryz.prog Tryz.f4 (OpenSpec.ofChange Rows.restLogsSpec) false w args) (Rows.restLogsSpec.post enc Tryz.prog Tryz.f4 false true false false) := by
  refine returnsInHanded_of_change_and (C := Tryz.checked) (X := fun w _ => laidMetH Tryz.prog Rows.restLogsRow.laid w) (fun _ _ _ hh h => h.of_heap hh) zBp started (by kernel_rfl) Tryz.func4
    (ChangeSpec.witness_shaped (enc := enc) (C := Tryz.checked) (os := os) (X := fun w _ => laidMetH Tryz.prog Rows.restLogsRow.laid w) false (World.laidAll Tryz.prog os Rows.restLogsRow.laid) #[.slice none 0 0, .int .i64 0, .slice none 0 0, .agg #[.int .i64 0, .bool false, .int .i64 0, .slice none 0 0], .agg #[.int .i64 0, .slice none 0 0, .slice none 0 0]] 8 (World.laidAll_os _ _ _) (World.shaped_of_ZipB (by kernel_rfl) (by kernel_rfl)) (by kernel_rfl) (by kernel_rfl) (by kernel_rfl) (by rw [MakeChecks.laidMetH_plain _ _ _ (by kernel_rfl)]; exact laidMet_laidAll _ (by kernel_rfl) (by kernel_rfl))) ?_
  intro W base args ds gs before hval0 hW hcnd hwt0 _ _
  have hwt : ∀ k ∈ DataW.weightsEach Tryz.prog Tryz.f4.params.toList ds, k ≤ reachBytes := fun k hk => by
    have h1 := List.all_eq_true.1 hwt0 k
    obtain ⟨_, _, _, hV0, _⟩ := hW
    obtain ⟨rfl, rfl⟩ := trodVars_none hV0
    simp only [List.append_nil] at h1
    have h2 : k ∈ DataW.weightsEach Tryz.prog (Tryz.f4.params.toList ++ []) ds := by rw [List.append_nil]; exact hk
    simpa using h1 h2
  have hval : ∀ (j : Nat) t v, Tryz.f4.params[j]? = some t → args[j]? = some v → Value.okWide Tryz.prog W .any base t v := hval0
  have hW' := hW
  obtain ⟨p, q, hA0, hV, rfl, hfz, hnd⟩ := hW
  have hA : DataW.TrodAll enc Tryz.prog W 0 (fun _ => true) true Tryz.f4.params.toList args.toList ds p := hA0
  rw [Tryz.params4] at hA hval hwt
  obtain ⟨v0, vs0, d0, ds0, p0, q0, hargs, rfl, rfl, h0, r0⟩ := trodAll_cons hA
  obtain ⟨v1, vs1, d1, ds1, p1, q1, rfl, rfl, rfl, h1, r1⟩ := trodAll_cons r0
  obtain ⟨v2, vs2, d2, ds2, p2, q2, rfl, rfl, rfl, h2, r2⟩ := trodAll_cons r1
  obtain ⟨v3, vs3, d3, ds3, p3, q3, rfl, rfl, rfl, h3, r3⟩ := trodAll_cons r2
  obtain ⟨v4, vs4, d4, ds4, p4, q4, rfl, rfl, rfl, h4, r4⟩ := trodAll_cons r3
  obtain ⟨rfl, rfl, rfl⟩ := trodAll_nil r4
  obtain rfl : args = #[v0, v1, v2, v3, v4] := by cases args; simp_all
  obtain ⟨rfl, rfl⟩ := trodVars_none hV
  have w0 := fun k hk => hwt k (DataW.weights_mem_each (j := 0) rfl rfl k hk)
  have w1 := fun k hk => hwt k (DataW.weights_mem_each (j := 1) rfl rfl k hk)
  have w2 := fun k hk => hwt k (DataW.weights_mem_each (j := 2) rfl rfl k hk)
  have w3 := fun k hk => hwt k (DataW.weights_mem_each (j := 3) rfl rfl k hk)
  have w4 := fun k hk => hwt k (DataW.weights_mem_each (j := 4) rfl rfl k hk)
  have k0 := hval 0 _ v0 rfl rfl
  have k1 := hval 1 _ v1 rfl rfl
  have k2 := hval 2 _ v2 rfl rfl
  have k3 := hval 3 _ v3 rfl rfl
  have k4 := hval 4 _ v4 rfl rfl
  clear hA0 hval0 hval hcnd hargs hwt0
  obtain ⟨l, b1, b2, a0⟩ := zoe k0 h0 w0
  obtain ⟨c, -, a1⟩ := zBt k1 h1 w1
  obtain ⟨ids, b3, -, a2⟩ := zBx k2 h2 w2
  obtain ⟨ch, b4, a3⟩ := ztC k3 h3 w3
  obtain ⟨s, ⟨⟨b5, b6⟩, -⟩, a4⟩ := ztB k4 h4 w4
  have b1' : l.length * 64 ≤ 140737488355328 := by simp only [reachBytes] at b1; omega
  have b2' : ∀ e ∈ l, e.ls.length * 16 ≤ 140737488355328 := fun e he => by have := (b2 e he).2.2.2.1; simp only [reachBytes] at this; omega
  have b3' : ids.length * 16 ≤ 140737488355328 := by simp only [reachBytes] at b3; omega
  refine (ztA (zi6 l c ids ch (s.c, s.ws, s.ds) b1' b2' b3' b4 b5 b6) (.cons a0 (.cons a1 (.cons a2 (.cons a3 (.cons a4 .nil)))))).mono fun e W' ⟨he, hg⟩ => ?_
  subst he
  exact ⟨_, rfl, zvA zzf (fun t ht => zBo (show (Tryz.f4.params.toList.all fun t => Tryz.prog.readableRec t && decide (t < Tryz.prog.types.size)) = true by kernel_rfl) t ht) rfl ztw rfl hW' rfl hg⟩
theorem restLogs_holds : Rows.RestLogsSaid :=
 OpenClaim.holds_of_wide 4 Tryz.f4 rfl rfl rfl rfl rfl rfl rfl ⟨rfl, rfl, rfl, rfl, rfl⟩ rfl rfl rfl rfl rfl (by kernel_rfl) Tryz.func4 (by kernel_rfl)
  (of_decide_eq_true (by kernel_rfl)) (by unfold Func.isWrapper; first | (rw [if_pos (by decide +kernel)]; kernel_rfl) | (rw [if_neg (by decide +kernel)]; exact ⟨rfl, rfl⟩))
  (fun os started H enc _ => restLogs_lifted os started H enc)
theorem restLogs_proved : Rows.RestLogsCardSaid :=
 Claim7.holds_tied_plain_at .later [] [.data, .pinned] true (true, "7eaa7e7463c3e43a2700055435ee551a32b7e5e3f3b2f264eda3d7593e86e3ca") true restLogs_holds (fun _ h => by cases h) (by kernel_rfl) (fun _ h => by cases h) restLogs_row_tie rfl ⟨rfl, rfl⟩ (by kernel_rfl) rfl
  (fun f fn hf hfn => by
   obtain rfl : f = 4 := Option.some.inj ((show Tryz.prog.funcNamed "cutwater/cutwaterlaw.RestLogs" = some 4 by kernel_rfl).symm.trans hf) |>.symm
   obtain rfl : fn = Tryz.f4 := (Option.some.inj (Tryz.func4.symm.trans hfn)).symm
   exact ⟨by kernel_rfl, fun j t ht => by
    have hm : t ∈ Tryz.f4.params.toList := Array.mem_toList_iff.2 (Array.mem_of_getElem? ht)
    have hall : (Tryz.f4.params.toList.all fun u => !Tryz.prog.wantsStandIn u) = true := by kernel_rfl
    exact (show Tryz.prog.wantsStandIn t = false by simpa using List.all_eq_true.1 hall t hm)⟩)
  (by kernel_rfl)
end Go.Proofs.YtkcahmbcpkjpiaaGreatDoor
