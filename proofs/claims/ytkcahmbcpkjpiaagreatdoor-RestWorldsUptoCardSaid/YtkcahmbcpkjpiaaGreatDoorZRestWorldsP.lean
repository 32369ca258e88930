/- RestWorlds: worlds, sites and entries that came, and were changed, change nothing that was handed in, nor what comes next; where what is handed in is of bulk at most 1048576. -/
import Derived.Test.YtkcahmbcpkjpiaaGreatDoorRows
import Derived.Test.YtkcahmbcpkjpiaaGreatDoorCards
import Derived.Test.YtkcahmbcpkjpiaaGreatDoorTie
import Derived.Test.YtkcahmbcpkjpiaaGreatDoorKI
set_option linter.unusedSimpArgs false
set_option linter.unusedVariables false
set_option linter.unusedSectionVars false
namespace Go.Proofs.YtkcahmbcpkjpiaaGreatDoor
open Go.RowKit Go.ChangeShapes Go.WideShapes Go.ChangeAt
set_option maxRecDepth 100000 in
theorem restWorlds_lifted (os : Os) (started : os.Started) (H : Type) (enc : TypeId × Value → H) (F0 : Stop.Interp) :
    ReturnsInHanded {} Tryz.checked os 3 .any (fun w args => ((Rows.OpenSpec.upto Rows.restWorldsSpec).pre enc Tryz.prog Tryz.f3 Rows.restWorldsUptoRow.domain false w args ∧ laidMetH Tryz.prog Rows.restWorldsUptoRow.laid w) ∧ sizedMet enc Tryz.prog Tryz.f3 (Rows.OpenSpec.upto Rows.restWorldsSpec) false w args) (((Rows.OpenSpec.upto Rows.restWorldsSpec).at F0).post enc Tryz.prog Tryz.f3 false true false false) := by
  refine zfB (C := Tryz.checked) (s := (Rows.OpenSpec.upto Rows.restWorldsSpec)) (k := Rows.uptoSmall) rfl (X := fun w _ => laidMetH Tryz.prog Rows.restWorldsUptoRow.laid w) (fun _ _ _ hh h => h.of_heap hh) zw4 started (by kernel_rfl) Tryz.func3
    (zj8 (enc := enc) (C := Tryz.checked) (os := os) (s := (Rows.OpenSpec.upto Rows.restWorldsSpec)) (k := Rows.uptoSmall) rfl (X := fun w _ => laidMetH Tryz.prog Rows.restWorldsUptoRow.laid w) (World.laidAll Tryz.prog os Rows.restWorldsUptoRow.laid) #[.agg #[.slice none 0 0, .slice none 0 0], .agg #[.int .i64 0, .int .i64 0, .int .i64 0, .int .i64 0, .string ⟨#[]⟩], .agg #[.int .i64 0, .int .i64 0, .int .i64 0, .string ⟨#[]⟩, .slice none 0 0]] 8 (World.laidAll_os _ _ _) (World.shaped_of_ZipB (by kernel_rfl) (by kernel_rfl)) (by kernel_rfl) (x := ([.agg [.nil, .nil], .agg [.lit (.int .i64 0), .lit (.int .i64 0), .lit (.int .i64 0), .lit (.int .i64 0), .lit (.string [])], .agg [.agg [.lit (.int .i64 0), .lit (.int .i64 0)], .lit (.int .i64 0), .lit (.string []), .nil]], [], [])) (by kernel_rfl) (by kernel_rfl) (by kernel_rfl) (by kernel_rfl) (by rw [MakeChecks.laidMetH_plain _ _ _ (by kernel_rfl)]; exact laidMet_laidAll _ (by kernel_rfl) (by kernel_rfl))) ?_
  intro W base args ds gs before hval0 hW hcnd hwt0 _ hbulk _
  have hwt : ∀ k ∈ DataW.weightsEach Tryz.prog Tryz.f3.params.toList ds, k ≤ reachBytes := fun k hk => by
    have h1 := List.all_eq_true.1 hwt0 k
    obtain ⟨_, _, _, hV0, _⟩ := hW
    obtain ⟨rfl, rfl⟩ := trodVars_none hV0
    simp only [List.append_nil] at h1
    have h2 : k ∈ DataW.weightsEach Tryz.prog (Tryz.f3.params.toList ++ []) ds := by rw [List.append_nil]; exact hk
    simpa using h1 h2
  have hval : ∀ (j : Nat) t v, Tryz.f3.params[j]? = some t → args[j]? = some v → Value.okWide Tryz.prog W .any base t v := hval0
  have hW' := hW
  obtain ⟨p, q, hA0, hV, rfl, hfz, hnd⟩ := hW
  have hA : DataW.TrodAll enc Tryz.prog W 0 (fun _ => true) true Tryz.f3.params.toList args.toList ds p := hA0
  rw [Tryz.params3] at hA hval hwt
  obtain ⟨v0, vs0, d0, ds0, p0, q0, hargs, rfl, rfl, h0, r0⟩ := trodAll_cons hA
  obtain ⟨v1, vs1, d1, ds1, p1, q1, rfl, rfl, rfl, h1, r1⟩ := trodAll_cons r0
  obtain ⟨v2, vs2, d2, ds2, p2, q2, rfl, rfl, rfl, h2, r2⟩ := trodAll_cons r1
  obtain ⟨rfl, rfl, rfl⟩ := trodAll_nil r2
  obtain rfl : args = #[v0, v1, v2] := by cases args; simp_all
  obtain ⟨rfl, rfl⟩ := trodVars_none hV
  have w0 := fun k hk => hwt k (DataW.weights_mem_each (j := 0) rfl rfl k hk)
  have w1 := fun k hk => hwt k (DataW.weights_mem_each (j := 1) rfl rfl k hk)
  have w2 := fun k hk => hwt k (DataW.weights_mem_each (j := 2) rfl rfl k hk)
  have k0 := hval 0 _ v0 rfl rfl
  have k1 := hval 1 _ v1 rfl rfl
  have k2 := hval 2 _ v2 rfl rfl
  clear hA0 hval0 hval hcnd hargs hwt0
  obtain ⟨ss, ys, ⟨b1, b2, b3, b4⟩, a0⟩ := zpL k0 h0 w0
  obtain ⟨k, i, n, c, t, a1⟩ := zw6 k1 h1 w1
  obtain ⟨e, we, a2⟩ := zrm k2 h2 w2
  have hss : ss.length ≤ 1048576 := by
    have hb := of_decide_eq_true hbulk
    simp only [List.append_nil, Rows.uptoBulkAll] at hb
    omega
  have hfit : ∀ l : List Entry, zm2 l → zxH l := fun l h => ⟨by have := h.1; simp only [reachBytes] at this; omega, fun e he => by have := h.2 e he; simp only [reachBytes] at this; omega⟩
  have b2' : ys.length * 24 ≤ 140737488355328 := by simp only [reachBytes] at b2; omega
  have we' : e.ls.length * 16 ≤ 140737488355328 := by have := we.2.2.2.1; simp only [reachBytes] at this; omega
  refine (zpH (zfA ss ys k i n c t e hss b2' (fun s hs => ⟨hfit _ (b1 s hs).1, hfit _ (b1 s hs).2⟩) (fun y hy => hfit _ (b3 y hy)) we') (.cons a0 (.cons a1 (.cons a2 .nil)))).mono fun e W' ⟨he, hg⟩ => ?_
  subst he
  exact ⟨_, rfl, zrk ztp (fun t ht => zw3 (show (Tryz.f3.params.toList.all fun t => Tryz.prog.readableRec t && decide (t < Tryz.prog.types.size)) = true by kernel_rfl) t ht) rfl ztq rfl hW' rfl hg⟩
theorem restWorlds_holds : Rows.RestWorldsUptoSaid :=
 OpenClaim.holds_of_cond 3 Tryz.f3 rfl rfl rfl rfl rfl rfl rfl ⟨rfl, rfl, rfl, rfl, rfl⟩ rfl rfl rfl rfl rfl (by kernel_rfl) Tryz.func3 (by kernel_rfl)
  (of_decide_eq_true (by kernel_rfl)) (by unfold Func.isWrapper; first | (rw [if_pos (by decide +kernel)]; kernel_rfl) | (rw [if_neg (by decide +kernel)]; exact ⟨rfl, rfl⟩))
  (fun os started H enc _ F0 => restWorlds_lifted os started H enc F0)
theorem restWorlds_proved : Rows.RestWorldsUptoCardSaid :=
 Claim7.holds_tied_plain_at .later [] [.data, .pinned] true (true, "7eaa7e7463c3e43a2700055435ee551a32b7e5e3f3b2f264eda3d7593e86e3ca") true restWorlds_holds (fun _ h => by cases h) (by kernel_rfl) (fun _ h => by cases h) restWorldsUpto_row_tie rfl ⟨rfl, rfl⟩ (by kernel_rfl) rfl
  (fun f fn hf hfn => by
   obtain rfl : f = 3 := Option.some.inj ((show Tryz.prog.funcNamed "cutwater/cutwaterlaw.RestWorlds" = some 3 by kernel_rfl).symm.trans hf) |>.symm
   obtain rfl : fn = Tryz.f3 := (Option.some.inj (Tryz.func3.symm.trans hfn)).symm
   exact ⟨by kernel_rfl, fun j t ht => by
    have hm : t ∈ Tryz.f3.params.toList := Array.mem_toList_iff.2 (Array.mem_of_getElem? ht)
    have hall : (Tryz.f3.params.toList.all fun u => !Tryz.prog.wantsStandIn u) = true := by kernel_rfl
    exact (show Tryz.prog.wantsStandIn t = false by simpa using List.all_eq_true.1 hall t hm)⟩)
  (by kernel_rfl)
end Go.Proofs.YtkcahmbcpkjpiaaGreatDoor
