/- Joined texts of this claim: Q1 Q2 Q3 Lc E1 E2 E3 E4 E5 E6 E7 E8 EntryW RefA Eq RefE BytesW PutW EncW ReadW. -/
import Derived.Test.YtkibfciheifphaaKB
import Derived.RangeFuncLeaves
import Derived.RangeFuncRecord
import Derived.TacticsIn
import Derived.Test.YtkibfciheifphaaProg
import Derived.KernelRfl
import Derived.IntWalk
import Derived.Lib.AppendStr
import Derived.WalkLawsBesides
import Derived.Deep.RegionWith
import Derived.Deep.RegionHeld3
import Derived.Deep.AppendLies
import Derived.Deep.RegionLaw
set_option linter.unusedSimpArgs false
set_option linter.unusedVariables false
set_option linter.unusedSectionVars false
/- Rounds of a range over a function: rules for walking lowered code in a round's frame. -/
namespace Go.Proofs.Ytkibfciheifphaa
open Go.RowKit
section
variable {P : Program} {x : Cx} {nt l n : Nat} {st : St}
theorem upon_in {o : Oper} {a : Act} {next next' : Act → World → Prop} {Q : Exit → Act → World → Prop} {r : Result Next} (hn : ∀ a w, next a w → next' a w) (h : o.upon P a next Q r) : o.uponIn (Fence.wide.inRound l) n P a next' Q r := by
  cases r with
  | ok nx w' =>
    cases nx with
    | value v => exact hn _ _ h
    | skip => exact hn _ _ h
    | defer d => exact hn _ _ h
    | enter f args =>
      refine ⟨(fun e => by cases e), ?_⟩
      have h2 : Calls P f args w' _ := h
      exact (callsIn_wide.2 h2 : CallsIn Fence.wide (n - 1) P f args w' _).mono fun e w'' hq => by
        cases e with
        | returned v => exact hn _ _ hq
        | panicked c => exact hq
        | outgrown => exact hq
    | row row args =>
      refine ⟨(fun e => by cases e), fun c cs _ => ?_⟩
      obtain ⟨v, w2, hv, hs⟩ := (h : Rows P row args w' _) c cs
      exact ⟨v, w2, hn _ _ hv, stepsIn_wide.2 hs⟩
    | _ => exact (h : False).elim
  | halt hh w' =>
    cases hh <;> first | exact h | exact (h : False).elim
theorem listIn_of {ops : Array Oper} {Q : Exit → Act → World → Prop} (hQ : ¬ LetsOut Q) : ∀ (os : List Oper), (∀ o ∈ os, ∀ c, o.op ≠ .defer c) → ∀ a w, wpList P ops Q os a w → wpListIn (Fence.wide.inRound l) n P ops Q os a w
  | [], _, a, w, h => h
  | o :: os, hd, a, w, h => by
    unfold wpList at h
    unfold wpListIn
    split at h
    · rename_i hw
      rw [if_pos hw]
      rcases h with h | h
      · refine ⟨fun f _ => trivial, ?_⟩
        rw [show (Fence.wide.inRound l).round = some l from rfl, Oper.semAt_some l a.eval o (hd o List.mem_cons_self)]
        exact upon_in (fun a w h => listIn_of hQ os (fun o ho => hd o (List.mem_cons_of_mem _ ho)) a w h) h
      · exact (hQ h.2).elim
    · rename_i hw
      rw [if_neg hw]
      exact ⟨fun f _ => trivial, listIn_of hQ os (fun o ho => hd o (List.mem_cons_of_mem _ ho)) _ w h⟩
theorem post_noOut {Q : AE → St → Prop} : ¬ LetsOut (postOf x nt Q) := fun ⟨_, _, h⟩ => h
theorem lowerList_nodefer {ops : Array Oper} : ∀ (os : List Oper) (l : List LOper), lowerList P nt ops os = some l → ∀ o ∈ os, ∀ c, o.op ≠ .defer c
  | [], _, _, o, ho, _ => by cases ho
  | o :: os, l, h, o', ho, c => by
    simp only [lowerList] at h
    split at h <;> try (cases h; done)
    rename_i lo r h1 h2
    rcases List.mem_cons.1 ho with rfl | ho
    · intro e
      unfold lowerOper at h1
      split at h1 <;> try (cases h1; done)
      rename_i lop hop
      rw [e] at hop
      simp [lowerOp] at hop
    · exact lowerList_nodefer os r h2 o' ho c
def WR (P : Program) (x : Cx) (nt l n : Nat) (lc : LC) (Q : AE → St → Prop) (st : St) : Prop :=
  ∀ c, lowerCode P nt c = some lc → ∀ a w, Rel x nt st a w → c.wpIn (Fence.wide.inRound l) n P (postOf x nt Q) a w
theorem WR.mono {lc : LC} {Q Q' : AE → St → Prop} (h : WR P x nt l n lc Q st) (hq : ∀ e st, Q e st → Q' e st) : WR P x nt l n lc Q' st :=
  fun c hc a w hrel => wpIn_mono (h c hc a w hrel) (postOf_mono hq)
theorem WR_skip {Q : AE → St → Prop} (h : Q .normal st) : WR P x nt l n .skip Q st := by
  intro c hc a w hrel
  cases c <;> simp only [lowerCode, reduceCtorEq] at hc
  case skip => exact wpIn_skip ⟨st, h, hrel⟩
  all_goals (repeat' (split at hc)) <;> first | (cases hc; done) | (unfold drawReg at hc; split at hc <;> cases hc; done) | (unfold drawRegS at hc; split at hc <;> cases hc; done) | (obtain ⟨_, e⟩ := map_some_ne hc; cases e; done)
theorem WR_ret {Q : AE → St → Prop} (h : Q .ret st) : WR P x nt l n .ret Q st := by
  intro c hc a w hrel
  cases c <;> simp only [lowerCode, reduceCtorEq] at hc
  case ret => exact wpIn_ret ⟨st, h, hrel⟩
  all_goals (repeat' (split at hc)) <;> first | (cases hc; done) | (unfold drawReg at hc; split at hc <;> cases hc; done) | (unfold drawRegS at hc; split at hc <;> cases hc; done) | (obtain ⟨_, e⟩ := map_some_ne hc; cases e; done)
theorem WR_seq {la lb : LC} {Q : AE → St → Prop} (h : WR P x nt l n la (thenQ (WR P x nt l n lb Q) Q) st) : WR P x nt l n (.seq la lb) Q st := by
  intro c hc a w hrel
  cases c <;> simp only [lowerCode, reduceCtorEq] at hc
  case seq c1 c2 =>
    split at hc <;> try (cases hc; done)
    rename_i h1 h2
    cases hc
    refine wpIn_seq (wpIn_mono (h c1 h1 a w hrel) fun e a' w' hq => ?_)
    cases e with
    | normal => obtain ⟨st', g1, g2⟩ := hq; exact g1 c2 h2 a' w' g2
    | exit id => exact hq
    | ret => exact hq
    | goto l => exact hq.elim
    | panic ch => exact hq.elim
    | outgrown => exact hq.elim
  all_goals (repeat' (split at hc)) <;> first | (cases hc; done) | (unfold drawReg at hc; split at hc <;> cases hc; done) | (unfold drawRegS at hc; split at hc <;> cases hc; done) | (obtain ⟨_, e⟩ := map_some_ne hc; cases e; done)
theorem WR_cond {lc : LOpd} {la lb : LC} {Q : AE → St → Prop} {b : Bool} (hb : lc.ev st = .bool b) (h1 : b = true → WR P x nt l n la Q st) (h2 : b = false → WR P x nt l n lb Q st) : WR P x nt l n (.cond lc la lb) Q st := by
  intro c hc a w hrel
  cases c <;> simp only [lowerCode, reduceCtorEq] at hc
  case cond c0 c1 c2 =>
    split at hc <;> try (cases hc; done)
    rename_i g0 g1 g2
    cases hc
    obtain ⟨⟨C, hr1, he⟩, hdf, hsz⟩ := hrel
    have := lopd_rep (st := st) he g0
    rw [hb] at this
    refine wpIn_cond this.bool_inv ?_
    cases b with
    | true => exact h1 rfl c1 g1 a w ⟨⟨C, hr1, he⟩, hdf, hsz⟩
    | false => exact h2 rfl c2 g2 a w ⟨⟨C, hr1, he⟩, hdf, hsz⟩
  all_goals (repeat' (split at hc)) <;> first | (cases hc; done) | (unfold drawReg at hc; split at hc <;> cases hc; done) | (unfold drawRegS at hc; split at hc <;> cases hc; done) | (obtain ⟨_, e⟩ := map_some_ne hc; cases e; done)
theorem WR_block {id : Nat} {lb : LC} {Q : AE → St → Prop} (h : WR P x nt l n lb (blockQ id Q) st) : WR P x nt l n (.block id lb) Q st := by
  intro c hc a w hrel
  cases c <;> simp only [lowerCode, reduceCtorEq] at hc
  case block i c1 =>
    obtain ⟨lc1, h1, e⟩ := Option.map_eq_some_iff.1 hc
    cases e
    refine wpIn_block (wpIn_mono (h c1 h1 a w hrel) fun e a' w' hq => ?_)
    cases e with
    | normal => exact hq
    | exit id' =>
      obtain ⟨st', g1, g2⟩ := hq
      simp only [blockQ] at g1
      simp only [Exit.inBlock]
      split
      · rename_i e; rw [if_pos e] at g1; exact ⟨st', g1, g2⟩
      · rename_i e; rw [if_neg e] at g1; exact ⟨st', g1, g2⟩
    | ret => exact hq
    | goto l => exact hq.elim
    | panic ch => exact hq.elim
    | outgrown => exact hq.elim
  all_goals (repeat' (split at hc)) <;> first | (cases hc; done) | (unfold drawReg at hc; split at hc <;> cases hc; done) | (unfold drawRegS at hc; split at hc <;> cases hc; done) | (obtain ⟨_, e⟩ := map_some_ne hc; cases e; done)
theorem WR_reg {ops : List LOper} {Q : AE → St → Prop} (h : WOps P ops (fun st' => Q .normal st') st) : WR P x nt l n (.reg none ops) Q st := by
  intro c hc a w hrel
  cases c <;> simp only [lowerCode, reduceCtorEq] at hc
  case region id rops draw =>
    split at hc <;> try (cases hc; done)
    rename_i lo hl
    split at hc
    · (repeat' (split at hc)) <;> first | (unfold drawReg at hc; split at hc <;> cases hc; done) | (unfold drawRegS at hc; split at hc <;> cases hc; done)
    · cases hc
      rename_i hdr
      obtain rfl : draw = false := by simpa using hdr
      exact wpIn_region_list (listIn_of post_noOut _ (lowerList_nodefer _ _ hl) _ _ (WOps.wp (fun st a w hk hr => ⟨st, hk, hr⟩) rops.toList _ st a w hl h hrel))
  all_goals (repeat' (split at hc)) <;> first | (cases hc; done) | (obtain ⟨_, e⟩ := map_some_ne hc; cases e; done)
end
end Go.Proofs.Ytkibfciheifphaa
/- Abstract objects seen from a later world; records of loops that change. -/
namespace Go.Proofs.Ytkibfciheifphaa
open Go.RowKit
section
variable {x : Cx} {C C' : Conc} {H H' : List AObj} {w w' : World}
def rootCx (x : Cx) (C : Conc) (H : List AObj) (w : World) : Cx := ⟨w, Stab x C H w, C, H⟩
theorem HR.root (hr : HR x C H w) : HR (rootCx x C H w) C H w ∧ ∀ p v, RepV (Stab x C H w) w C p v → RepV (Stab (rootCx x C H w) C H w) w C p v := by
  have hS : ∀ b o, Stab x C H w b o → Stab (rootCx x C H w) C H w b o := fun b o h => ⟨.inl h, h.2.1, h.2.2⟩
  have hm : ∀ p v, RepV (Stab x C H w) w C p v → RepV (Stab (rootCx x C H w) C H w) w C p v := fun p v h => h.mono hS (fun _ _ _ => rfl) (Nat.le_refl _) (fun i _ => rfl) (fun i _ => .inl ⟨rfl, rfl⟩)
  exact ⟨⟨hr.n, fun i ob h => (hr.obj i ob h).mono hm (fun p v h => h.mono hS (fun _ _ _ => rfl)) (fun _ _ => rfl) rfl rfl rfl, hr.apart, fun id ob b h hb => .inr ⟨id, ob, h, hb⟩, fun b o h => ⟨h.2.1, h.2.2, rfl⟩, Nat.le_refl _, rfl, rfl, rfl, fun b _ _ => rfl, Nat.le_refl _, fun _ _ => rfl, fun _ _ => .inl ⟨rfl, rfl⟩⟩, hm⟩
theorem HR.unroot (hr : HR x C H w) (h' : HR (rootCx x C H w) C' H' w') : HR x C' H' w' ∧ (∀ p v, RepV (Stab (rootCx x C H w) C' H' w') w' C' p v → RepV (Stab x C' H' w') w' C' p v) ∧
    ∀ b, b < w.heap.size → (∀ (i : Nat) ob0, H[i]? = some ob0 → ¬ ob0.holds C i b) → w'.heap[b]? = w.heap[b]? := by
  have hfirst : ∀ b o, (Stab x C H w b o ∨ w.heap.size ≤ b ∨ ∃ (i : Nat) (ob0 : AObj), H[i]? = some ob0 ∧ ob0.holds C i b) → (x.S0 b o ∨ x.w0.heap.size ≤ b ∨ ∃ (i : Nat) (ob0 : AObj), x.H0[i]? = some ob0 ∧ ob0.holds x.C0 i b) := by
    rintro b o (h | h | ⟨i, ob0, h1, h2⟩)
    · exact h.1
    · exact .inr (.inl (Nat.le_trans hr.size h))
    · exact .inr (hr.mine i ob0 b h1 h2)
  have hS : ∀ b o, Stab (rootCx x C H w) C' H' w' b o → Stab x C' H' w' b o := fun b o h => ⟨hfirst b o h.1, h.2.1, h.2.2⟩
  have hm : ∀ p v, RepV (Stab (rootCx x C H w) C' H' w') w' C' p v → RepV (Stab x C' H' w') w' C' p v := fun p v h => h.mono hS (fun _ _ _ => rfl) (Nat.le_refl _) (fun i _ => rfl) (fun i _ => .inl ⟨rfl, rfl⟩)
  refine ⟨⟨h'.n, fun i ob h => (h'.obj i ob h).mono hm (fun p v h => h.mono hS (fun _ _ _ => rfl)) (fun _ _ => rfl) rfl rfl rfl, h'.apart, fun id ob b h hb => ?_, fun b o h => ?_, Nat.le_trans hr.size h'.size, h'.os.trans hr.os, h'.tape.trans hr.tape, h'.output.trans hr.output, fun b hb h => ?_, Nat.le_trans hr.len h'.len, fun i hi => (h'.ids i (Nat.lt_of_lt_of_le hi hr.len)).trans (hr.ids i hi), fun i hi => ?_⟩, hm, fun b hb h => h'.frame b hb h⟩
  · rcases h'.mine id ob b h hb with h1 | ⟨i, ob0, h1, h2⟩
    · exact .inl (Nat.le_trans hr.size h1)
    · exact hr.mine i ob0 b h1 h2
  · obtain ⟨a1, a2, a3⟩ := hr.s0 b o h
    obtain ⟨b1, b2, b3⟩ := h'.s0 b o ⟨.inl h, Nat.lt_of_lt_of_le a1 hr.size, a2⟩
    exact ⟨a1, b2, b3.trans a3⟩
  · refine (h'.frame b (Nat.lt_of_lt_of_le hb hr.size) fun i ob0 hi hh => ?_).trans (hr.frame b hb h)
    rcases hr.mine i ob0 b hi hh with q | ⟨j, ob1, q1, q2⟩
    · omega
    · exact h j ob1 q1 q2
  · rcases h'.vers i (Nat.lt_of_lt_of_le hi hr.len) with ⟨a, b⟩ | a
    · rcases hr.vers i hi with ⟨c, d⟩ | c
      · exact .inl ⟨a.trans c, b.trans d⟩
      · exact .inr (by rw [a]; exact c)
    · rcases hr.vers i hi with ⟨c, d⟩ | c
      · exact .inr (by rw [← c]; exact a)
      · exact .inr (Nat.lt_trans c a)
theorem HR.notHeld (hr : HR x C H w) {L : Nat} (hL : ∀ cs T f, w.heap[L]? ≠ some (.cells cs T f)) {i : Nat} {ob : AObj} (h : H[i]? = some ob) : ¬ ob.holds C i L := by
  intro hb
  have ho := hr.obj i ob h
  cases ob with
  | box cells =>
    obtain ⟨cs, T, h1, _⟩ := ho
    rw [← (show L = C.blk i from hb)] at h1
    exact hL _ _ _ h1
  | arr ver st ipu T sz rows =>
    obtain ⟨_, _, _, xs, ⟨_, h1⟩, _⟩ := ho
    have hb' : (C.sv i).ownBlock = some L := hb
    rcases h1 with ⟨h2, _⟩ | ⟨g, cap, cur, h2, _, h3, _⟩
    · rw [h2] at hb'; cases hb'
    · rw [h2] at hb'
      obtain rfl : g = L := by simpa [Value.ownBlock] using hb'
      exact hL _ _ _ h3
  | gone => exact hb.elim
theorem HR.loop (hr : HR x C H w) {L : Nat} {r r' : Loop} (h : w.heap[L]? = some (.loop r)) (h0 : x.w0.heap.size ≤ L) :
    HR x C H (w.putObj L (.loop r')) ∧ ∀ p v, RepV (Stab x C H w) w C p v → RepV (Stab x C H (w.putObj L (.loop r'))) (w.putObj L (.loop r')) C p v := by
  have hlt : L < w.heap.size := (Array.getElem?_eq_some_iff.1 h).1
  have hsz : (w.putObj L (.loop r')).heap.size = w.heap.size := World.putObj_size
  have hnew : (w.putObj L (.loop r')).heap[L]? = some (.loop r') := World.putObj_heap_same hlt
  have hold : ∀ b, b ≠ L → (w.putObj L (.loop r')).heap[b]? = w.heap[b]? := fun b hb => World.putObj_heap_other hb
  have hcell : ∀ b o, (w.putObj L (.loop r')).cell? ⟨b, o, none⟩ = w.cell? ⟨b, o, none⟩ := fun b o => by
    by_cases e : b = L
    · subst e
      simp [World.cell?, hnew, h]
    · exact cell_eq (hold b e)
  have hS : ∀ b o, Stab x C H w b o → Stab x C H (w.putObj L (.loop r')) b o := fun b o h => ⟨h.1, by rw [hsz]; exact h.2.1, h.2.2⟩
  have hm : ∀ p v, RepV (Stab x C H w) w C p v → RepV (Stab x C H (w.putObj L (.loop r'))) (w.putObj L (.loop r')) C p v := fun p v h => h.mono hS (fun b o _ => hcell b o) (Nat.le_refl _) (fun i _ => rfl) (fun i _ => .inl ⟨rfl, rfl⟩)
  have hne : ∀ (i : Nat) ob, H[i]? = some ob → ∀ b, ob.holds C i b → b ≠ L := fun i ob hi b hb e => by
    subst e
    exact hr.notHeld (fun cs T f e => by rw [h] at e; cases e) hi hb
  refine ⟨⟨hr.n, fun i ob h => (hr.obj i ob h).mono hm (fun p v h => h.mono hS (fun b o _ => hcell b o)) (fun b hb => hold b (hne i ob h b hb)) rfl rfl rfl, hr.apart, hr.mine, fun b o h => ?_, by rw [hsz]; exact hr.size, hr.os, hr.tape, hr.output, fun b hb h => ?_, hr.len, hr.ids, hr.vers⟩, hm⟩
  · obtain ⟨h1, h2, h3⟩ := hr.s0 b o h
    exact ⟨h1, h2, (hcell b o).trans h3⟩
  · exact (hold b (by omega)).trans (hr.frame b hb h)
end
end Go.Proofs.Ytkibfciheifphaa
/- Walking lowered code by acts and worlds: for functions that call a loop's body. -/
namespace Go.Proofs.Ytkibfciheifphaa
open Go.RowKit
section
variable {P : Program} {x : Cx} {nt n : Nat} {st : St}
theorem uponIn_mono {F : Fence} {o : Oper} {a : Act} {next next' : Act → World → Prop} {Q Q' : Exit → Act → World → Prop} {r : Result Next} (hn : ∀ a w, next a w → next' a w) (hQ : ∀ e a w, e ≠ .normal → Q e a w → Q' e a w) (h : o.uponIn F n P a next Q r) : o.uponIn F n P a next' Q' r := by
  cases r with
  | ok nx w' =>
    cases nx with
    | value v => exact hn _ _ h
    | skip => exact hn _ _ h
    | defer d => exact hn _ _ h
    | enter f args =>
      obtain ⟨h1, h2⟩ := (h : _ ∧ CallsIn F (n - 1) P f args w' _)
      refine ⟨h1, h2.mono fun e w'' hq => ?_⟩
      cases e with
      | returned v => exact hn _ _ hq
      | panicked c => exact hQ _ _ _ (by simp) hq
      | outgrown => obtain ⟨a0, w0, q⟩ := hq; exact ⟨a0, w0, hQ _ _ _ (by simp) q⟩
    | row row args =>
      obtain ⟨h1, h2⟩ := (h : _ ∧ RowsIn F (n - 1) P row args w' _)
      exact ⟨h1, h2.mono fun v w'' hq => hn _ _ hq⟩
    | round l f tmps assign body =>
      obtain ⟨h1, h2⟩ := (h : _ ∧ RoundIn F (n - 1) P l f tmps assign body w' _)
      refine ⟨h1, h2.mono fun e w'' hq => ?_⟩
      cases e with
      | returned v => exact hn _ _ hq
      | panicked c => exact hQ _ _ _ (by simp) hq
      | outgrown => obtain ⟨a0, w0, q⟩ := hq; exact ⟨a0, w0, hQ _ _ _ (by simp) q⟩
    | _ => exact (h : False).elim
  | halt hh w' =>
    cases hh <;> first | exact hQ _ _ _ (by simp) h | exact (h : False).elim
theorem listIn_app {F : Fence} {ops : Array Oper} {Q : Exit → Act → World → Prop} {K : Act → World → Prop} : ∀ (os1 os2 : List Oper) (a : Act) (w : World), wpListIn F n P ops (fun e a w => e = .normal ∧ K a w) os1 a w → (∀ a w, K a w → wpListIn F n P ops Q os2 a w) → wpListIn F n P ops Q (os1 ++ os2) a w
  | [], os2, a, w, h, h2 => h2 a w h.2
  | o :: os1, os2, a, w, h, h2 => by
    rw [List.cons_append]
    unfold wpListIn at h ⊢
    split at h
    · rename_i hw
      rw [if_pos hw]
      exact ⟨h.1, uponIn_mono (fun a w h => listIn_app os1 os2 a w h h2) (fun e a w he hq => (he hq.1).elim) h.2⟩
    · rename_i hw
      rw [if_neg hw]
      exact ⟨h.1, listIn_app os1 os2 _ w h.2 h2⟩
theorem upon_keep {o : Oper} {a : Act} {next next' : Act → World → Prop} {Q Q' : Exit → Act → World → Prop} {r : Result Next} {Φ : Array Value → Prop} (hd : ∀ v (a : Act), Φ a.tmps → Φ (a.put o.dst v).tmps) (hu : Φ a.tmps)
    (hn : ∀ a w, Φ a.tmps → next a w → next' a w) (hQ : ∀ e a w, e ≠ .normal → Q e a w → Q' e a w) (h : o.upon P a next Q r) : o.upon P a next' Q' r := by
  cases r with
  | ok nx w' =>
    cases nx with
    | value v => exact hn _ _ (hd _ _ hu) h
    | skip => exact hn _ _ (hd _ _ hu) h
    | defer d => exact hn _ _ (hd _ { a with defers := d :: a.defers } hu) h
    | enter f args =>
      refine (h : Calls P f args w' _).mono fun e w'' hq => ?_
      cases e with
      | returned v => exact hn _ _ (hd _ _ hu) hq
      | panicked c => exact hQ _ _ _ (by simp) hq
      | outgrown => obtain ⟨a0, w0, q⟩ := hq; exact ⟨a0, w0, hQ _ _ _ (by simp) q⟩
    | row row args => exact (h : Rows P row args w' _).mono fun v w'' hq => hn _ _ (hd _ _ hu) hq
    | _ => exact (h : False).elim
  | halt hh w' =>
    cases hh <;> first | exact hQ _ _ _ (by simp) h | exact (h : False).elim
theorem list_keep {ops : Array Oper} {Q : Exit → Act → World → Prop} {Φ : Array Value → Prop} : ∀ (os : List Oper) (a : Act) (w : World), (∀ o ∈ os, ∀ v (a : Act), Φ a.tmps → Φ (a.put o.dst v).tmps) → Φ a.tmps → wpList P ops Q os a w → wpList P ops (fun e a w => Q e a w ∧ (e = .normal → Φ a.tmps)) os a w
  | [], a, w, _, hu, h => ⟨h, fun _ => hu⟩
  | o :: os, a, w, hd, hu, h => by
    unfold wpList at h ⊢
    have hr := fun o' ho' => hd o' (List.mem_cons_of_mem o ho')
    split at h
    · rename_i hw
      rw [if_pos hw]
      rcases h with h | ⟨h1, a0, w0, h2⟩
      · exact .inl (upon_keep (hd o List.mem_cons_self) hu (fun a w h1 h2 => list_keep os a w hr h1 h2) (fun e a w he hq => ⟨hq, fun h => (he h).elim⟩) h)
      · exact .inr ⟨h1, a0, w0, h2, fun h => by cases h⟩
    · rename_i hw
      rw [if_neg hw]
      exact list_keep os _ w hr (hd o List.mem_cons_self _ _ hu) h
theorem upon_wide {o : Oper} {a : Act} {next next' : Act → World → Prop} {Q : Exit → Act → World → Prop} {r : Result Next} (hn : ∀ a w, next a w → next' a w) (h : o.upon P a next Q r) : o.uponIn Fence.wide n P a next' Q r := by
  cases r with
  | ok nx w' =>
    cases nx with
    | value v => exact hn _ _ h
    | skip => exact hn _ _ h
    | defer d => exact hn _ _ h
    | enter f args =>
      refine ⟨(fun e => by cases e), ?_⟩
      have h2 : Calls P f args w' _ := h
      exact (callsIn_wide.2 h2 : CallsIn Fence.wide (n - 1) P f args w' _).mono fun e w'' hq => by
        cases e with
        | returned v => exact hn _ _ hq
        | panicked c => exact hq
        | outgrown => exact hq
    | row row args =>
      refine ⟨(fun e => by cases e), fun c cs _ => ?_⟩
      obtain ⟨v, w2, hv, hs⟩ := (h : Rows P row args w' _) c cs
      exact ⟨v, w2, hn _ _ hv, stepsIn_wide.2 hs⟩
    | _ => exact (h : False).elim
  | halt hh w' =>
    cases hh <;> first | exact h | exact (h : False).elim
theorem listIn_wide {ops : Array Oper} {Q : Exit → Act → World → Prop} (hQ : ¬ LetsOut Q) : ∀ (os : List Oper), ∀ a w, wpList P ops Q os a w → wpListIn Fence.wide n P ops Q os a w
  | [], a, w, h => h
  | o :: os, a, w, h => by
    unfold wpList at h
    unfold wpListIn
    split at h
    · rename_i hw
      rw [if_pos hw]
      rcases h with h | h
      · refine ⟨fun f _ => trivial, ?_⟩
        rw [show Fence.wide.round = none from rfl, Oper.semAt_none]
        exact upon_wide (fun a w h => listIn_wide hQ os a w h) h
      · exact (hQ h.2).elim
    · rename_i hw
      rw [if_neg hw]
      exact ⟨fun f _ => trivial, listIn_wide hQ os _ w h⟩
theorem lowerList_dst {ops : Array Oper} : ∀ (os : List Oper) (l : List LOper), lowerList P nt ops os = some l → os.map (·.dst) = l.map (·.dst)
  | [], l, h => by simp only [lowerList, Option.some.injEq] at h; subst h; rfl
  | o :: os, l, h => by
    simp only [lowerList] at h
    split at h <;> try (cases h; done)
    rename_i lo r h1 h2
    cases h
    have hd : o.dst = lo.dst := by
      unfold lowerOper at h1
      split at h1 <;> try (cases h1; done)
      split at h1 <;> try (cases h1; done)
      split at h1
      · cases h1; rfl
      · split at h1 <;> try (cases h1; done)
        split at h1 <;> try (cases h1; done)
        cases h1; rfl
    rw [List.map_cons, List.map_cons, lowerList_dst os r h2, hd]
theorem list_in {ops : Array Oper} {os : List Oper} {lops : List LOper} {K : St → Prop} {a : Act} {w : World} {Φ : Array Value → Prop} (hlow : lowerList P nt ops os = some lops) (h : WOps P lops K st) (hrel : Rel x nt st a w)
    (hd : ∀ o ∈ lops, ∀ v (a : Act), Φ a.tmps → Φ (a.put o.dst v).tmps) (hu : Φ a.tmps) : wpListIn Fence.wide n P ops (fun e a' w' => e = .normal ∧ ((∃ st', K st' ∧ Rel x nt st' a' w') ∧ Φ a'.tmps)) os a w := by
  have h1 : wpList P ops (fun e a' w' => e = .normal ∧ ∃ st', K st' ∧ Rel x nt st' a' w') os a w := WOps.wp (fun st a w hk hr => ⟨rfl, st, hk, hr⟩) os lops st a w hlow h hrel
  have hd2 : ∀ o ∈ os, ∀ v (a : Act), Φ a.tmps → Φ (a.put o.dst v).tmps := fun o ho v a hp => by
    have h2 := lowerList_dst os lops hlow
    obtain ⟨lo, hlo, e⟩ := List.mem_map.1 (h2 ▸ List.mem_map.2 ⟨o, ho, rfl⟩ : o.dst ∈ lops.map (·.dst))
    rw [← e]
    exact hd lo hlo v a hp
  have h2 := list_keep (Φ := Φ) os a w hd2 hu h1
  have h3 : wpListIn Fence.wide n P ops _ os a w := listIn_wide (n := n) (fun ⟨_, _, h⟩ => by cases h.1.1) os a w h2
  have h4 := listIn_app (n := n) (P := P) (F := Fence.wide) (ops := ops) (Q := fun e a' w' => e = .normal ∧ ((∃ st', K st' ∧ Rel x nt st' a' w') ∧ Φ a'.tmps)) (K := fun a' w' => (∃ st', K st' ∧ Rel x nt st' a' w') ∧ Φ a'.tmps) os [] a w ?_ (fun a w h => ⟨rfl, h⟩)
  · rwa [List.append_nil] at h4
  · have : (fun e a' w' => (e = Exit.normal ∧ ∃ st', K st' ∧ Rel x nt st' a' w') ∧ (e = .normal → Φ a'.tmps)) = (fun (e : Exit) (a' : Act) (w' : World) => e = .normal ∧ ((∃ st', K st' ∧ Rel x nt st' a' w') ∧ Φ a'.tmps)) := by
      funext e a' w'
      apply propext
      constructor
      · rintro ⟨⟨h1, h2⟩, h3⟩; exact ⟨h1, h2, h3 h1⟩
      · rintro ⟨h1, h2, h3⟩; exact ⟨⟨h1, h2⟩, fun _ => h3⟩
    rw [this] at h3
    exact h3
def postI (Q : AE → Act → World → Prop) : Exit → Act → World → Prop
  | .normal, a, w => Q .normal a w
  | .exit id, a, w => Q (.exit id) a w
  | .ret, a, w => Q .ret a w
  | _, _, _ => False
def WI (P : Program) (nt n : Nat) (lc : LC) (Q : AE → Act → World → Prop) (a : Act) (w : World) : Prop := ∀ c, lowerCode P nt c = some lc → c.wpIn Fence.wide n P (postI Q) a w
def thenI (K : Act → World → Prop) (Q : AE → Act → World → Prop) : AE → Act → World → Prop
  | .normal, a, w => K a w
  | e, a, w => Q e a w
def blockI (id : Nat) (Q : AE → Act → World → Prop) : AE → Act → World → Prop
  | .exit id', a, w => if id' = id then Q .normal a w else Q (.exit id') a w
  | e, a, w => Q e a w
variable {a : Act} {w : World} {Q : AE → Act → World → Prop}
theorem WI_skip (h : Q .normal a w) : WI P nt n .skip Q a w := by
  intro c hc
  cases c <;> simp only [lowerCode, reduceCtorEq] at hc
  case skip => exact wpIn_skip h
  all_goals (repeat' (split at hc)) <;> first | (cases hc; done) | (unfold drawReg at hc; split at hc <;> cases hc; done) | (unfold drawRegS at hc; split at hc <;> cases hc; done) | (obtain ⟨_, e⟩ := map_some_ne hc; cases e; done)
theorem WI_ret (h : Q .ret a w) : WI P nt n .ret Q a w := by
  intro c hc
  cases c <;> simp only [lowerCode, reduceCtorEq] at hc
  case ret => exact wpIn_ret h
  all_goals (repeat' (split at hc)) <;> first | (cases hc; done) | (unfold drawReg at hc; split at hc <;> cases hc; done) | (unfold drawRegS at hc; split at hc <;> cases hc; done) | (obtain ⟨_, e⟩ := map_some_ne hc; cases e; done)
theorem WI_exit {id : Nat} (h : Q (.exit id) a w) : WI P nt n (.exit id) Q a w := by
  intro c hc
  cases c <;> simp only [lowerCode, reduceCtorEq] at hc
  case exit i => cases hc; exact wpIn_exit h
  all_goals (repeat' (split at hc)) <;> first | (cases hc; done) | (unfold drawReg at hc; split at hc <;> cases hc; done) | (unfold drawRegS at hc; split at hc <;> cases hc; done) | (obtain ⟨_, e⟩ := map_some_ne hc; cases e; done)
theorem WI_seq {la lb : LC} (h : WI P nt n la (thenI (WI P nt n lb Q) Q) a w) : WI P nt n (.seq la lb) Q a w := by
  intro c hc
  cases c <;> simp only [lowerCode, reduceCtorEq] at hc
  case seq c1 c2 =>
    split at hc <;> try (cases hc; done)
    rename_i h1 h2
    cases hc
    refine wpIn_seq (wpIn_mono (h c1 h1) fun e a' w' hq => ?_)
    cases e with
    | normal => exact hq c2 h2
    | exit id => exact hq
    | ret => exact hq
    | goto l => exact hq.elim
    | panic ch => exact hq.elim
    | outgrown => exact hq.elim
  all_goals (repeat' (split at hc)) <;> first | (cases hc; done) | (unfold drawReg at hc; split at hc <;> cases hc; done) | (unfold drawRegS at hc; split at hc <;> cases hc; done) | (obtain ⟨_, e⟩ := map_some_ne hc; cases e; done)
theorem WI_cond {lc : LOpd} {la lb : LC} {b : Bool} (hrel : Rel x nt st a w) (hb : lc.ev st = .bool b) (h1 : b = true → WI P nt n la Q a w) (h2 : b = false → WI P nt n lb Q a w) : WI P nt n (.cond lc la lb) Q a w := by
  intro c hc
  cases c <;> simp only [lowerCode, reduceCtorEq] at hc
  case cond c0 c1 c2 =>
    split at hc <;> try (cases hc; done)
    rename_i g0 g1 g2
    cases hc
    obtain ⟨⟨C, hr1, he⟩, hdf, hsz⟩ := hrel
    have := lopd_rep (st := st) he g0
    rw [hb] at this
    refine wpIn_cond this.bool_inv ?_
    cases b with
    | true => exact h1 rfl c1 g1
    | false => exact h2 rfl c2 g2
  all_goals (repeat' (split at hc)) <;> first | (cases hc; done) | (unfold drawReg at hc; split at hc <;> cases hc; done) | (unfold drawRegS at hc; split at hc <;> cases hc; done) | (obtain ⟨_, e⟩ := map_some_ne hc; cases e; done)
theorem WI_block {id : Nat} {lb : LC} (h : WI P nt n lb (blockI id Q) a w) : WI P nt n (.block id lb) Q a w := by
  intro c hc
  cases c <;> simp only [lowerCode, reduceCtorEq] at hc
  case block i c1 =>
    obtain ⟨lc1, h1, e⟩ := Option.map_eq_some_iff.1 hc
    cases e
    refine wpIn_block (wpIn_mono (h c1 h1) fun e a' w' hq => ?_)
    cases e with
    | normal => exact hq
    | exit id' =>
      simp only [postI, blockI] at hq
      simp only [Exit.inBlock]
      split
      · rename_i e; rw [if_pos e] at hq; exact hq
      · rename_i e; rw [if_neg e] at hq; exact hq
    | ret => exact hq
    | goto l => exact hq.elim
    | panic ch => exact hq.elim
    | outgrown => exact hq.elim
  all_goals (repeat' (split at hc)) <;> first | (cases hc; done) | (unfold drawReg at hc; split at hc <;> cases hc; done) | (unfold drawRegS at hc; split at hc <;> cases hc; done) | (obtain ⟨_, e⟩ := map_some_ne hc; cases e; done)
theorem WI_loop {lb : LC} (I : Nat → Act → World → Prop) (k : Nat) (h0 : I k a w) (hstep : ∀ k a w, I k a w → WI P nt n lb (thenI (fun a' w' => ∃ k', k' < k ∧ I k' a' w') Q) a w) : WI P nt n (.loop lb) Q a w := by
  intro c hc
  cases c <;> simp only [lowerCode, reduceCtorEq] at hc
  case loop c1 =>
    obtain ⟨l, h1, e⟩ := Option.map_eq_some_iff.1 hc
    cases e
    have key : ∀ (m k : Nat) a w, k < m → I k a w → Code.rounds P c1 (postI Q) m a w := by
      intro m
      induction m with
      | zero => intro k a w h; omega
      | succ m ih =>
        intro k a w hlt hi
        rw [rounds_succ]
        refine wp_mono (wpIn_wide.1 (hstep k a w hi c1 h1)) fun e a' w' hq => ?_
        cases e with
        | normal => obtain ⟨k', g1, g2⟩ := hq; exact ih k' a' w' (by omega) g2
        | exit id => exact hq
        | ret => exact hq
        | goto l => exact hq.elim
        | panic ch => exact hq.elim
        | outgrown => exact hq.elim
    exact wpIn_wide.2 (wp_loop_rounds (k + 1) (key (k + 1) k a w (by omega) h0))
  all_goals (repeat' (split at hc)) <;> first | (cases hc; done) | (unfold drawReg at hc; split at hc <;> cases hc; done) | (unfold drawRegS at hc; split at hc <;> cases hc; done) | (obtain ⟨_, e⟩ := map_some_ne hc; cases e; done)
theorem WI_list {lops : List LOper} (h : ∀ ops os, lowerList P nt ops os = some lops → wpListIn Fence.wide n P ops (fun e a w => e = .normal ∧ Q .normal a w) os a w) : WI P nt n (.reg none lops) Q a w := by
  intro c hc
  cases c <;> simp only [lowerCode, reduceCtorEq] at hc
  case region id rops draw =>
    split at hc <;> try (cases hc; done)
    rename_i lo hl
    split at hc
    · (repeat' (split at hc)) <;> first | (unfold drawReg at hc; split at hc <;> cases hc; done) | (unfold drawRegS at hc; split at hc <;> cases hc; done)
    · cases hc
      rename_i hdr
      obtain rfl : draw = false := by simpa using hdr
      refine wpIn_region_list ?_
      have h4 := listIn_app (n := n) (P := P) (F := Fence.wide) (ops := rops) (Q := postI Q) (K := fun a w => Q .normal a w) rops.toList [] a w (h _ _ hl) (fun a w h => h)
      rwa [List.append_nil] at h4
  all_goals (repeat' (split at hc)) <;> first | (cases hc; done) | (obtain ⟨_, e⟩ := map_some_ne hc; cases e; done)
theorem WI_reg {lops : List LOper} {K : St → Prop} {Φ : Array Value → Prop} (h : WOps P lops K st) (hrel : Rel x nt st a w)
    (hd : ∀ o ∈ lops, ∀ v (a : Act), Φ a.tmps → Φ (a.put o.dst v).tmps) (hu : Φ a.tmps) (hk : ∀ st' a' w', K st' → Rel x nt st' a' w' → Φ a'.tmps → Q .normal a' w') : WI P nt n (.reg none lops) Q a w :=
  WI_list fun ops os hl => by
    have h1 := list_in (n := n) hl h hrel hd hu
    have h4 := listIn_app (n := n) (P := P) (F := Fence.wide) (ops := ops) (Q := fun e a w => e = .normal ∧ Q .normal a w) (K := fun a' w' => (∃ st', K st' ∧ Rel x nt st' a' w') ∧ Φ a'.tmps) os [] a w h1 (fun a w ⟨⟨st', g1, g2⟩, g3⟩ => ⟨rfl, hk st' a w g1 g2 g3⟩)
    rwa [List.append_nil] at h4
theorem lowerList_app {ops : Array Oper} : ∀ (l1 l2 : List LOper) (os : List Oper), lowerList P nt ops os = some (l1 ++ l2) → ∃ os1 os2, os = os1 ++ os2 ∧ lowerList P nt ops os1 = some l1 ∧ lowerList P nt ops os2 = some l2
  | [], l2, os, h => ⟨[], os, rfl, rfl, h⟩
  | lo :: l1, l2, [], h => by simp [lowerList] at h
  | lo :: l1, l2, o :: os, h => by
    simp only [lowerList] at h
    split at h <;> try (cases h; done)
    rename_i lo' r h1 h2
    simp only [List.cons_append, Option.some.injEq, List.cons.injEq] at h
    obtain ⟨rfl, rfl⟩ := h
    obtain ⟨os1, os2, rfl, g1, g2⟩ := lowerList_app l1 l2 os h2
    exact ⟨o :: os1, os2, rfl, by simp only [lowerList, h1, g1], g2⟩
theorem yield_in {o : Oper} {t u1 u2 L : Nat} {rc : Loop} {next : Act → World → Prop} {R : Ending → World → Prop} {Q : Exit → Act → World → Prop} (hl : lowerOp P o.op = some (.callv (.tmp t) [.tmp u1, .tmp u2])) (h14 : a.tmps.getD t Go.undef = .func (.yield L) #[] #[])
    (hL : w.heap[L]? = some (.loop rc)) (hp : rc.params.size = 2)
    (hround : RoundIn Fence.wide (n - 1) P L rc.fn ((rc.params.zip #[a.tmps.getD u1 Go.undef, a.tmps.getD u2 Go.undef]).foldl (fun tmps (t, a) => tmps.setIfInBounds t a) rc.tmps) rc.assign rc.body w R) (hR : ∀ e w', R e w' → ∃ v, e = .returned v ∧ next (a.put o.dst v) w') :
    o.wpIn Fence.wide n P a w next Q := by
  obtain ⟨Y, args0, tys, ho, hY, hargs⟩ := lower_callv hl
  have hY2 : Y = .tmp t := by
    cases Y with
    | tmp t' => simp [lopd] at hY; rw [hY]
    | const v => simp [lopd] at hY
    | func f => simp [lopd] at hY
    | global g => simp [lopd] at hY
  subst hY2
  have has : args0.map a.eval = #[a.tmps.getD u1 Go.undef, a.tmps.getD u2 Go.undef] := by
    have key : ∀ (l : List Operand) (ts : List Nat), lopds l = some (ts.map .tmp) → l.map a.eval = ts.map fun t => a.tmps.getD t Go.undef := by
      intro l
      induction l with
      | nil => intro ts h; simp [lopds] at h; cases ts with | nil => rfl | cons t ts => simp at h
      | cons X l ih =>
        intro ts h
        simp only [lopds] at h
        split at h <;> try (cases h; done)
        rename_i p ps h1 h2
        cases ts with
        | nil => simp at h
        | cons t ts =>
          simp only [List.map_cons, Option.some.injEq, List.cons.injEq] at h
          obtain ⟨rfl, rfl⟩ := h
          rw [List.map_cons, List.map_cons, ih ts h2]
          congr 1
          cases X with
          | tmp t' => simp [lopd] at h1; rw [← h1]; rfl
          | const v => simp [lopd] at h1
          | func f => simp [lopd] at h1
          | global g => simp [lopd] at h1
    have := key args0.toList [u1, u2] hargs
    apply Array.toList_inj.1
    rw [Array.toList_map, this]; rfl
  refine ⟨fun f _ => trivial, ?_⟩
  rw [show Fence.wide.round = none from rfl, Oper.semAt_none]
  have hrun : (execOp a.eval o).run P w = .ok (.round L rc.fn ((rc.params.zip #[a.tmps.getD u1 Go.undef, a.tmps.getD u2 Go.undef]).foldl (fun tmps (t, a) => tmps.setIfInBounds t a) rc.tmps) rc.assign rc.body) w := by
    have hy := run_yield (P := P) (args := #[a.tmps.getD u1 Go.undef, a.tmps.getD u2 Go.undef]) hL (by rw [hp]; rfl)
    simp only [execOp, ho, resolve, Deferred.ofValue, Act.eval, h14, Sem.run_bind, Sem.run_pure, Result.andThen_ok, invoke]
    rw [has]
    simpa using hy
  rw [hrun]
  refine ⟨(fun e => by cases e), hround.mono fun e w' hq => ?_⟩
  obtain ⟨v, rfl, hn⟩ := hR e w' hq
  exact hn
end
end Go.Proofs.Ytkibfciheifphaa
/- The lowered code of this seat's functions (printed by a program). -/
namespace Go.Proofs.Ytkibfciheifphaa
set_option maxRecDepth 100000 in
def L6 : LC := (.seq (.reg none [⟨(some 4), (.mv (.val (.bool false))), none, true⟩]) (.seq (.seq (.reg none [⟨(some 15), (.call 16 [] 0), none, true⟩, ⟨(some 16), (.not (.tmp 15)), none, true⟩, ⟨(some 17), (.mv (.tmp 16)), none, true⟩, ⟨(some 18), (.call 22 [] 0), (some (17, false)), true⟩, ⟨(some 19), (.not (.tmp 18)), (some (17, false)), true⟩, ⟨(some 20), (.pick (.tmp 17) (.val (.bool true)) (.tmp 19)), none, true⟩, ⟨(some 21), (.mv (.tmp 20)), none, true⟩, ⟨(some 22), (.call 19 [] 0), (some (21, false)), true⟩, ⟨(some 23), (.not (.tmp 22)), (some (21, false)), true⟩, ⟨(some 24), (.pick (.tmp 21) (.val (.bool true)) (.tmp 23)), none, true⟩]) (.cond (.tmp 24) (.seq (.reg none [⟨(some 4), (.mv (.val (.bool false))), none, true⟩]) .ret) .skip)) (.seq (.reg none [⟨(some 5), (.alloc [(.int .i64 0), (.int .i64 0), (.int .i64 0), (.str ⟨#[]⟩), .nilsl]), none, true⟩]) (.seq (.seq (.reg none [⟨(some 6), (.mv (.val (.int .i64 0))), none, true⟩]) (.block 0 (.loop (.seq (.seq (.reg none [⟨(some 25), (.mv (.tmp 6)), none, true⟩, ⟨(some 26), (.mv (.tmp 0)), none, true⟩, ⟨(some 27), (.len false (.tmp 26)), none, true⟩, ⟨(some 28), (.bin .lss (.tmp 25) (.tmp 27)), none, true⟩]) (.cond (.tmp 28) .skip (.exit 0))) (.seq (.block 1 (.seq (.reg none [⟨(some 31), (.mv (.tmp 0)), none, true⟩, ⟨(some 32), (.mv (.tmp 6)), none, true⟩, ⟨(some 33), (.iaddrS 5 (.tmp 31) (.tmp 32)), none, true⟩, ⟨(some 34), (.addr 0 (.tmp 33)), none, true⟩, ⟨(some 35), (.addr 0 (.tmp 34)), none, true⟩, ⟨(some 36), (.load 1 false (.tmp 35)), none, true⟩, ⟨(some 37), (.bin .eql (.tmp 36) (.val (.int .i64 0))), none, true⟩]) (.cond (.tmp 37) (.reg none [⟨(some 38), (.mv (.tmp 0)), none, true⟩, ⟨(some 39), (.mv (.tmp 6)), none, true⟩, ⟨(some 40), (.iaddrS 5 (.tmp 38) (.tmp 39)), none, true⟩, ⟨(some 41), (.load 5 true (.tmp 40)), none, true⟩, ⟨none, (.store 5 (.tmp 5) (.tmp 41)), none, true⟩]) .skip))) (.reg none [⟨(some 29), (.mv (.tmp 6)), none, true⟩, ⟨(some 30), (.bin .add (.tmp 29) (.val (.int .i64 1))), none, true⟩, ⟨(some 6), (.mv (.tmp 30)), none, true⟩])))))) (.seq (.seq (.reg none [⟨(some 42), (.mv (.tmp 0)), none, true⟩, ⟨(some 43), (.call 23 [(.tmp 42)] 0), none, true⟩, ⟨(some 44), (.bin .neq (.tmp 43) (.val (.int .i64 0))), none, true⟩, ⟨(some 45), (.mv (.tmp 44)), none, true⟩, ⟨(some 46), (.addr 0 (.tmp 5)), (some (45, false)), true⟩, ⟨(some 47), (.addr 1 (.tmp 46)), (some (45, false)), true⟩, ⟨(some 48), (.load 1 false (.tmp 47)), (some (45, false)), true⟩, ⟨(some 49), (.bin .gtr (.tmp 48) (.val (.int .i64 0))), (some (45, false)), true⟩, ⟨(some 50), (.pick (.tmp 45) (.val (.bool true)) (.tmp 49)), none, true⟩]) (.cond (.tmp 50) (.seq (.reg none [⟨(some 4), (.mv (.val (.bool true))), none, true⟩]) .ret) .skip)) (.seq (.reg none [⟨(some 52), (.call 24 [(.val (.int .i64 0))] 0), none, true⟩, ⟨(some 51), (.mv (.tmp 52)), none, true⟩, ⟨(some 53), (.ext 0 (.tmp 51)), none, true⟩, ⟨(some 54), (.ext 1 (.tmp 51)), none, true⟩, ⟨(some 7), (.alloc [(.int .i64 0), .nilsl, .nilsl]), none, true⟩, ⟨none, (.store 3 (.tmp 7) (.tmp 53)), none, true⟩, ⟨(some 8), (.mv (.tmp 54)), none, true⟩]) (.seq (.reg none [⟨(some 56), (.mv (.tmp 0)), none, true⟩, ⟨(some 57), (.build [(.int .i64 0), (.int .i64 0)] []), none, true⟩, ⟨(some 58), (.call 9 [(.tmp 56), (.tmp 57)] 0), none, true⟩, ⟨(some 55), (.mv (.tmp 58)), none, true⟩, ⟨(some 59), (.ext 0 (.tmp 55)), none, true⟩, ⟨(some 60), (.ext 1 (.tmp 55)), none, true⟩, ⟨(some 9), (.mv (.tmp 59)), none, true⟩, ⟨(some 10), (.mv (.tmp 60)), none, true⟩]) (.seq (.seq (.reg none [⟨(some 61), (.mv (.tmp 8)), none, true⟩, ⟨(some 62), (.bin .neq (.tmp 61) (.val (.int .i64 0))), none, true⟩, ⟨(some 63), (.mv (.tmp 62)), none, true⟩, ⟨(some 64), (.mv (.tmp 10)), (some (63, false)), true⟩, ⟨(some 65), (.bin .neq (.tmp 64) (.val (.int .i64 0))), (some (63, false)), true⟩, ⟨(some 66), (.pick (.tmp 63) (.val (.bool true)) (.tmp 65)), none, true⟩, ⟨(some 67), (.mv (.tmp 66)), none, true⟩, ⟨(some 68), (.mv (.tmp 9)), (some (67, false)), true⟩, ⟨(some 69), (.len false (.tmp 68)), (some (67, false)), true⟩, ⟨(some 70), (.mv (.tmp 0)), (some (67, false)), true⟩, ⟨(some 71), (.len false (.tmp 70)), (some (67, false)), true⟩, ⟨(some 72), (.bin .neq (.tmp 69) (.tmp 71)), (some (67, false)), true⟩, ⟨(some 73), (.pick (.tmp 67) (.val (.bool true)) (.tmp 72)), none, true⟩]) (.cond (.tmp 73) (.seq (.reg none [⟨(some 4), (.mv (.val (.bool false))), none, true⟩]) .ret) .skip)) (.seq (.seq (.reg none [⟨(some 11), (.mv (.val (.int .i64 0))), none, true⟩]) (.block 2 (.loop (.seq (.seq (.reg none [⟨(some 74), (.mv (.tmp 11)), none, true⟩, ⟨(some 75), (.mv (.tmp 9)), none, true⟩, ⟨(some 76), (.len false (.tmp 75)), none, true⟩, ⟨(some 77), (.bin .lss (.tmp 74) (.tmp 76)), none, true⟩]) (.cond (.tmp 77) .skip (.exit 2))) (.seq (.block 3 (.seq (.reg none [⟨(some 80), (.mv (.tmp 11)), none, true⟩, ⟨(some 12), (.mv (.tmp 80)), none, true⟩]) (.seq (.seq (.reg none [⟨(some 81), (.mv (.tmp 1)), none, true⟩]) (.cond (.tmp 81) (.reg none [⟨(some 82), (.mv (.tmp 9)), none, true⟩, ⟨(some 83), (.len false (.tmp 82)), none, true⟩, ⟨(some 84), (.bin .sub (.tmp 83) (.val (.int .i64 1))), none, true⟩, ⟨(some 85), (.mv (.tmp 11)), none, true⟩, ⟨(some 86), (.bin .sub (.tmp 84) (.tmp 85)), none, true⟩, ⟨(some 12), (.mv (.tmp 86)), none, true⟩]) .skip)) (.seq (.reg (some [(0, 9), (3, 9), (4, 9), (5, 9)]) [⟨(some 88), (.load 3 true (.tmp 7)), none, false⟩, ⟨(some 89), (.mv (.tmp 9)), none, true⟩, ⟨(some 90), (.mv (.tmp 12)), none, true⟩, ⟨(some 91), (.iaddrS 5 (.tmp 89) (.tmp 90)), none, false⟩, ⟨(some 92), (.load 5 true (.tmp 91)), none, false⟩, ⟨(some 93), (.call 25 [(.tmp 88), (.tmp 92)] 0), none, false⟩, ⟨(some 87), (.mv (.tmp 93)), none, true⟩, ⟨(some 94), (.ext 0 (.tmp 87)), none, true⟩, ⟨(some 95), (.ext 1 (.tmp 87)), none, true⟩, ⟨(some 13), (.alloc [(.int .i64 0), .nilsl, .nilsl]), none, false⟩, ⟨none, (.store 3 (.tmp 13) (.tmp 94)), none, true⟩, ⟨(some 14), (.mv (.tmp 95)), none, true⟩]) (.seq (.seq (.reg none [⟨(some 96), (.mv (.tmp 14)), none, true⟩, ⟨(some 97), (.bin .neq (.tmp 96) (.val (.int .i64 0))), none, true⟩]) (.cond (.tmp 97) (.seq (.reg none [⟨(some 4), (.mv (.val (.bool false))), none, true⟩]) .ret) .skip)) (.reg none [⟨(some 98), (.load 3 true (.tmp 13)), none, true⟩, ⟨none, (.store 3 (.tmp 7) (.tmp 98)), none, true⟩])))))) (.reg none [⟨(some 78), (.mv (.tmp 11)), none, true⟩, ⟨(some 79), (.bin .add (.tmp 78) (.val (.int .i64 1))), none, true⟩, ⟨(some 11), (.mv (.tmp 79)), none, true⟩])))))) (.seq (.reg none [⟨(some 99), (.addr 1 (.tmp 7)), none, true⟩, ⟨(some 100), (.load 1 false (.tmp 99)), none, true⟩, ⟨(some 101), (.mv (.tmp 0)), none, true⟩, ⟨(some 102), (.call 18 [(.tmp 100), (.tmp 101)] 0), none, true⟩, ⟨(some 103), (.mv (.tmp 102)), none, true⟩, ⟨(some 104), (.addr 2 (.tmp 7)), (some (103, true)), true⟩, ⟨(some 105), (.load 1 false (.tmp 104)), (some (103, true)), true⟩, ⟨(some 106), (.len false (.tmp 105)), (some (103, true)), true⟩, ⟨(some 107), (.bin .eql (.tmp 106) (.val (.int .i64 0))), (some (103, true)), true⟩, ⟨(some 108), (.pick (.tmp 103) (.tmp 107) (.val (.bool false))), none, true⟩, ⟨(some 4), (.mv (.tmp 108)), none, true⟩]) .ret))))))))))
def R6 : List LRes := [(.tmp 4)]
theorem low6 : Try.f6.body.bind (lowerCode Try.prog 109) = some L6 := by kernel_rfl
theorem res6 : lowerRes Try.prog Try.f6.results.toList = some R6 := by kernel_rfl
set_option maxRecDepth 100000 in
def L7 : LC := (.seq (.reg none [⟨(some 2), (.mv (.val (.str ⟨#[]⟩))), none, true⟩, ⟨(some 3), (.mv (.val (.int .i64 0))), none, true⟩]) (.seq (.seq (.reg none [⟨(some 8), (.mv (.tmp 0)), none, true⟩, ⟨(some 9), (.len false (.tmp 8)), none, true⟩, ⟨(some 10), (.bin .gtr (.tmp 9) (.val (.int .i64 40))), none, true⟩]) (.cond (.tmp 10) (.seq (.reg none [⟨(some 2), (.mv (.val (.str ⟨#[]⟩))), none, true⟩, ⟨(some 3), (.mv (.val (.int .i64 2))), none, true⟩]) .ret) .skip)) (.seq (.reg none [⟨(some 4), (.mv (.val (.str ⟨#[]⟩))), none, true⟩]) (.seq (.seq (.reg none [⟨(some 11), (.mv (.tmp 0)), none, true⟩, ⟨(some 12), (.len false (.tmp 11)), none, true⟩, ⟨(some 13), (.mv (.val (.int .i64 0))), none, true⟩]) (.block 0 (.loop (.seq (.reg none [⟨(some 14), (.bin .lss (.tmp 13) (.tmp 12)), none, true⟩]) (.seq (.cond (.tmp 14) .skip (.exit 0)) (.seq (.block 1 (.seq (.reg none [⟨(some 15), (.iaddrS 5 (.tmp 11) (.tmp 13)), none, true⟩, ⟨(some 16), (.load 5 true (.tmp 15)), none, true⟩, ⟨(some 6), (.alloc [(.int .i64 0), (.int .i64 0), (.int .i64 0), (.str ⟨#[]⟩), .nilsl]), none, true⟩, ⟨none, (.store 5 (.tmp 6) (.tmp 16)), none, true⟩]) (.seq (.seq (.reg none [⟨(some 17), (.load 5 true (.tmp 6)), none, true⟩, ⟨(some 18), (.call 26 [(.tmp 17)] 0), none, true⟩, ⟨(some 7), (.mv (.tmp 18)), none, true⟩]) (.seq (.reg none [⟨(some 19), (.mv (.tmp 7)), none, true⟩, ⟨(some 20), (.bin .neq (.tmp 19) (.val (.int .i64 0))), none, true⟩]) (.cond (.tmp 20) (.seq (.reg none [⟨(some 21), (.mv (.tmp 7)), none, true⟩, ⟨(some 2), (.mv (.val (.str ⟨#[]⟩))), none, true⟩, ⟨(some 3), (.mv (.tmp 21)), none, true⟩]) .ret) .skip))) (.reg none [⟨(some 22), (.mv (.tmp 4)), none, true⟩, ⟨(some 23), (.load 5 true (.tmp 6)), none, true⟩, ⟨(some 24), (.call 27 [(.tmp 23)] 0), none, true⟩, ⟨(some 25), (.bin .add (.tmp 22) (.tmp 24)), none, true⟩, ⟨(some 4), (.mv (.tmp 25)), none, true⟩])))) (.reg none [⟨(some 26), (.bin .add (.tmp 13) (.val (.int .i64 1))), none, true⟩, ⟨(some 13), (.mv (.tmp 26)), none, true⟩]))))))) (.seq (.reg none [⟨(some 27), (.mv (.tmp 4)), none, true⟩, ⟨(some 2), (.mv (.tmp 27)), none, true⟩, ⟨(some 3), (.mv (.val (.int .i64 0))), none, true⟩]) .ret)))))
def R7 : List LRes := [(.tmp 2), (.tmp 3)]
theorem low7 : Try.f7.body.bind (lowerCode Try.prog 28) = some L7 := by kernel_rfl
theorem res7 : lowerRes Try.prog Try.f7.results.toList = some R7 := by kernel_rfl
set_option maxRecDepth 100000 in
def L9 : LC := (.seq (.reg none [⟨(some 3), (.box (.tmp 1)), none, true⟩, ⟨(some 4), (.mv (.val .nilsl)), none, true⟩, ⟨(some 5), (.mv (.val (.int .i64 0))), none, true⟩]) (.seq (.reg none [⟨(some 7), (.mv (.tmp 0)), none, true⟩, ⟨(some 8), (.call 23 [(.tmp 7)] 0), none, true⟩, ⟨(some 6), (.mv (.tmp 8)), none, true⟩]) (.seq (.seq (.reg none [⟨(some 9), (.mv (.tmp 6)), none, true⟩, ⟨(some 10), (.bin .eql (.tmp 9) (.val (.int .i64 0))), none, true⟩]) (.cond (.tmp 10) (.reg none [⟨(some 11), (.load 2 true (.tmp 3)), none, true⟩, ⟨(some 12), (.call 29 [(.tmp 11)] 0), none, true⟩, ⟨(some 6), (.mv (.tmp 12)), none, true⟩]) .skip)) (.seq (.seq (.reg none [⟨(some 13), (.mv (.tmp 6)), none, true⟩, ⟨(some 14), (.bin .neq (.tmp 13) (.val (.int .i64 0))), none, true⟩]) (.cond (.tmp 14) (.seq (.reg none [⟨(some 15), (.mv (.tmp 6)), none, true⟩, ⟨(some 4), (.mv (.val .nilsl)), none, true⟩, ⟨(some 5), (.mv (.tmp 15)), none, true⟩]) .ret) .skip)) (.seq (.reg none [⟨(some 16), (.mv (.tmp 0)), none, true⟩, ⟨(some 17), (.load 2 true (.tmp 3)), none, true⟩, ⟨(some 18), (.call 30 [(.tmp 16), (.tmp 17)] 0), none, true⟩, ⟨(some 4), (.mv (.tmp 18)), none, true⟩, ⟨(some 5), (.mv (.val (.int .i64 0))), none, true⟩]) .ret)))))
def R9 : List LRes := [(.tmp 4), (.tmp 5)]
theorem low9 : Try.f9.body.bind (lowerCode Try.prog 19) = some L9 := by kernel_rfl
theorem res9 : lowerRes Try.prog Try.f9.results.toList = some R9 := by kernel_rfl
set_option maxRecDepth 100000 in
def L16 : LC := (.seq (.reg none [⟨(some 0), (.mv (.val (.bool false))), none, true⟩]) (.seq (.reg none [⟨(some 10), (.call 37 [] 0), none, true⟩, ⟨(some 11), (.call 7 [(.tmp 10)] 0), none, true⟩, ⟨(some 9), (.mv (.tmp 11)), none, true⟩, ⟨(some 12), (.ext 0 (.tmp 9)), none, true⟩, ⟨(some 13), (.ext 1 (.tmp 9)), none, true⟩, ⟨(some 1), (.mv (.tmp 12)), none, true⟩, ⟨(some 2), (.mv (.tmp 13)), none, true⟩]) (.seq (.reg none [⟨(some 15), (.mv (.tmp 1)), none, true⟩, ⟨(some 16), (.call 8 [(.tmp 15)] 0), none, true⟩, ⟨(some 14), (.mv (.tmp 16)), none, true⟩, ⟨(some 17), (.ext 0 (.tmp 14)), none, true⟩, ⟨(some 18), (.ext 1 (.tmp 14)), none, true⟩, ⟨(some 3), (.mv (.tmp 17)), none, true⟩, ⟨(some 4), (.mv (.tmp 18)), none, true⟩]) (.seq (.reg none [⟨(some 20), (.mv (.tmp 1)), none, true⟩, ⟨(some 21), (.bin .add (.tmp 20) (.val (.str ⟨#[0]⟩))), none, true⟩, ⟨(some 22), (.call 8 [(.tmp 21)] 0), none, true⟩, ⟨(some 19), (.mv (.tmp 22)), none, true⟩, ⟨(some 23), (.ext 0 (.tmp 19)), none, true⟩, ⟨(some 24), (.ext 1 (.tmp 19)), none, true⟩, ⟨(some 5), (.mv (.tmp 23)), none, true⟩, ⟨(some 6), (.mv (.tmp 24)), none, true⟩]) (.seq (.reg none [⟨(some 26), (.call 37 [] 0), none, true⟩, ⟨(some 27), (.build [(.int .i64 0), (.int .i64 0)] [(0, (1, (.val (.int .i64 1)))), (1, (1, (.val (.int .i64 2))))]), none, true⟩, ⟨(some 28), (.call 9 [(.tmp 26), (.tmp 27)] 0), none, true⟩, ⟨(some 25), (.mv (.tmp 28)), none, true⟩, ⟨(some 29), (.ext 0 (.tmp 25)), none, true⟩, ⟨(some 30), (.ext 1 (.tmp 25)), none, true⟩, ⟨(some 7), (.mv (.tmp 29)), none, true⟩, ⟨(some 8), (.mv (.tmp 30)), none, true⟩]) (.seq (.reg none [⟨(some 31), (.mv (.tmp 2)), none, true⟩, ⟨(some 32), (.bin .eql (.tmp 31) (.val (.int .i64 0))), none, true⟩, ⟨(some 33), (.mv (.tmp 32)), none, true⟩, ⟨(some 34), (.mv (.tmp 4)), (some (33, true)), true⟩, ⟨(some 35), (.bin .eql (.tmp 34) (.val (.int .i64 0))), (some (33, true)), true⟩, ⟨(some 36), (.pick (.tmp 33) (.tmp 35) (.val (.bool false))), none, true⟩, ⟨(some 37), (.mv (.tmp 36)), none, true⟩, ⟨(some 38), (.mv (.tmp 6)), (some (37, true)), true⟩, ⟨(some 39), (.bin .eql (.tmp 38) (.val (.int .i64 1))), (some (37, true)), true⟩, ⟨(some 40), (.pick (.tmp 37) (.tmp 39) (.val (.bool false))), none, true⟩, ⟨(some 41), (.mv (.tmp 40)), none, true⟩, ⟨(some 42), (.mv (.tmp 8)), (some (41, true)), true⟩, ⟨(some 43), (.bin .eql (.tmp 42) (.val (.int .i64 0))), (some (41, true)), true⟩, ⟨(some 44), (.pick (.tmp 41) (.tmp 43) (.val (.bool false))), none, true⟩, ⟨(some 45), (.mv (.tmp 44)), none, true⟩, ⟨(some 46), (.mv (.tmp 3)), (some (45, true)), true⟩, ⟨(some 47), (.call 37 [] 0), (some (45, true)), true⟩, ⟨(some 48), (.call 18 [(.tmp 46), (.tmp 47)] 0), (some (45, true)), true⟩, ⟨(some 49), (.pick (.tmp 45) (.tmp 48) (.val (.bool false))), none, true⟩, ⟨(some 50), (.mv (.tmp 49)), none, true⟩, ⟨(some 51), (.mv (.tmp 7)), (some (50, true)), true⟩, ⟨(some 52), (.call 37 [] 0), (some (50, true)), true⟩, ⟨(some 53), (.slc 5 (.tmp 52) (some (.val (.int .i64 2))) (some (.val (.int .i64 3)))), (some (50, true)), true⟩, ⟨(some 54), (.call 18 [(.tmp 51), (.tmp 53)] 0), (some (50, true)), true⟩, ⟨(some 55), (.pick (.tmp 50) (.tmp 54) (.val (.bool false))), none, true⟩, ⟨(some 0), (.mv (.tmp 55)), none, true⟩]) .ret))))))
def R16 : List LRes := [(.tmp 0)]
theorem low16 : Try.f16.body.bind (lowerCode Try.prog 56) = some L16 := by kernel_rfl
theorem res16 : lowerRes Try.prog Try.f16.results.toList = some R16 := by kernel_rfl
set_option maxRecDepth 100000 in
def L18 : LC := (.seq (.reg none [⟨(some 4), (.mv (.val (.bool false))), none, true⟩]) (.seq (.seq (.reg none [⟨(some 6), (.mv (.tmp 0)), none, true⟩, ⟨(some 7), (.len false (.tmp 6)), none, true⟩, ⟨(some 8), (.mv (.tmp 1)), none, true⟩, ⟨(some 9), (.len false (.tmp 8)), none, true⟩, ⟨(some 10), (.bin .neq (.tmp 7) (.tmp 9)), none, true⟩]) (.cond (.tmp 10) (.seq (.reg none [⟨(some 4), (.mv (.val (.bool false))), none, true⟩]) .ret) .skip)) (.seq (.seq (.reg none [⟨(some 5), (.mv (.val (.int .i64 0))), none, true⟩]) (.block 0 (.loop (.seq (.seq (.reg none [⟨(some 11), (.mv (.tmp 5)), none, true⟩, ⟨(some 12), (.mv (.tmp 0)), none, true⟩, ⟨(some 13), (.len false (.tmp 12)), none, true⟩, ⟨(some 14), (.bin .lss (.tmp 11) (.tmp 13)), none, true⟩]) (.cond (.tmp 14) .skip (.exit 0))) (.seq (.block 1 (.seq (.reg (some []) [⟨(some 17), (.mv (.tmp 0)), none, true⟩, ⟨(some 18), (.mv (.tmp 5)), none, true⟩, ⟨(some 19), (.iaddrS 5 (.tmp 17) (.tmp 18)), none, false⟩, ⟨(some 20), (.load 5 true (.tmp 19)), none, false⟩, ⟨(some 21), (.mv (.tmp 1)), none, true⟩, ⟨(some 22), (.mv (.tmp 5)), none, true⟩, ⟨(some 23), (.iaddrS 5 (.tmp 21) (.tmp 22)), none, false⟩, ⟨(some 24), (.load 5 true (.tmp 23)), none, false⟩, ⟨(some 25), (.call 20 [(.tmp 20), (.tmp 24)] 0), none, true⟩, ⟨(some 26), (.not (.tmp 25)), none, true⟩]) (.cond (.tmp 26) (.seq (.reg none [⟨(some 4), (.mv (.val (.bool false))), none, true⟩]) .ret) .skip))) (.reg none [⟨(some 15), (.mv (.tmp 5)), none, true⟩, ⟨(some 16), (.bin .add (.tmp 15) (.val (.int .i64 1))), none, true⟩, ⟨(some 5), (.mv (.tmp 16)), none, true⟩])))))) (.seq (.reg none [⟨(some 4), (.mv (.val (.bool true))), none, true⟩]) .ret))))
def R18 : List LRes := [(.tmp 4)]
theorem low18 : Try.f18.body.bind (lowerCode Try.prog 27) = some L18 := by kernel_rfl
theorem res18 : lowerRes Try.prog Try.f18.results.toList = some R18 := by kernel_rfl
set_option maxRecDepth 100000 in
def L19 : LC := (.seq (.reg none [⟨(some 0), (.mv (.val (.bool false))), none, true⟩]) (.seq (.reg none [⟨(some 8), (.call 37 [] 0), none, true⟩, ⟨(some 9), (.call 39 [(.val (.int .i64 1)), (.val (.int .i64 2))] 0), none, true⟩, ⟨(some 10), (.call 38 [(.tmp 8), (.tmp 9)] 0), none, true⟩, ⟨(some 7), (.mv (.tmp 10)), none, true⟩, ⟨(some 11), (.ext 0 (.tmp 7)), none, true⟩, ⟨(some 12), (.ext 1 (.tmp 7)), none, true⟩, ⟨(some 1), (.mv (.tmp 11)), none, true⟩, ⟨(some 2), (.mv (.tmp 12)), none, true⟩]) (.seq (.reg none [⟨(some 14), (.call 37 [] 0), none, true⟩, ⟨(some 15), (.call 40 [(.tmp 14), (.val (.int .i64 1))] 0), none, true⟩, ⟨(some 13), (.mv (.tmp 15)), none, true⟩, ⟨(some 16), (.ext 0 (.tmp 13)), none, true⟩, ⟨(some 17), (.ext 1 (.tmp 13)), none, true⟩, ⟨(some 3), (.mv (.tmp 16)), none, true⟩, ⟨(some 4), (.mv (.tmp 17)), none, true⟩]) (.seq (.reg none [⟨(some 19), (.call 37 [] 0), none, true⟩, ⟨(some 20), (.call 21 [(.tmp 19)] 0), none, true⟩, ⟨(some 18), (.mv (.tmp 20)), none, true⟩, ⟨(some 21), (.ext 0 (.tmp 18)), none, true⟩, ⟨(some 22), (.ext 1 (.tmp 18)), none, true⟩, ⟨(some 5), (.alloc [(.int .i64 0), (.int .i64 0)]), none, true⟩, ⟨none, (.store 2 (.tmp 5) (.tmp 21)), none, true⟩, ⟨(some 6), (.mv (.tmp 22)), none, true⟩]) (.seq (.reg none [⟨(some 23), (.call 37 [] 0), none, true⟩, ⟨(some 24), (.call 23 [(.tmp 23)] 0), none, true⟩, ⟨(some 25), (.bin .eql (.tmp 24) (.val (.int .i64 0))), none, true⟩, ⟨(some 26), (.mv (.tmp 25)), none, true⟩, ⟨(some 27), (.mv (.tmp 2)), (some (26, true)), true⟩, ⟨(some 28), (.bin .eql (.tmp 27) (.val (.int .i64 0))), (some (26, true)), true⟩, ⟨(some 29), (.pick (.tmp 26) (.tmp 28) (.val (.bool false))), none, true⟩, ⟨(some 30), (.mv (.tmp 29)), none, true⟩, ⟨(some 31), (.mv (.tmp 4)), (some (30, true)), true⟩, ⟨(some 32), (.bin .eql (.tmp 31) (.val (.int .i64 0))), (some (30, true)), true⟩, ⟨(some 33), (.pick (.tmp 30) (.tmp 32) (.val (.bool false))), none, true⟩, ⟨(some 34), (.mv (.tmp 33)), none, true⟩, ⟨(some 35), (.mv (.tmp 6)), (some (34, true)), true⟩, ⟨(some 36), (.bin .eql (.tmp 35) (.val (.int .i64 0))), (some (34, true)), true⟩, ⟨(some 37), (.pick (.tmp 34) (.tmp 36) (.val (.bool false))), none, true⟩, ⟨(some 38), (.mv (.tmp 37)), none, true⟩, ⟨(some 39), (.mv (.tmp 1)), (some (38, true)), true⟩, ⟨(some 40), (.call 39 [(.val (.int .i64 0)), (.val (.int .i64 1))] 0), (some (38, true)), true⟩, ⟨(some 41), (.call 39 [(.val (.int .i64 0)), (.val (.int .i64 2))] 0), (some (38, true)), true⟩, ⟨(some 42), (.call 39 [(.val (.int .i64 1)), (.val (.int .i64 1))] 0), (some (38, true)), true⟩, ⟨(some 43), (.mks 2 [(.int .i64 0), (.int .i64 0)] 3 [(0, (.tmp 40)), (1, (.tmp 41)), (2, (.tmp 42))]), (some (38, true)), true⟩, ⟨(some 44), (.call 41 [(.tmp 39), (.tmp 43)] 0), (some (38, true)), true⟩, ⟨(some 45), (.pick (.tmp 38) (.tmp 44) (.val (.bool false))), none, true⟩, ⟨(some 46), (.mv (.tmp 45)), none, true⟩, ⟨(some 47), (.mv (.tmp 3)), (some (46, true)), true⟩, ⟨(some 48), (.call 39 [(.val (.int .i64 0)), (.val (.int .i64 2))] 0), (some (46, true)), true⟩, ⟨(some 49), (.call 39 [(.val (.int .i64 1)), (.val (.int .i64 1))] 0), (some (46, true)), true⟩, ⟨(some 50), (.mks 2 [(.int .i64 0), (.int .i64 0)] 2 [(0, (.tmp 48)), (1, (.tmp 49))]), (some (46, true)), true⟩, ⟨(some 51), (.call 41 [(.tmp 47), (.tmp 50)] 0), (some (46, true)), true⟩, ⟨(some 52), (.pick (.tmp 46) (.tmp 51) (.val (.bool false))), none, true⟩, ⟨(some 53), (.mv (.tmp 52)), none, true⟩, ⟨(some 54), (.load 2 true (.tmp 5)), (some (53, true)), true⟩, ⟨(some 55), (.build [(.int .i64 0), (.int .i64 0)] [(0, (1, (.val (.int .i64 2)))), (1, (1, (.val (.int .i64 2))))]), (some (53, true)), true⟩, ⟨(some 56), (.eqag false [.i, .i] (.tmp 54) (.tmp 55)), (some (53, true)), true⟩, ⟨(some 57), (.pick (.tmp 53) (.tmp 56) (.val (.bool false))), none, true⟩, ⟨(some 0), (.mv (.tmp 57)), none, true⟩]) .ret)))))
def R19 : List LRes := [(.tmp 0)]
theorem low19 : Try.f19.body.bind (lowerCode Try.prog 58) = some L19 := by kernel_rfl
theorem res19 : lowerRes Try.prog Try.f19.results.toList = some R19 := by kernel_rfl
set_option maxRecDepth 100000 in
def L20 : LC := (.seq (.reg none [⟨(some 2), (.box (.tmp 0)), none, true⟩, ⟨(some 3), (.box (.tmp 1)), none, true⟩, ⟨(some 4), (.mv (.val (.bool false))), none, true⟩]) (.seq (.reg none [⟨(some 5), (.addr 0 (.tmp 2)), none, true⟩, ⟨(some 6), (.load 2 true (.tmp 5)), none, true⟩, ⟨(some 7), (.addr 0 (.tmp 3)), none, true⟩, ⟨(some 8), (.load 2 true (.tmp 7)), none, true⟩, ⟨(some 9), (.eqag false [.i, .i] (.tmp 6) (.tmp 8)), none, true⟩, ⟨(some 10), (.mv (.tmp 9)), none, true⟩, ⟨(some 11), (.addr 2 (.tmp 2)), (some (10, true)), true⟩, ⟨(some 12), (.load 1 false (.tmp 11)), (some (10, true)), true⟩, ⟨(some 13), (.addr 2 (.tmp 3)), (some (10, true)), true⟩, ⟨(some 14), (.load 1 false (.tmp 13)), (some (10, true)), true⟩, ⟨(some 15), (.bin .eql (.tmp 12) (.tmp 14)), (some (10, true)), true⟩, ⟨(some 16), (.pick (.tmp 10) (.tmp 15) (.val (.bool false))), none, true⟩, ⟨(some 17), (.mv (.tmp 16)), none, true⟩, ⟨(some 18), (.addr 3 (.tmp 2)), (some (17, true)), true⟩, ⟨(some 19), (.load 1 false (.tmp 18)), (some (17, true)), true⟩, ⟨(some 20), (.addr 3 (.tmp 3)), (some (17, true)), true⟩, ⟨(some 21), (.load 1 false (.tmp 20)), (some (17, true)), true⟩, ⟨(some 22), (.bin .eql (.tmp 19) (.tmp 21)), (some (17, true)), true⟩, ⟨(some 23), (.pick (.tmp 17) (.tmp 22) (.val (.bool false))), none, true⟩, ⟨(some 24), (.mv (.tmp 23)), none, true⟩, ⟨(some 25), (.addr 4 (.tmp 2)), (some (24, true)), true⟩, ⟨(some 26), (.load 1 false (.tmp 25)), (some (24, true)), true⟩, ⟨(some 27), (.addr 4 (.tmp 3)), (some (24, true)), true⟩, ⟨(some 28), (.load 1 false (.tmp 27)), (some (24, true)), true⟩, ⟨(some 29), (.call 41 [(.tmp 26), (.tmp 28)] 0), (some (24, true)), true⟩, ⟨(some 30), (.pick (.tmp 24) (.tmp 29) (.val (.bool false))), none, true⟩, ⟨(some 4), (.mv (.tmp 30)), none, true⟩]) .ret))
def R20 : List LRes := [(.tmp 4)]
theorem low20 : Try.f20.body.bind (lowerCode Try.prog 31) = some L20 := by kernel_rfl
theorem res20 : lowerRes Try.prog Try.f20.results.toList = some R20 := by kernel_rfl
set_option maxRecDepth 100000 in
def L21 : LC := (.seq (.reg none [⟨(some 2), (.alloc [(.int .i64 0), (.int .i64 0)]), none, true⟩, ⟨(some 3), (.mv (.val (.int .i64 0))), none, true⟩]) (.seq (.seq (.reg none [⟨(some 5), (.mv (.tmp 0)), none, true⟩, ⟨(some 6), (.call 23 [(.tmp 5)] 0), none, true⟩, ⟨(some 4), (.mv (.tmp 6)), none, true⟩]) (.seq (.reg none [⟨(some 7), (.mv (.tmp 4)), none, true⟩, ⟨(some 8), (.bin .neq (.tmp 7) (.val (.int .i64 0))), none, true⟩]) (.cond (.tmp 8) (.seq (.reg none [⟨(some 9), (.build [(.int .i64 0), (.int .i64 0)] []), none, true⟩, ⟨(some 10), (.mv (.tmp 4)), none, true⟩, ⟨none, (.store 2 (.tmp 2) (.tmp 9)), none, true⟩, ⟨(some 3), (.mv (.tmp 10)), none, true⟩]) .ret) .skip))) (.seq (.reg none [⟨(some 11), (.mv (.tmp 0)), none, true⟩, ⟨(some 12), (.call 42 [(.tmp 11)] 0), none, true⟩, ⟨none, (.store 2 (.tmp 2) (.tmp 12)), none, true⟩, ⟨(some 3), (.mv (.val (.int .i64 0))), none, true⟩]) .ret)))
def R21 : List LRes := [(.cell 2 2 true), (.tmp 3)]
theorem low21 : Try.f21.body.bind (lowerCode Try.prog 13) = some L21 := by kernel_rfl
theorem res21 : lowerRes Try.prog Try.f21.results.toList = some R21 := by kernel_rfl
set_option maxRecDepth 100000 in
def L22 : LC := (.seq (.reg none [⟨(some 0), (.mv (.val (.bool false))), none, true⟩]) (.seq (.reg none [⟨(some 14), (.call 24 [(.val (.int .i64 1))] 0), none, true⟩, ⟨(some 13), (.mv (.tmp 14)), none, true⟩, ⟨(some 15), (.ext 0 (.tmp 13)), none, true⟩, ⟨(some 16), (.ext 1 (.tmp 13)), none, true⟩, ⟨(some 1), (.alloc [(.int .i64 0), .nilsl, .nilsl]), none, true⟩, ⟨none, (.store 3 (.tmp 1) (.tmp 15)), none, true⟩, ⟨(some 2), (.mv (.tmp 16)), none, true⟩]) (.seq (.reg (some [(0, 8), (1, 8), (2, 8), (3, 8), (4, 8)]) [⟨(some 18), (.load 3 true (.tmp 1)), none, false⟩, ⟨(some 19), (.call 37 [] 0), none, false⟩, ⟨(some 20), (.iaddrS 5 (.tmp 19) (.val (.int .i64 2))), none, false⟩, ⟨(some 21), (.load 5 true (.tmp 20)), none, false⟩, ⟨(some 22), (.call 25 [(.tmp 18), (.tmp 21)] 0), none, false⟩, ⟨(some 17), (.mv (.tmp 22)), none, true⟩, ⟨(some 23), (.ext 0 (.tmp 17)), none, true⟩, ⟨(some 24), (.ext 1 (.tmp 17)), none, true⟩, ⟨(some 3), (.alloc [(.int .i64 0), .nilsl, .nilsl]), none, false⟩, ⟨none, (.store 3 (.tmp 3) (.tmp 23)), none, true⟩, ⟨(some 4), (.mv (.tmp 24)), none, true⟩]) (.seq (.reg (some [(0, 8), (1, 8), (2, 8), (3, 8), (4, 8)]) [⟨(some 26), (.load 3 true (.tmp 3)), none, false⟩, ⟨(some 27), (.call 37 [] 0), none, false⟩, ⟨(some 28), (.iaddrS 5 (.tmp 27) (.val (.int .i64 0))), none, false⟩, ⟨(some 29), (.load 5 true (.tmp 28)), none, false⟩, ⟨(some 30), (.call 25 [(.tmp 26), (.tmp 29)] 0), none, false⟩, ⟨(some 25), (.mv (.tmp 30)), none, true⟩, ⟨(some 31), (.ext 0 (.tmp 25)), none, true⟩, ⟨(some 32), (.ext 1 (.tmp 25)), none, true⟩, ⟨(some 5), (.alloc [(.int .i64 0), .nilsl, .nilsl]), none, false⟩, ⟨none, (.store 3 (.tmp 5) (.tmp 31)), none, true⟩, ⟨(some 6), (.mv (.tmp 32)), none, true⟩]) (.seq (.reg none [⟨(some 34), (.load 3 true (.tmp 5)), none, true⟩, ⟨(some 35), (.call 43 [(.tmp 34), (.val (.int .i64 4)), (.val (.str ⟨#[116]⟩))] 0), none, true⟩, ⟨(some 33), (.mv (.tmp 35)), none, true⟩, ⟨(some 36), (.ext 0 (.tmp 33)), none, true⟩, ⟨(some 37), (.ext 1 (.tmp 33)), none, true⟩, ⟨(some 38), (.ext 2 (.tmp 33)), none, true⟩, ⟨(some 7), (.alloc [(.int .i64 0), .nilsl, .nilsl]), none, true⟩, ⟨(some 8), (.alloc [(.int .i64 0), (.int .i64 0), (.int .i64 0), (.str ⟨#[]⟩), .nilsl]), none, true⟩, ⟨none, (.store 3 (.tmp 7) (.tmp 36)), none, true⟩, ⟨none, (.store 5 (.tmp 8) (.tmp 37)), none, true⟩, ⟨(some 9), (.mv (.tmp 38)), none, true⟩]) (.seq (.reg none [⟨(some 40), (.load 3 true (.tmp 7)), none, true⟩, ⟨(some 41), (.call 43 [(.tmp 40), (.val (.int .i64 1)), (.val (.str ⟨#[117]⟩))] 0), none, true⟩, ⟨(some 39), (.mv (.tmp 41)), none, true⟩, ⟨(some 42), (.ext 0 (.tmp 39)), none, true⟩, ⟨(some 43), (.ext 1 (.tmp 39)), none, true⟩, ⟨(some 44), (.ext 2 (.tmp 39)), none, true⟩, ⟨(some 10), (.alloc [(.int .i64 0), .nilsl, .nilsl]), none, true⟩, ⟨(some 11), (.alloc [(.int .i64 0), (.int .i64 0), (.int .i64 0), (.str ⟨#[]⟩), .nilsl]), none, true⟩, ⟨none, (.store 3 (.tmp 10) (.tmp 42)), none, true⟩, ⟨none, (.store 5 (.tmp 11) (.tmp 43)), none, true⟩, ⟨(some 12), (.mv (.tmp 44)), none, true⟩]) (.seq (.reg (some []) [⟨(some 45), (.mv (.tmp 2)), none, true⟩, ⟨(some 46), (.bin .eql (.tmp 45) (.val (.int .i64 0))), none, true⟩, ⟨(some 47), (.mv (.tmp 46)), none, true⟩, ⟨(some 48), (.mv (.tmp 4)), (some (47, true)), true⟩, ⟨(some 49), (.bin .eql (.tmp 48) (.val (.int .i64 0))), (some (47, true)), true⟩, ⟨(some 50), (.pick (.tmp 47) (.tmp 49) (.val (.bool false))), none, true⟩, ⟨(some 51), (.mv (.tmp 50)), none, true⟩, ⟨(some 52), (.mv (.tmp 6)), (some (51, true)), true⟩, ⟨(some 53), (.bin .eql (.tmp 52) (.val (.int .i64 0))), (some (51, true)), true⟩, ⟨(some 54), (.pick (.tmp 51) (.tmp 53) (.val (.bool false))), none, true⟩, ⟨(some 55), (.mv (.tmp 54)), none, true⟩, ⟨(some 56), (.mv (.tmp 9)), (some (55, true)), true⟩, ⟨(some 57), (.bin .eql (.tmp 56) (.val (.int .i64 0))), (some (55, true)), true⟩, ⟨(some 58), (.pick (.tmp 55) (.tmp 57) (.val (.bool false))), none, true⟩, ⟨(some 59), (.mv (.tmp 58)), none, true⟩, ⟨(some 60), (.mv (.tmp 12)), (some (59, true)), true⟩, ⟨(some 61), (.bin .eql (.tmp 60) (.val (.int .i64 0))), (some (59, true)), true⟩, ⟨(some 62), (.pick (.tmp 59) (.tmp 61) (.val (.bool false))), none, true⟩, ⟨(some 63), (.mv (.tmp 62)), none, true⟩, ⟨(some 64), (.load 3 true (.tmp 10)), (some (63, true)), true⟩, ⟨(some 65), (.call 44 [(.tmp 64)] 0), (some (63, true)), true⟩, ⟨(some 66), (.bin .eql (.tmp 65) (.val (.int .i64 0))), (some (63, true)), true⟩, ⟨(some 67), (.pick (.tmp 63) (.tmp 66) (.val (.bool false))), none, true⟩, ⟨(some 68), (.mv (.tmp 67)), none, true⟩, ⟨(some 69), (.addr 1 (.tmp 3)), (some (68, true)), true⟩, ⟨(some 70), (.load 1 false (.tmp 69)), (some (68, true)), true⟩, ⟨(some 71), (.len false (.tmp 70)), (some (68, true)), true⟩, ⟨(some 72), (.bin .eql (.tmp 71) (.val (.int .i64 0))), (some (68, true)), true⟩, ⟨(some 73), (.pick (.tmp 68) (.tmp 72) (.val (.bool false))), none, true⟩, ⟨(some 74), (.mv (.tmp 73)), none, true⟩, ⟨(some 75), (.addr 2 (.tmp 3)), (some (74, true)), true⟩, ⟨(some 76), (.load 1 false (.tmp 75)), (some (74, true)), true⟩, ⟨(some 77), (.len false (.tmp 76)), (some (74, true)), true⟩, ⟨(some 78), (.bin .eql (.tmp 77) (.val (.int .i64 1))), (some (74, true)), true⟩, ⟨(some 79), (.pick (.tmp 74) (.tmp 78) (.val (.bool false))), none, true⟩, ⟨(some 80), (.mv (.tmp 79)), none, true⟩, ⟨(some 81), (.addr 1 (.tmp 5)), (some (80, true)), true⟩, ⟨(some 82), (.load 1 false (.tmp 81)), (some (80, true)), true⟩, ⟨(some 83), (.len false (.tmp 82)), (some (80, true)), true⟩, ⟨(some 84), (.bin .eql (.tmp 83) (.val (.int .i64 2))), (some (80, true)), true⟩, ⟨(some 85), (.pick (.tmp 80) (.tmp 84) (.val (.bool false))), none, true⟩, ⟨(some 86), (.mv (.tmp 85)), none, true⟩, ⟨(some 87), (.addr 2 (.tmp 5)), (some (86, true)), true⟩, ⟨(some 88), (.load 1 false (.tmp 87)), (some (86, true)), true⟩, ⟨(some 89), (.len false (.tmp 88)), (some (86, true)), true⟩, ⟨(some 90), (.bin .eql (.tmp 89) (.val (.int .i64 0))), (some (86, true)), true⟩, ⟨(some 91), (.pick (.tmp 86) (.tmp 90) (.val (.bool false))), none, true⟩, ⟨(some 92), (.mv (.tmp 91)), none, true⟩, ⟨(some 93), (.addr 4 (.tmp 8)), (some (92, true)), true⟩, ⟨(some 94), (.load 1 false (.tmp 93)), (some (92, true)), true⟩, ⟨(some 95), (.len false (.tmp 94)), (some (92, true)), true⟩, ⟨(some 96), (.bin .eql (.tmp 95) (.val (.int .i64 0))), (some (92, true)), true⟩, ⟨(some 97), (.pick (.tmp 92) (.tmp 96) (.val (.bool false))), none, true⟩, ⟨(some 98), (.mv (.tmp 97)), none, true⟩, ⟨(some 99), (.addr 4 (.tmp 11)), (some (98, true)), false⟩, ⟨(some 100), (.load 1 false (.tmp 99)), (some (98, true)), false⟩, ⟨(some 101), (.call 39 [(.val (.int .i64 0)), (.val (.int .i64 2))] 0), (some (98, true)), false⟩, ⟨(some 102), (.mks 2 [(.int .i64 0), (.int .i64 0)] 1 [(0, (.tmp 101))]), (some (98, true)), true⟩, ⟨(some 103), (.call 41 [(.tmp 100), (.tmp 102)] 0), (some (98, true)), true⟩, ⟨(some 104), (.pick (.tmp 98) (.tmp 103) (.val (.bool false))), none, true⟩, ⟨(some 105), (.mv (.tmp 104)), none, true⟩, ⟨(some 106), (.addr 0 (.tmp 11)), (some (105, true)), false⟩, ⟨(some 107), (.load 2 true (.tmp 106)), (some (105, true)), false⟩, ⟨(some 108), (.call 39 [(.val (.int .i64 1)), (.val (.int .i64 2))] 0), (some (105, true)), false⟩, ⟨(some 109), (.eqag false [.i, .i] (.tmp 107) (.tmp 108)), (some (105, true)), true⟩, ⟨(some 110), (.pick (.tmp 105) (.tmp 109) (.val (.bool false))), none, true⟩, ⟨(some 0), (.mv (.tmp 110)), none, true⟩]) .ret)))))))
def R22 : List LRes := [(.tmp 0)]
theorem low22 : Try.f22.body.bind (lowerCode Try.prog 111) = some L22 := by kernel_rfl
theorem res22 : lowerRes Try.prog Try.f22.results.toList = some R22 := by kernel_rfl
set_option maxRecDepth 100000 in
def L23 : LC := (.seq (.reg none [⟨(some 2), (.mv (.val (.int .i64 0))), none, true⟩]) (.seq (.seq (.reg none [⟨(some 6), (.mv (.tmp 0)), none, true⟩, ⟨(some 7), (.len false (.tmp 6)), none, true⟩, ⟨(some 8), (.bin .gtr (.tmp 7) (.val (.int .i64 40))), none, true⟩]) (.cond (.tmp 8) (.seq (.reg none [⟨(some 2), (.mv (.val (.int .i64 2))), none, true⟩]) .ret) .skip)) (.seq (.seq (.reg none [⟨(some 9), (.mv (.tmp 0)), none, true⟩, ⟨(some 10), (.len false (.tmp 9)), none, true⟩, ⟨(some 11), (.mv (.val (.int .i64 0))), none, true⟩]) (.block 0 (.loop (.seq (.reg none [⟨(some 12), (.bin .lss (.tmp 11) (.tmp 10)), none, true⟩]) (.seq (.cond (.tmp 12) .skip (.exit 0)) (.seq (.block 1 (.seq (.reg none [⟨(some 13), (.mv (.tmp 11)), none, true⟩, ⟨(some 14), (.iaddrS 5 (.tmp 9) (.tmp 11)), none, true⟩, ⟨(some 15), (.load 5 true (.tmp 14)), none, true⟩, ⟨(some 4), (.alloc [(.int .i64 0), (.int .i64 0), (.int .i64 0), (.str ⟨#[]⟩), .nilsl]), none, true⟩, ⟨(some 3), (.mv (.tmp 13)), none, true⟩, ⟨none, (.store 5 (.tmp 4) (.tmp 15)), none, true⟩]) (.seq (.seq (.reg none [⟨(some 16), (.load 5 true (.tmp 4)), none, true⟩, ⟨(some 17), (.call 26 [(.tmp 16)] 0), none, true⟩, ⟨(some 5), (.mv (.tmp 17)), none, true⟩]) (.seq (.reg none [⟨(some 18), (.mv (.tmp 5)), none, true⟩, ⟨(some 19), (.bin .neq (.tmp 18) (.val (.int .i64 0))), none, true⟩]) (.cond (.tmp 19) (.seq (.reg none [⟨(some 20), (.mv (.tmp 5)), none, true⟩, ⟨(some 2), (.mv (.tmp 20)), none, true⟩]) .ret) .skip))) (.block 2 (.seq (.reg (some []) [⟨(some 22), (.mv (.tmp 0)), none, true⟩, ⟨(some 23), (.mv (.tmp 3)), none, true⟩, ⟨(some 24), (.slc 5 (.tmp 22) none (some (.tmp 23))), none, false⟩, ⟨(some 25), (.addr 0 (.tmp 4)), none, false⟩, ⟨(some 26), (.load 2 true (.tmp 25)), none, false⟩, ⟨(some 27), (.call 45 [(.tmp 24), (.tmp 26)] 0), none, true⟩, ⟨(some 28), (.bin .geq (.tmp 27) (.val (.int .i64 0))), none, true⟩, ⟨(some 21), (.mv (.tmp 28)), none, true⟩]) (.cond (.tmp 21) (.seq (.reg none [⟨(some 2), (.mv (.val (.int .i64 6))), none, true⟩]) .ret) (.seq (.reg (some []) [⟨(some 30), (.mv (.tmp 0)), none, true⟩, ⟨(some 31), (.mv (.tmp 3)), none, true⟩, ⟨(some 32), (.slc 5 (.tmp 30) none (some (.tmp 31))), none, false⟩, ⟨(some 33), (.call 42 [(.tmp 32)] 0), none, false⟩, ⟨(some 34), (.addr 0 (.tmp 4)), none, false⟩, ⟨(some 35), (.addr 0 (.tmp 34)), none, false⟩, ⟨(some 36), (.load 1 false (.tmp 35)), none, false⟩, ⟨(some 37), (.idxA 1 2 false (.tmp 33) (.tmp 36)), none, true⟩, ⟨(some 38), (.bin .add (.tmp 37) (.val (.int .i64 1))), none, true⟩, ⟨(some 39), (.addr 0 (.tmp 4)), none, false⟩, ⟨(some 40), (.addr 1 (.tmp 39)), none, false⟩, ⟨(some 41), (.load 1 false (.tmp 40)), none, false⟩, ⟨(some 42), (.bin .neq (.tmp 38) (.tmp 41)), none, true⟩, ⟨(some 29), (.mv (.tmp 42)), none, true⟩]) (.cond (.tmp 29) (.seq (.reg none [⟨(some 2), (.mv (.val (.int .i64 4))), none, true⟩]) .ret) (.seq (.reg (some []) [⟨(some 44), (.mv (.tmp 0)), none, true⟩, ⟨(some 45), (.mv (.tmp 3)), none, true⟩, ⟨(some 46), (.slc 5 (.tmp 44) none (some (.tmp 45))), none, false⟩, ⟨(some 47), (.load 5 true (.tmp 4)), none, false⟩, ⟨(some 48), (.call 46 [(.tmp 46), (.tmp 47)] 0), none, true⟩, ⟨(some 49), (.not (.tmp 48)), none, true⟩, ⟨(some 43), (.mv (.tmp 49)), none, true⟩]) (.cond (.tmp 43) (.seq (.reg none [⟨(some 2), (.mv (.val (.int .i64 5))), none, true⟩]) .ret) .skip)))))))))) (.reg none [⟨(some 50), (.bin .add (.tmp 11) (.val (.int .i64 1))), none, true⟩, ⟨(some 11), (.mv (.tmp 50)), none, true⟩]))))))) (.seq (.reg none [⟨(some 2), (.mv (.val (.int .i64 0))), none, true⟩]) .ret))))
def R23 : List LRes := [(.tmp 2)]
theorem low23 : Try.f23.body.bind (lowerCode Try.prog 51) = some L23 := by kernel_rfl
theorem res23 : lowerRes Try.prog Try.f23.results.toList = some R23 := by kernel_rfl
set_option maxRecDepth 100000 in
def L24 : LC := (.seq (.reg none [⟨(some 2), (.alloc [(.int .i64 0), .nilsl, .nilsl]), none, true⟩, ⟨(some 3), (.mv (.val (.int .i64 0))), none, true⟩]) (.seq (.seq (.reg none [⟨(some 4), (.mv (.tmp 0)), none, true⟩, ⟨(some 5), (.bin .neq (.tmp 4) (.val (.int .i64 0))), none, true⟩, ⟨(some 6), (.mv (.tmp 5)), none, true⟩, ⟨(some 7), (.mv (.tmp 0)), (some (6, true)), true⟩, ⟨(some 8), (.bin .neq (.tmp 7) (.val (.int .i64 1))), (some (6, true)), true⟩, ⟨(some 9), (.pick (.tmp 6) (.tmp 8) (.val (.bool false))), none, true⟩]) (.cond (.tmp 9) (.seq (.reg none [⟨(some 10), (.build [(.int .i64 0), .nilsl, .nilsl] []), none, true⟩, ⟨none, (.store 3 (.tmp 2) (.tmp 10)), none, true⟩, ⟨(some 3), (.mv (.val (.int .i64 3))), none, true⟩]) .ret) .skip)) (.seq (.reg none [⟨(some 11), (.mv (.tmp 0)), none, true⟩, ⟨(some 12), (.build [(.int .i64 0), .nilsl, .nilsl] [(0, (1, (.tmp 11)))]), none, true⟩, ⟨none, (.store 3 (.tmp 2) (.tmp 12)), none, true⟩, ⟨(some 3), (.mv (.val (.int .i64 0))), none, true⟩]) .ret)))
def R24 : List LRes := [(.cell 2 3 true), (.tmp 3)]
theorem low24 : Try.f24.body.bind (lowerCode Try.prog 13) = some L24 := by kernel_rfl
theorem res24 : lowerRes Try.prog Try.f24.results.toList = some R24 := by kernel_rfl
set_option maxRecDepth 100000 in
def L25 : LC := (.seq (.reg none [⟨(some 2), (.box (.tmp 0)), none, true⟩, ⟨(some 3), (.box (.tmp 1)), none, true⟩, ⟨(some 4), (.alloc [(.int .i64 0), .nilsl, .nilsl]), none, true⟩, ⟨(some 5), (.mv (.val (.int .i64 0))), none, true⟩]) (.seq (.reg none [⟨(some 7), (.load 3 true (.tmp 2)), none, true⟩, ⟨(some 8), (.call 44 [(.tmp 7)] 0), none, true⟩, ⟨(some 6), (.mv (.tmp 8)), none, true⟩]) (.seq (.seq (.reg none [⟨(some 9), (.mv (.tmp 6)), none, true⟩, ⟨(some 10), (.bin .eql (.tmp 9) (.val (.int .i64 0))), none, true⟩]) (.cond (.tmp 10) (.reg none [⟨(some 11), (.load 5 true (.tmp 3)), none, true⟩, ⟨(some 12), (.call 26 [(.tmp 11)] 0), none, true⟩, ⟨(some 6), (.mv (.tmp 12)), none, true⟩]) .skip)) (.seq (.seq (.reg none [⟨(some 13), (.mv (.tmp 6)), none, true⟩, ⟨(some 14), (.bin .neq (.tmp 13) (.val (.int .i64 0))), none, true⟩]) (.cond (.tmp 14) (.seq (.reg none [⟨(some 15), (.build [(.int .i64 0), .nilsl, .nilsl] []), none, true⟩, ⟨(some 16), (.mv (.tmp 6)), none, true⟩, ⟨none, (.store 3 (.tmp 4) (.tmp 15)), none, true⟩, ⟨(some 5), (.mv (.tmp 16)), none, true⟩]) .ret) .skip)) (.seq (.reg none [⟨(some 17), (.load 3 true (.tmp 2)), none, true⟩, ⟨(some 18), (.load 5 true (.tmp 3)), none, true⟩, ⟨(some 19), (.call 47 [(.tmp 17), (.tmp 18)] 0), none, true⟩, ⟨(some 20), (.ext 0 (.tmp 19)), none, true⟩, ⟨(some 21), (.ext 1 (.tmp 19)), none, true⟩, ⟨none, (.store 3 (.tmp 4) (.tmp 20)), none, true⟩, ⟨(some 5), (.mv (.tmp 21)), none, true⟩]) .ret)))))
def R25 : List LRes := [(.cell 4 3 true), (.tmp 5)]
theorem low25 : Try.f25.body.bind (lowerCode Try.prog 22) = some L25 := by kernel_rfl
theorem res25 : lowerRes Try.prog Try.f25.results.toList = some R25 := by kernel_rfl
set_option maxRecDepth 100000 in
def L26 : LC := (.seq (.reg none [⟨(some 1), (.box (.tmp 0)), none, true⟩, ⟨(some 2), (.mv (.val (.int .i64 0))), none, true⟩]) (.seq (.block 0 (.seq (.reg none [⟨(some 6), (.addr 0 (.tmp 1)), none, true⟩, ⟨(some 7), (.load 2 true (.tmp 6)), none, true⟩, ⟨(some 8), (.call 48 [(.tmp 7)] 0), none, true⟩, ⟨(some 9), (.not (.tmp 8)), none, true⟩, ⟨(some 10), (.mv (.tmp 9)), none, true⟩, ⟨(some 11), (.addr 2 (.tmp 1)), (some (10, false)), true⟩, ⟨(some 12), (.load 1 false (.tmp 11)), (some (10, false)), true⟩, ⟨(some 13), (.call 49 [(.tmp 12)] 0), (some (10, false)), true⟩, ⟨(some 14), (.not (.tmp 13)), (some (10, false)), true⟩, ⟨(some 15), (.pick (.tmp 10) (.val (.bool true)) (.tmp 14)), none, true⟩, ⟨(some 5), (.mv (.tmp 15)), none, true⟩]) (.cond (.tmp 5) (.seq (.reg none [⟨(some 2), (.mv (.val (.int .i64 3))), none, true⟩]) .ret) (.seq (.reg none [⟨(some 17), (.addr 3 (.tmp 1)), none, true⟩, ⟨(some 18), (.load 1 false (.tmp 17)), none, true⟩, ⟨(some 19), (.len true (.tmp 18)), none, true⟩, ⟨(some 20), (.bin .gtr (.tmp 19) (.val (.int .i64 12))), none, true⟩, ⟨(some 21), (.mv (.tmp 20)), none, true⟩, ⟨(some 22), (.addr 4 (.tmp 1)), (some (21, false)), true⟩, ⟨(some 23), (.load 1 false (.tmp 22)), (some (21, false)), true⟩, ⟨(some 24), (.len false (.tmp 23)), (some (21, false)), true⟩, ⟨(some 25), (.bin .gtr (.tmp 24) (.val (.int .i64 6))), (some (21, false)), true⟩, ⟨(some 26), (.pick (.tmp 21) (.val (.bool true)) (.tmp 25)), none, true⟩, ⟨(some 16), (.mv (.tmp 26)), none, true⟩]) (.cond (.tmp 16) (.seq (.reg none [⟨(some 2), (.mv (.val (.int .i64 2))), none, true⟩]) .ret) .skip))))) (.seq (.seq (.reg none [⟨(some 27), (.addr 4 (.tmp 1)), none, true⟩, ⟨(some 28), (.load 1 false (.tmp 27)), none, true⟩, ⟨(some 29), (.len false (.tmp 28)), none, true⟩, ⟨(some 30), (.mv (.val (.int .i64 0))), none, true⟩]) (.block 1 (.loop (.seq (.reg none [⟨(some 31), (.bin .lss (.tmp 30) (.tmp 29)), none, true⟩]) (.seq (.cond (.tmp 31) .skip (.exit 1)) (.seq (.block 2 (.seq (.reg none [⟨(some 32), (.mv (.tmp 30)), none, true⟩, ⟨(some 33), (.iaddrS 2 (.tmp 28) (.tmp 30)), none, true⟩, ⟨(some 34), (.load 2 true (.tmp 33)), none, true⟩, ⟨(some 4), (.alloc [(.int .i64 0), (.int .i64 0)]), none, true⟩, ⟨(some 3), (.mv (.tmp 32)), none, true⟩, ⟨none, (.store 2 (.tmp 4) (.tmp 34)), none, true⟩]) (.block 3 (.seq (.reg none [⟨(some 36), (.load 2 true (.tmp 4)), none, true⟩, ⟨(some 37), (.call 48 [(.tmp 36)] 0), none, true⟩, ⟨(some 38), (.not (.tmp 37)), none, true⟩, ⟨(some 35), (.mv (.tmp 38)), none, true⟩]) (.cond (.tmp 35) (.seq (.reg none [⟨(some 2), (.mv (.val (.int .i64 3))), none, true⟩]) .ret) (.seq (.seq (.reg (some []) [⟨(some 40), (.mv (.tmp 3)), none, true⟩, ⟨(some 41), (.bin .gtr (.tmp 40) (.val (.int .i64 0))), none, true⟩, ⟨(some 42), (.mv (.tmp 41)), none, true⟩, ⟨(some 43), (.addr 4 (.tmp 1)), (some (42, true)), false⟩, ⟨(some 44), (.load 1 false (.tmp 43)), (some (42, true)), false⟩, ⟨(some 45), (.mv (.tmp 3)), (some (42, true)), true⟩, ⟨(some 46), (.bin .sub (.tmp 45) (.val (.int .i64 1))), (some (42, true)), true⟩, ⟨(some 47), (.iaddrS 2 (.tmp 44) (.tmp 46)), (some (42, true)), false⟩, ⟨(some 48), (.load 2 true (.tmp 47)), (some (42, true)), false⟩, ⟨(some 49), (.load 2 true (.tmp 4)), (some (42, true)), false⟩, ⟨(some 50), (.call 50 [(.tmp 48), (.tmp 49)] 0), (some (42, true)), true⟩, ⟨(some 51), (.bin .geq (.tmp 50) (.val (.int .i64 0))), (some (42, true)), true⟩, ⟨(some 52), (.pick (.tmp 42) (.tmp 51) (.val (.bool false))), none, true⟩, ⟨(some 39), (.mv (.tmp 52)), none, true⟩]) (.cond (.tmp 39) .skip (.reg none [⟨(some 53), (.addr 0 (.tmp 4)), none, true⟩, ⟨(some 54), (.load 1 false (.tmp 53)), none, true⟩, ⟨(some 55), (.addr 0 (.tmp 1)), none, true⟩, ⟨(some 56), (.addr 0 (.tmp 55)), none, true⟩, ⟨(some 57), (.load 1 false (.tmp 56)), none, true⟩, ⟨(some 58), (.bin .eql (.tmp 54) (.tmp 57)), none, true⟩, ⟨(some 59), (.mv (.tmp 58)), none, true⟩, ⟨(some 60), (.addr 1 (.tmp 4)), (some (59, true)), true⟩, ⟨(some 61), (.load 1 false (.tmp 60)), (some (59, true)), true⟩, ⟨(some 62), (.addr 0 (.tmp 1)), (some (59, true)), true⟩, ⟨(some 63), (.addr 1 (.tmp 62)), (some (59, true)), true⟩, ⟨(some 64), (.load 1 false (.tmp 63)), (some (59, true)), true⟩, ⟨(some 65), (.bin .geq (.tmp 61) (.tmp 64)), (some (59, true)), true⟩, ⟨(some 66), (.pick (.tmp 59) (.tmp 65) (.val (.bool false))), none, true⟩, ⟨(some 39), (.mv (.tmp 66)), none, true⟩]))) (.cond (.tmp 39) (.seq (.reg none [⟨(some 2), (.mv (.val (.int .i64 4))), none, true⟩]) .ret) .skip))))))) (.reg none [⟨(some 67), (.bin .add (.tmp 30) (.val (.int .i64 1))), none, true⟩, ⟨(some 30), (.mv (.tmp 67)), none, true⟩]))))))) (.seq (.reg none [⟨(some 2), (.mv (.val (.int .i64 0))), none, true⟩]) .ret))))
def R26 : List LRes := [(.tmp 2)]
theorem low26 : Try.f26.body.bind (lowerCode Try.prog 68) = some L26 := by kernel_rfl
theorem res26 : lowerRes Try.prog Try.f26.results.toList = some R26 := by kernel_rfl
set_option maxRecDepth 100000 in
def L29 : LC := (.seq (.reg none [⟨(some 1), (.box (.tmp 0)), none, true⟩, ⟨(some 2), (.mv (.val (.int .i64 0))), none, true⟩]) (.seq (.seq (.reg none [⟨(some 5), (.load 2 true (.tmp 1)), none, true⟩, ⟨(some 6), (.mv (.val (.int .i64 0))), none, true⟩]) (.block 0 (.loop (.seq (.reg none [⟨(some 7), (.bin .lss (.tmp 6) (.val (.int .i64 2))), none, true⟩]) (.seq (.cond (.tmp 7) .skip (.exit 0)) (.seq (.block 1 (.seq (.reg none [⟨(some 8), (.idxA 1 2 false (.tmp 5) (.tmp 6)), none, true⟩, ⟨(some 4), (.mv (.tmp 8)), none, true⟩]) (.seq (.reg none [⟨(some 9), (.mv (.tmp 4)), none, true⟩, ⟨(some 10), (.bin .lss (.tmp 9) (.val (.int .i64 0))), none, true⟩, ⟨(some 11), (.mv (.tmp 10)), none, true⟩, ⟨(some 12), (.mv (.tmp 4)), (some (11, false)), true⟩, ⟨(some 13), (.bin .gtr (.tmp 12) (.val (.int .i64 20))), (some (11, false)), true⟩, ⟨(some 14), (.pick (.tmp 11) (.val (.bool true)) (.tmp 13)), none, true⟩]) (.cond (.tmp 14) (.seq (.reg none [⟨(some 2), (.mv (.val (.int .i64 3))), none, true⟩]) .ret) .skip)))) (.reg none [⟨(some 15), (.bin .add (.tmp 6) (.val (.int .i64 1))), none, true⟩, ⟨(some 6), (.mv (.tmp 15)), none, true⟩]))))))) (.seq (.reg none [⟨(some 2), (.mv (.val (.int .i64 0))), none, true⟩]) .ret)))
def R29 : List LRes := [(.tmp 2)]
theorem low29 : Try.f29.body.bind (lowerCode Try.prog 16) = some L29 := by kernel_rfl
theorem res29 : lowerRes Try.prog Try.f29.results.toList = some R29 := by kernel_rfl
set_option maxRecDepth 100000 in
def L30 : LC := (.seq (.reg none [⟨(some 3), (.box (.tmp 1)), none, true⟩, ⟨(some 4), (.mv (.val .nilsl)), none, true⟩]) (.seq (.reg none [⟨(some 5), (.alloc [.nilsl]), none, true⟩]) (.seq (.reg none [⟨(some 9), (.clo 54 [(.tmp 3), (.tmp 5)]), none, true⟩, ⟨(some 6), (.mv (.tmp 9)), none, true⟩]) (.seq (.seq (.reg none [⟨(some 10), (.mv (.tmp 0)), none, true⟩, ⟨(some 11), (.len false (.tmp 10)), none, true⟩, ⟨(some 12), (.mv (.val (.int .i64 0))), none, true⟩]) (.block 0 (.loop (.seq (.reg none [⟨(some 13), (.bin .lss (.tmp 12) (.tmp 11)), none, true⟩]) (.seq (.cond (.tmp 13) .skip (.exit 0)) (.seq (.block 1 (.seq (.reg none [⟨(some 14), (.iaddrS 5 (.tmp 10) (.tmp 12)), none, true⟩, ⟨(some 15), (.load 5 true (.tmp 14)), none, true⟩, ⟨(some 8), (.alloc [(.int .i64 0), (.int .i64 0), (.int .i64 0), (.str ⟨#[]⟩), .nilsl]), none, true⟩, ⟨none, (.store 5 (.tmp 8) (.tmp 15)), none, true⟩]) (.reg none [⟨(some 16), (.mv (.tmp 6)), none, true⟩, ⟨(some 17), (.load 5 true (.tmp 8)), none, true⟩, ⟨(some 18), (.callv (.tmp 16) [(.tmp 17)]), none, true⟩]))) (.reg none [⟨(some 19), (.bin .add (.tmp 12) (.val (.int .i64 1))), none, true⟩, ⟨(some 12), (.mv (.tmp 19)), none, true⟩]))))))) (.seq (.reg none [⟨(some 20), (.load 1 false (.tmp 5)), none, true⟩, ⟨(some 4), (.mv (.tmp 20)), none, true⟩]) .ret)))))
def R30 : List LRes := [(.tmp 4)]
theorem low30 : Try.f30.body.bind (lowerCode Try.prog 21) = some L30 := by kernel_rfl
theorem res30 : lowerRes Try.prog Try.f30.results.toList = some R30 := by kernel_rfl
set_option maxRecDepth 100000 in
def L37 : LC := (.seq (.reg none [⟨(some 0), (.mv (.val .nilsl)), none, true⟩]) (.seq (.reg none [⟨(some 1), (.call 39 [(.val (.int .i64 0)), (.val (.int .i64 1))] 0), none, true⟩, ⟨(some 2), (.build [(.int .i64 0), (.int .i64 0), (.int .i64 0), (.str ⟨#[]⟩), .nilsl] [(0, (2, (.tmp 1))), (2, (1, (.val (.int .i64 1)))), (3, (1, (.val (.str ⟨#[112, 117, 116, 32, 97, 32, 120]⟩))))]), none, true⟩, ⟨(some 3), (.call 39 [(.val (.int .i64 1)), (.val (.int .i64 1))] 0), none, true⟩, ⟨(some 4), (.build [(.int .i64 0), (.int .i64 0), (.int .i64 0), (.str ⟨#[]⟩), .nilsl] [(0, (2, (.tmp 3))), (2, (1, (.val (.int .i64 3)))), (3, (1, (.val (.str ⟨#[112, 117, 116, 32, 97, 32, 121]⟩))))]), none, true⟩, ⟨(some 5), (.call 39 [(.val (.int .i64 0)), (.val (.int .i64 2))] 0), none, true⟩, ⟨(some 6), (.call 39 [(.val (.int .i64 0)), (.val (.int .i64 1))] 0), none, true⟩, ⟨(some 7), (.mks 2 [(.int .i64 0), (.int .i64 0)] 1 [(0, (.tmp 6))]), none, true⟩, ⟨(some 8), (.build [(.int .i64 0), (.int .i64 0), (.int .i64 0), (.str ⟨#[]⟩), .nilsl] [(0, (2, (.tmp 5))), (2, (1, (.val (.int .i64 3)))), (3, (1, (.val (.str ⟨#[100, 114, 111, 112, 32, 97]⟩)))), (4, (1, (.tmp 7)))]), none, true⟩, ⟨(some 9), (.call 39 [(.val (.int .i64 1)), (.val (.int .i64 2))] 0), none, true⟩, ⟨(some 10), (.call 39 [(.val (.int .i64 0)), (.val (.int .i64 2))] 0), none, true⟩, ⟨(some 11), (.call 39 [(.val (.int .i64 1)), (.val (.int .i64 1))] 0), none, true⟩, ⟨(some 12), (.mks 2 [(.int .i64 0), (.int .i64 0)] 2 [(0, (.tmp 10)), (1, (.tmp 11))]), none, true⟩, ⟨(some 13), (.build [(.int .i64 0), (.int .i64 0), (.int .i64 0), (.str ⟨#[]⟩), .nilsl] [(0, (2, (.tmp 9))), (2, (1, (.val (.int .i64 2)))), (3, (1, (.val (.str ⟨#[112, 117, 116, 32, 98, 32, 122]⟩)))), (4, (1, (.tmp 12)))]), none, true⟩, ⟨(some 14), (.mks 5 [(.int .i64 0), (.int .i64 0), (.int .i64 0), (.str ⟨#[]⟩), .nilsl] 4 [(0, (.tmp 2)), (1, (.tmp 4)), (2, (.tmp 8)), (3, (.tmp 13))]), none, true⟩, ⟨(some 0), (.mv (.tmp 14)), none, true⟩]) .ret))
def R37 : List LRes := [(.tmp 0)]
theorem low37 : Try.f37.body.bind (lowerCode Try.prog 15) = some L37 := by kernel_rfl
theorem res37 : lowerRes Try.prog Try.f37.results.toList = some R37 := by kernel_rfl
set_option maxRecDepth 100000 in
def L38 : LC := (.seq (.reg none [⟨(some 3), (.box (.tmp 1)), none, true⟩, ⟨(some 4), (.mv (.val .nilsl)), none, true⟩, ⟨(some 5), (.mv (.val (.int .i64 0))), none, true⟩]) (.seq (.reg none [⟨(some 7), (.mv (.tmp 0)), none, true⟩, ⟨(some 8), (.call 23 [(.tmp 7)] 0), none, true⟩, ⟨(some 6), (.mv (.tmp 8)), none, true⟩]) (.seq (.seq (.reg none [⟨(some 9), (.mv (.tmp 6)), none, true⟩, ⟨(some 10), (.bin .eql (.tmp 9) (.val (.int .i64 0))), none, true⟩, ⟨(some 11), (.mv (.tmp 10)), none, true⟩, ⟨(some 12), (.mv (.tmp 0)), (some (11, true)), true⟩, ⟨(some 13), (.load 2 true (.tmp 3)), (some (11, true)), true⟩, ⟨(some 14), (.call 45 [(.tmp 12), (.tmp 13)] 0), (some (11, true)), true⟩, ⟨(some 15), (.bin .lss (.tmp 14) (.val (.int .i64 0))), (some (11, true)), true⟩, ⟨(some 16), (.pick (.tmp 11) (.tmp 15) (.val (.bool false))), none, true⟩]) (.cond (.tmp 16) (.reg none [⟨(some 6), (.mv (.val (.int .i64 5))), none, true⟩]) .skip)) (.seq (.seq (.reg none [⟨(some 17), (.mv (.tmp 6)), none, true⟩, ⟨(some 18), (.bin .neq (.tmp 17) (.val (.int .i64 0))), none, true⟩]) (.cond (.tmp 18) (.seq (.reg none [⟨(some 19), (.mv (.tmp 6)), none, true⟩, ⟨(some 4), (.mv (.val .nilsl)), none, true⟩, ⟨(some 5), (.mv (.tmp 19)), none, true⟩]) .ret) .skip)) (.seq (.reg (some []) [⟨(some 20), (.mv (.tmp 0)), none, true⟩, ⟨(some 21), (.call 60 [(.tmp 20)] 0), none, false⟩, ⟨(some 22), (.load 2 true (.tmp 3)), none, false⟩, ⟨(some 23), (.call 61 [(.tmp 21), (.tmp 22)] 0), none, true⟩, ⟨(some 4), (.mv (.tmp 23)), none, true⟩, ⟨(some 5), (.mv (.val (.int .i64 0))), none, true⟩]) .ret)))))
def R38 : List LRes := [(.tmp 4), (.tmp 5)]
theorem low38 : Try.f38.body.bind (lowerCode Try.prog 24) = some L38 := by kernel_rfl
theorem res38 : lowerRes Try.prog Try.f38.results.toList = some R38 := by kernel_rfl
set_option maxRecDepth 100000 in
def L39 : LC := (.seq (.reg none [⟨(some 4), (.alloc [(.int .i64 0), (.int .i64 0)]), none, true⟩]) (.seq (.reg none [⟨(some 5), (.mv (.tmp 0)), none, true⟩, ⟨(some 6), (.mv (.tmp 1)), none, true⟩, ⟨(some 7), (.build [(.int .i64 0), (.int .i64 0)] [(0, (1, (.tmp 5))), (1, (1, (.tmp 6)))]), none, true⟩, ⟨none, (.store 2 (.tmp 4) (.tmp 7)), none, true⟩]) .ret))
def R39 : List LRes := [(.cell 4 2 true)]
theorem low39 : Try.f39.body.bind (lowerCode Try.prog 8) = some L39 := by kernel_rfl
theorem res39 : lowerRes Try.prog Try.f39.results.toList = some R39 := by kernel_rfl
set_option maxRecDepth 100000 in
def L40 : LC := (.seq (.reg none [⟨(some 4), (.mv (.val .nilsl)), none, true⟩, ⟨(some 5), (.mv (.val (.int .i64 0))), none, true⟩]) (.seq (.reg none [⟨(some 7), (.mv (.tmp 0)), none, true⟩, ⟨(some 8), (.call 23 [(.tmp 7)] 0), none, true⟩, ⟨(some 6), (.mv (.tmp 8)), none, true⟩]) (.seq (.seq (.reg none [⟨(some 9), (.mv (.tmp 6)), none, true⟩, ⟨(some 10), (.bin .eql (.tmp 9) (.val (.int .i64 0))), none, true⟩, ⟨(some 11), (.mv (.tmp 10)), none, true⟩, ⟨(some 12), (.mv (.tmp 1)), (some (11, true)), true⟩, ⟨(some 13), (.call 49 [(.tmp 12)] 0), (some (11, true)), true⟩, ⟨(some 14), (.not (.tmp 13)), (some (11, true)), true⟩, ⟨(some 15), (.pick (.tmp 11) (.tmp 14) (.val (.bool false))), none, true⟩]) (.cond (.tmp 15) (.reg none [⟨(some 6), (.mv (.val (.int .i64 3))), none, true⟩]) .skip)) (.seq (.seq (.reg none [⟨(some 16), (.mv (.tmp 6)), none, true⟩, ⟨(some 17), (.bin .neq (.tmp 16) (.val (.int .i64 0))), none, true⟩]) (.cond (.tmp 17) (.seq (.reg none [⟨(some 18), (.mv (.tmp 6)), none, true⟩, ⟨(some 4), (.mv (.val .nilsl)), none, true⟩, ⟨(some 5), (.mv (.tmp 18)), none, true⟩]) .ret) .skip)) (.seq (.reg none [⟨(some 19), (.mv (.tmp 0)), none, true⟩, ⟨(some 20), (.mv (.tmp 1)), none, true⟩, ⟨(some 21), (.call 62 [(.tmp 19), (.tmp 20)] 0), none, true⟩, ⟨(some 4), (.mv (.tmp 21)), none, true⟩, ⟨(some 5), (.mv (.val (.int .i64 0))), none, true⟩]) .ret)))))
def R40 : List LRes := [(.tmp 4), (.tmp 5)]
theorem low40 : Try.f40.body.bind (lowerCode Try.prog 22) = some L40 := by kernel_rfl
theorem res40 : lowerRes Try.prog Try.f40.results.toList = some R40 := by kernel_rfl
set_option maxRecDepth 100000 in
def L41 : LC := (.seq (.reg none [⟨(some 4), (.mv (.val (.bool false))), none, true⟩]) (.seq (.seq (.reg none [⟨(some 6), (.mv (.tmp 0)), none, true⟩, ⟨(some 7), (.len false (.tmp 6)), none, true⟩, ⟨(some 8), (.mv (.tmp 1)), none, true⟩, ⟨(some 9), (.len false (.tmp 8)), none, true⟩, ⟨(some 10), (.bin .neq (.tmp 7) (.tmp 9)), none, true⟩]) (.cond (.tmp 10) (.seq (.reg none [⟨(some 4), (.mv (.val (.bool false))), none, true⟩]) .ret) .skip)) (.seq (.seq (.reg none [⟨(some 5), (.mv (.val (.int .i64 0))), none, true⟩]) (.block 0 (.loop (.seq (.seq (.reg none [⟨(some 11), (.mv (.tmp 5)), none, true⟩, ⟨(some 12), (.mv (.tmp 0)), none, true⟩, ⟨(some 13), (.len false (.tmp 12)), none, true⟩, ⟨(some 14), (.bin .lss (.tmp 11) (.tmp 13)), none, true⟩]) (.cond (.tmp 14) .skip (.exit 0))) (.seq (.block 1 (.seq (.reg (some []) [⟨(some 17), (.mv (.tmp 0)), none, true⟩, ⟨(some 18), (.mv (.tmp 5)), none, true⟩, ⟨(some 19), (.iaddrS 2 (.tmp 17) (.tmp 18)), none, false⟩, ⟨(some 20), (.load 2 true (.tmp 19)), none, false⟩, ⟨(some 21), (.mv (.tmp 1)), none, true⟩, ⟨(some 22), (.mv (.tmp 5)), none, true⟩, ⟨(some 23), (.iaddrS 2 (.tmp 21) (.tmp 22)), none, false⟩, ⟨(some 24), (.load 2 true (.tmp 23)), none, false⟩, ⟨(some 25), (.eqag true [.i, .i] (.tmp 20) (.tmp 24)), none, true⟩]) (.cond (.tmp 25) (.seq (.reg none [⟨(some 4), (.mv (.val (.bool false))), none, true⟩]) .ret) .skip))) (.reg none [⟨(some 15), (.mv (.tmp 5)), none, true⟩, ⟨(some 16), (.bin .add (.tmp 15) (.val (.int .i64 1))), none, true⟩, ⟨(some 5), (.mv (.tmp 16)), none, true⟩])))))) (.seq (.reg none [⟨(some 4), (.mv (.val (.bool true))), none, true⟩]) .ret))))
def R41 : List LRes := [(.tmp 4)]
theorem low41 : Try.f41.body.bind (lowerCode Try.prog 26) = some L41 := by kernel_rfl
theorem res41 : lowerRes Try.prog Try.f41.results.toList = some R41 := by kernel_rfl
set_option maxRecDepth 100000 in
def L42 : LC := (.seq (.reg none [⟨(some 2), (.alloc [(.int .i64 0), (.int .i64 0)]), none, true⟩]) (.seq (.reg none [⟨(some 3), (.alloc [(.int .i64 0), (.int .i64 0)]), none, true⟩]) (.seq (.seq (.reg none [⟨(some 6), (.mv (.tmp 0)), none, true⟩, ⟨(some 7), (.len false (.tmp 6)), none, true⟩, ⟨(some 8), (.mv (.val (.int .i64 0))), none, true⟩]) (.block 0 (.loop (.seq (.reg none [⟨(some 9), (.bin .lss (.tmp 8) (.tmp 7)), none, true⟩]) (.seq (.cond (.tmp 9) .skip (.exit 0)) (.seq (.block 1 (.seq (.reg none [⟨(some 10), (.iaddrS 5 (.tmp 6) (.tmp 8)), none, true⟩, ⟨(some 11), (.load 5 true (.tmp 10)), none, true⟩, ⟨(some 5), (.alloc [(.int .i64 0), (.int .i64 0), (.int .i64 0), (.str ⟨#[]⟩), .nilsl]), none, true⟩, ⟨none, (.store 5 (.tmp 5) (.tmp 11)), none, true⟩]) (.reg none [⟨(some 12), (.addr 0 (.tmp 5)), none, true⟩, ⟨(some 13), (.addr 0 (.tmp 12)), none, true⟩, ⟨(some 14), (.load 1 false (.tmp 13)), none, true⟩, ⟨(some 15), (.iaddrA 1 2 (.tmp 3) (.tmp 14)), none, true⟩, ⟨(some 16), (.load 1 false (.tmp 15)), none, true⟩, ⟨(some 17), (.bin .add (.tmp 16) (.val (.int .i64 1))), none, true⟩, ⟨(some 18), (.iaddrA 1 2 (.tmp 3) (.tmp 14)), none, true⟩, ⟨none, (.store 1 (.tmp 18) (.tmp 17)), none, true⟩]))) (.reg none [⟨(some 19), (.bin .add (.tmp 8) (.val (.int .i64 1))), none, true⟩, ⟨(some 8), (.mv (.tmp 19)), none, true⟩]))))))) (.seq (.reg none [⟨(some 20), (.load 2 true (.tmp 3)), none, true⟩, ⟨none, (.store 2 (.tmp 2) (.tmp 20)), none, true⟩]) .ret))))
def R42 : List LRes := [(.cell 2 2 true)]
theorem low42 : Try.f42.body.bind (lowerCode Try.prog 21) = some L42 := by kernel_rfl
theorem res42 : lowerRes Try.prog Try.f42.results.toList = some R42 := by kernel_rfl
set_option maxRecDepth 100000 in
def L43 : LC := (.seq (.reg none [⟨(some 3), (.box (.tmp 0)), none, true⟩, ⟨(some 6), (.alloc [(.int .i64 0), .nilsl, .nilsl]), none, true⟩, ⟨(some 7), (.alloc [(.int .i64 0), (.int .i64 0), (.int .i64 0), (.str ⟨#[]⟩), .nilsl]), none, true⟩, ⟨(some 8), (.mv (.val (.int .i64 0))), none, true⟩]) (.seq (.seq (.reg none [⟨(some 10), (.load 3 true (.tmp 3)), none, true⟩, ⟨(some 11), (.call 44 [(.tmp 10)] 0), none, true⟩, ⟨(some 9), (.mv (.tmp 11)), none, true⟩]) (.seq (.reg none [⟨(some 12), (.mv (.tmp 9)), none, true⟩, ⟨(some 13), (.bin .neq (.tmp 12) (.val (.int .i64 0))), none, true⟩]) (.cond (.tmp 13) (.seq (.reg none [⟨(some 14), (.build [(.int .i64 0), .nilsl, .nilsl] []), none, true⟩, ⟨(some 15), (.build [(.int .i64 0), (.int .i64 0), (.int .i64 0), (.str ⟨#[]⟩), .nilsl] []), none, true⟩, ⟨(some 16), (.mv (.tmp 9)), none, true⟩, ⟨none, (.store 3 (.tmp 6) (.tmp 14)), none, true⟩, ⟨none, (.store 5 (.tmp 7) (.tmp 15)), none, true⟩, ⟨(some 8), (.mv (.tmp 16)), none, true⟩]) .ret) .skip))) (.seq (.reg none [⟨(some 17), (.load 3 true (.tmp 3)), none, true⟩, ⟨(some 18), (.mv (.tmp 1)), none, true⟩, ⟨(some 19), (.mv (.tmp 2)), none, true⟩, ⟨(some 20), (.call 63 [(.tmp 17), (.tmp 18), (.tmp 19)] 0), none, true⟩, ⟨(some 21), (.ext 0 (.tmp 20)), none, true⟩, ⟨(some 22), (.ext 1 (.tmp 20)), none, true⟩, ⟨(some 23), (.ext 2 (.tmp 20)), none, true⟩, ⟨none, (.store 3 (.tmp 6) (.tmp 21)), none, true⟩, ⟨none, (.store 5 (.tmp 7) (.tmp 22)), none, true⟩, ⟨(some 8), (.mv (.tmp 23)), none, true⟩]) .ret)))
def R43 : List LRes := [(.cell 6 3 true), (.cell 7 5 true), (.tmp 8)]
theorem low43 : Try.f43.body.bind (lowerCode Try.prog 24) = some L43 := by kernel_rfl
theorem res43 : lowerRes Try.prog Try.f43.results.toList = some R43 := by kernel_rfl
set_option maxRecDepth 100000 in
def L44 : LC := (.seq (.reg none [⟨(some 1), (.box (.tmp 0)), none, true⟩, ⟨(some 2), (.mv (.val (.int .i64 0))), none, true⟩]) (.seq (.seq (.reg none [⟨(some 7), (.addr 0 (.tmp 1)), none, true⟩, ⟨(some 8), (.load 1 false (.tmp 7)), none, true⟩, ⟨(some 9), (.bin .neq (.tmp 8) (.val (.int .i64 0))), none, true⟩, ⟨(some 10), (.mv (.tmp 9)), none, true⟩, ⟨(some 11), (.addr 0 (.tmp 1)), (some (10, true)), true⟩, ⟨(some 12), (.load 1 false (.tmp 11)), (some (10, true)), true⟩, ⟨(some 13), (.bin .neq (.tmp 12) (.val (.int .i64 1))), (some (10, true)), true⟩, ⟨(some 14), (.pick (.tmp 10) (.tmp 13) (.val (.bool false))), none, true⟩]) (.cond (.tmp 14) (.seq (.reg none [⟨(some 2), (.mv (.val (.int .i64 3))), none, true⟩]) .ret) .skip)) (.seq (.seq (.reg none [⟨(some 15), (.addr 1 (.tmp 1)), none, true⟩, ⟨(some 16), (.load 1 false (.tmp 15)), none, true⟩, ⟨(some 17), (.call 23 [(.tmp 16)] 0), none, true⟩, ⟨(some 3), (.mv (.tmp 17)), none, true⟩]) (.seq (.reg none [⟨(some 18), (.mv (.tmp 3)), none, true⟩, ⟨(some 19), (.bin .neq (.tmp 18) (.val (.int .i64 0))), none, true⟩]) (.cond (.tmp 19) (.seq (.reg none [⟨(some 20), (.mv (.tmp 3)), none, true⟩, ⟨(some 2), (.mv (.tmp 20)), none, true⟩]) .ret) .skip))) (.seq (.seq (.reg none [⟨(some 21), (.addr 2 (.tmp 1)), none, true⟩, ⟨(some 22), (.load 1 false (.tmp 21)), none, true⟩, ⟨(some 23), (.len false (.tmp 22)), none, true⟩, ⟨(some 24), (.bin .gtr (.tmp 23) (.val (.int .i64 20))), none, true⟩]) (.cond (.tmp 24) (.seq (.reg none [⟨(some 2), (.mv (.val (.int .i64 2))), none, true⟩]) .ret) .skip)) (.seq (.seq (.reg none [⟨(some 25), (.addr 2 (.tmp 1)), none, true⟩, ⟨(some 26), (.load 1 false (.tmp 25)), none, true⟩, ⟨(some 27), (.len false (.tmp 26)), none, true⟩, ⟨(some 28), (.mv (.val (.int .i64 0))), none, true⟩]) (.block 0 (.loop (.seq (.reg none [⟨(some 29), (.bin .lss (.tmp 28) (.tmp 27)), none, true⟩]) (.seq (.cond (.tmp 29) .skip (.exit 0)) (.seq (.block 1 (.seq (.reg none [⟨(some 30), (.mv (.tmp 28)), none, true⟩, ⟨(some 31), (.iaddrS 5 (.tmp 26) (.tmp 28)), none, true⟩, ⟨(some 32), (.load 5 true (.tmp 31)), none, true⟩, ⟨(some 5), (.alloc [(.int .i64 0), (.int .i64 0), (.int .i64 0), (.str ⟨#[]⟩), .nilsl]), none, true⟩, ⟨(some 4), (.mv (.tmp 30)), none, true⟩, ⟨none, (.store 5 (.tmp 5) (.tmp 32)), none, true⟩]) (.seq (.seq (.reg none [⟨(some 33), (.load 5 true (.tmp 5)), none, true⟩, ⟨(some 34), (.call 26 [(.tmp 33)] 0), none, true⟩, ⟨(some 6), (.mv (.tmp 34)), none, true⟩]) (.seq (.reg none [⟨(some 35), (.mv (.tmp 6)), none, true⟩, ⟨(some 36), (.bin .neq (.tmp 35) (.val (.int .i64 0))), none, true⟩]) (.cond (.tmp 36) (.seq (.reg none [⟨(some 37), (.mv (.tmp 6)), none, true⟩, ⟨(some 2), (.mv (.tmp 37)), none, true⟩]) .ret) .skip))) (.seq (.reg (some []) [⟨(some 38), (.mv (.tmp 4)), none, true⟩, ⟨(some 39), (.bin .gtr (.tmp 38) (.val (.int .i64 0))), none, true⟩, ⟨(some 40), (.mv (.tmp 39)), none, true⟩, ⟨(some 41), (.addr 2 (.tmp 1)), (some (40, true)), false⟩, ⟨(some 42), (.load 1 false (.tmp 41)), (some (40, true)), false⟩, ⟨(some 43), (.mv (.tmp 4)), (some (40, true)), true⟩, ⟨(some 44), (.bin .sub (.tmp 43) (.val (.int .i64 1))), (some (40, true)), true⟩, ⟨(some 45), (.iaddrS 5 (.tmp 42) (.tmp 44)), (some (40, true)), false⟩, ⟨(some 46), (.addr 0 (.tmp 45)), (some (40, true)), false⟩, ⟨(some 47), (.load 2 true (.tmp 46)), (some (40, true)), false⟩, ⟨(some 48), (.addr 0 (.tmp 5)), (some (40, true)), false⟩, ⟨(some 49), (.load 2 true (.tmp 48)), (some (40, true)), false⟩, ⟨(some 50), (.call 64 [(.tmp 47), (.tmp 49)] 0), (some (40, true)), true⟩, ⟨(some 51), (.not (.tmp 50)), (some (40, true)), true⟩, ⟨(some 52), (.pick (.tmp 40) (.tmp 51) (.val (.bool false))), none, true⟩, ⟨(some 53), (.mv (.tmp 52)), none, true⟩, ⟨(some 54), (.addr 0 (.tmp 5)), (some (53, false)), false⟩, ⟨(some 55), (.addr 0 (.tmp 54)), (some (53, false)), false⟩, ⟨(some 56), (.load 1 false (.tmp 55)), (some (53, false)), false⟩, ⟨(some 57), (.addr 0 (.tmp 1)), (some (53, false)), false⟩, ⟨(some 58), (.load 1 false (.tmp 57)), (some (53, false)), false⟩, ⟨(some 59), (.bin .eql (.tmp 56) (.tmp 58)), (some (53, false)), true⟩, ⟨(some 60), (.pick (.tmp 53) (.val (.bool true)) (.tmp 59)), none, true⟩, ⟨(some 61), (.mv (.tmp 60)), none, true⟩, ⟨(some 62), (.addr 1 (.tmp 1)), (some (61, false)), false⟩, ⟨(some 63), (.load 1 false (.tmp 62)), (some (61, false)), false⟩, ⟨(some 64), (.addr 0 (.tmp 5)), (some (61, false)), false⟩, ⟨(some 65), (.load 2 true (.tmp 64)), (some (61, false)), false⟩, ⟨(some 66), (.call 45 [(.tmp 63), (.tmp 65)] 0), (some (61, false)), true⟩, ⟨(some 67), (.bin .geq (.tmp 66) (.val (.int .i64 0))), (some (61, false)), true⟩, ⟨(some 68), (.pick (.tmp 61) (.val (.bool true)) (.tmp 67)), none, true⟩, ⟨(some 69), (.mv (.tmp 68)), none, true⟩, ⟨(some 70), (.addr 1 (.tmp 1)), (some (69, false)), false⟩, ⟨(some 71), (.load 1 false (.tmp 70)), (some (69, false)), false⟩, ⟨(some 72), (.load 5 true (.tmp 5)), (some (69, false)), false⟩, ⟨(some 73), (.call 46 [(.tmp 71), (.tmp 72)] 0), (some (69, false)), true⟩, ⟨(some 74), (.pick (.tmp 69) (.val (.bool true)) (.tmp 73)), none, true⟩]) (.cond (.tmp 74) (.seq (.reg none [⟨(some 2), (.mv (.val (.int .i64 4))), none, true⟩]) .ret) .skip))))) (.reg none [⟨(some 75), (.bin .add (.tmp 28) (.val (.int .i64 1))), none, true⟩, ⟨(some 28), (.mv (.tmp 75)), none, true⟩]))))))) (.seq (.reg none [⟨(some 2), (.mv (.val (.int .i64 0))), none, true⟩]) .ret))))))
def R44 : List LRes := [(.tmp 2)]
theorem low44 : Try.f44.body.bind (lowerCode Try.prog 76) = some L44 := by kernel_rfl
theorem res44 : lowerRes Try.prog Try.f44.results.toList = some R44 := by kernel_rfl
set_option maxRecDepth 100000 in
def L45 : LC := (.seq (.reg none [⟨(some 3), (.box (.tmp 1)), none, true⟩, ⟨(some 4), (.mv (.val (.int .i64 0))), none, true⟩]) (.seq (.reg none [⟨(some 5), (.mv (.tmp 0)), none, true⟩, ⟨(some 6), (.clo 66 [(.tmp 3)]), none, true⟩, ⟨(some 7), (.call 65 [(.tmp 5), (.tmp 6)] 0), none, true⟩, ⟨(some 4), (.mv (.tmp 7)), none, true⟩]) .ret))
def R45 : List LRes := [(.tmp 4)]
theorem low45 : Try.f45.body.bind (lowerCode Try.prog 8) = some L45 := by kernel_rfl
theorem res45 : lowerRes Try.prog Try.f45.results.toList = some R45 := by kernel_rfl
set_option maxRecDepth 100000 in
def L46 : LC := (.seq (.reg none [⟨(some 2), (.box (.tmp 0)), none, true⟩, ⟨(some 3), (.box (.tmp 1)), none, true⟩, ⟨(some 4), (.mv (.val (.bool false))), none, true⟩]) (.seq (.reg (some []) [⟨(some 5), (.load 1 false (.tmp 2)), none, false⟩, ⟨(some 6), (.call 42 [(.tmp 5)] 0), none, false⟩, ⟨(some 7), (.addr 0 (.tmp 3)), none, false⟩, ⟨(some 8), (.addr 0 (.tmp 7)), none, false⟩, ⟨(some 9), (.load 1 false (.tmp 8)), none, false⟩, ⟨(some 10), (.idxA 1 2 false (.tmp 6) (.tmp 9)), none, true⟩, ⟨(some 11), (.bin .add (.tmp 10) (.val (.int .i64 1))), none, true⟩, ⟨(some 12), (.addr 0 (.tmp 3)), none, false⟩, ⟨(some 13), (.addr 1 (.tmp 12)), none, false⟩, ⟨(some 14), (.load 1 false (.tmp 13)), none, false⟩, ⟨(some 15), (.bin .eql (.tmp 11) (.tmp 14)), none, true⟩, ⟨(some 16), (.mv (.tmp 15)), none, true⟩, ⟨(some 17), (.addr 4 (.tmp 3)), (some (16, true)), true⟩, ⟨(some 18), (.load 1 false (.tmp 17)), (some (16, true)), true⟩, ⟨(some 19), (.clo 68 [(.tmp 2)]), (some (16, true)), true⟩, ⟨(some 20), (.call 67 [(.tmp 18), (.tmp 19)] 0), (some (16, true)), true⟩, ⟨(some 21), (.not (.tmp 20)), (some (16, true)), true⟩, ⟨(some 22), (.pick (.tmp 16) (.tmp 21) (.val (.bool false))), none, true⟩, ⟨(some 4), (.mv (.tmp 22)), none, true⟩]) .ret))
def R46 : List LRes := [(.tmp 4)]
theorem low46 : Try.f46.body.bind (lowerCode Try.prog 23) = some L46 := by kernel_rfl
theorem res46 : lowerRes Try.prog Try.f46.results.toList = some R46 := by kernel_rfl
set_option maxRecDepth 100000 in
def L47 : LC := (.seq (.reg none [⟨(some 2), (.box (.tmp 0)), none, true⟩, ⟨(some 3), (.box (.tmp 1)), none, true⟩, ⟨(some 4), (.alloc [(.int .i64 0), .nilsl, .nilsl]), none, true⟩, ⟨(some 5), (.mv (.val (.int .i64 0))), none, true⟩]) (.seq (.reg none [⟨(some 9), (.load 3 true (.tmp 2)), none, true⟩, ⟨(some 10), (.call 69 [(.tmp 9)] 0), none, true⟩, ⟨(some 11), (.build [(.int .i64 0), .nilsl, .nilsl] [(0, (3, (.tmp 10)))]), none, true⟩, ⟨(some 12), (.box (.tmp 11)), none, true⟩, ⟨(some 6), (.mv (.tmp 12)), none, true⟩]) (.seq (.seq (.reg none [⟨(some 13), (.addr 1 (.tmp 2)), none, true⟩, ⟨(some 14), (.load 1 false (.tmp 13)), none, true⟩, ⟨(some 15), (.addr 0 (.tmp 3)), none, true⟩, ⟨(some 16), (.load 2 true (.tmp 15)), none, true⟩, ⟨(some 17), (.call 45 [(.tmp 14), (.tmp 16)] 0), none, true⟩, ⟨(some 18), (.bin .geq (.tmp 17) (.val (.int .i64 0))), none, true⟩, ⟨(some 19), (.mv (.tmp 18)), none, true⟩, ⟨(some 20), (.addr 2 (.tmp 2)), (some (19, false)), true⟩, ⟨(some 21), (.load 1 false (.tmp 20)), (some (19, false)), true⟩, ⟨(some 22), (.addr 0 (.tmp 3)), (some (19, false)), true⟩, ⟨(some 23), (.load 2 true (.tmp 22)), (some (19, false)), true⟩, ⟨(some 24), (.call 45 [(.tmp 21), (.tmp 23)] 0), (some (19, false)), true⟩, ⟨(some 25), (.bin .geq (.tmp 24) (.val (.int .i64 0))), (some (19, false)), true⟩, ⟨(some 26), (.pick (.tmp 19) (.val (.bool true)) (.tmp 25)), none, true⟩]) (.cond (.tmp 26) (.seq (.reg none [⟨(some 27), (.mv (.tmp 6)), none, true⟩, ⟨(some 28), (.nilchk (.tmp 27)), none, true⟩, ⟨(some 29), (.addr 0 (.tmp 28)), none, true⟩, ⟨(some 30), (.load 3 true (.tmp 29)), none, true⟩, ⟨none, (.store 3 (.tmp 4) (.tmp 30)), none, true⟩, ⟨(some 5), (.mv (.val (.int .i64 0))), none, true⟩]) .ret) .skip)) (.seq (.seq (.reg none [⟨(some 31), (.addr 0 (.tmp 3)), none, true⟩, ⟨(some 32), (.addr 0 (.tmp 31)), none, true⟩, ⟨(some 33), (.load 1 false (.tmp 32)), none, true⟩, ⟨(some 34), (.addr 0 (.tmp 2)), none, true⟩, ⟨(some 35), (.load 1 false (.tmp 34)), none, true⟩, ⟨(some 36), (.bin .eql (.tmp 33) (.tmp 35)), none, true⟩]) (.cond (.tmp 36) (.seq (.reg none [⟨(some 37), (.build [(.int .i64 0), .nilsl, .nilsl] []), none, true⟩, ⟨none, (.store 3 (.tmp 4) (.tmp 37)), none, true⟩, ⟨(some 5), (.mv (.val (.int .i64 4))), none, true⟩]) .ret) .skip)) (.seq (.reg (some []) [⟨(some 39), (.mv (.tmp 6)), none, true⟩, ⟨(some 40), (.nilchk (.tmp 39)), none, false⟩, ⟨(some 41), (.addr 0 (.tmp 40)), none, false⟩, ⟨(some 42), (.addr 2 (.tmp 41)), none, false⟩, ⟨(some 43), (.load 1 false (.tmp 42)), none, false⟩, ⟨(some 44), (.addr 0 (.tmp 3)), none, false⟩, ⟨(some 45), (.load 2 true (.tmp 44)), none, false⟩, ⟨(some 46), (.call 70 [(.tmp 43), (.tmp 45), (.val (.clo 71 []))] 0), none, true⟩, ⟨(some 38), (.mv (.tmp 46)), none, true⟩, ⟨(some 47), (.ext 0 (.tmp 38)), none, true⟩, ⟨(some 48), (.ext 1 (.tmp 38)), none, true⟩, ⟨(some 7), (.mv (.tmp 47)), none, true⟩, ⟨(some 8), (.mv (.tmp 48)), none, true⟩]) (.seq (.reg (some []) [⟨(some 49), (.mv (.tmp 6)), none, true⟩, ⟨(some 50), (.mv (.tmp 6)), none, true⟩, ⟨(some 51), (.nilchk (.tmp 50)), none, false⟩, ⟨(some 52), (.addr 0 (.tmp 51)), none, false⟩, ⟨(some 53), (.addr 2 (.tmp 52)), none, false⟩, ⟨(some 54), (.load 1 false (.tmp 53)), none, false⟩, ⟨(some 55), (.mv (.tmp 7)), none, true⟩, ⟨(some 56), (.load 5 true (.tmp 3)), none, false⟩, ⟨(some 57), (.call 56 [(.tmp 56)] 0), none, false⟩, ⟨(some 58), (.mks 5 [(.int .i64 0), (.int .i64 0), (.int .i64 0), (.str ⟨#[]⟩), .nilsl] 1 [(0, (.tmp 57))]), none, true⟩, ⟨(some 59), (.call 72 [(.tmp 54), (.tmp 55), (.tmp 58)] 1), none, true⟩, ⟨(some 60), (.nilchk (.tmp 49)), none, true⟩, ⟨(some 61), (.addr 0 (.tmp 60)), none, true⟩, ⟨(some 62), (.addr 2 (.tmp 61)), none, true⟩, ⟨none, (.store 1 (.tmp 62) (.tmp 59)), none, true⟩]) (.seq (.reg none [⟨(some 63), (.mv (.tmp 6)), none, true⟩, ⟨(some 64), (.call 73 [(.tmp 63)] 0), none, true⟩]) (.seq (.seq (.reg none [⟨(some 65), (.mv (.tmp 6)), none, true⟩, ⟨(some 66), (.nilchk (.tmp 65)), none, true⟩, ⟨(some 67), (.addr 0 (.tmp 66)), none, true⟩, ⟨(some 68), (.addr 2 (.tmp 67)), none, true⟩, ⟨(some 69), (.load 1 false (.tmp 68)), none, true⟩, ⟨(some 70), (.len false (.tmp 69)), none, true⟩, ⟨(some 71), (.bin .gtr (.tmp 70) (.val (.int .i64 20))), none, true⟩, ⟨(some 72), (.mv (.tmp 71)), none, true⟩, ⟨(some 73), (.mv (.tmp 6)), (some (72, false)), true⟩, ⟨(some 74), (.nilchk (.tmp 73)), (some (72, false)), true⟩, ⟨(some 75), (.addr 0 (.tmp 74)), (some (72, false)), true⟩, ⟨(some 76), (.addr 1 (.tmp 75)), (some (72, false)), true⟩, ⟨(some 77), (.load 1 false (.tmp 76)), (some (72, false)), true⟩, ⟨(some 78), (.len false (.tmp 77)), (some (72, false)), true⟩, ⟨(some 79), (.bin .gtr (.tmp 78) (.val (.int .i64 40))), (some (72, false)), true⟩, ⟨(some 80), (.pick (.tmp 72) (.val (.bool true)) (.tmp 79)), none, true⟩]) (.cond (.tmp 80) (.seq (.reg none [⟨(some 81), (.build [(.int .i64 0), .nilsl, .nilsl] []), none, true⟩, ⟨none, (.store 3 (.tmp 4) (.tmp 81)), none, true⟩, ⟨(some 5), (.mv (.val (.int .i64 2))), none, true⟩]) .ret) .skip)) (.seq (.reg none [⟨(some 82), (.mv (.tmp 6)), none, true⟩, ⟨(some 83), (.nilchk (.tmp 82)), none, true⟩, ⟨(some 84), (.addr 0 (.tmp 83)), none, true⟩, ⟨(some 85), (.load 3 true (.tmp 84)), none, true⟩, ⟨none, (.store 3 (.tmp 4) (.tmp 85)), none, true⟩, ⟨(some 5), (.mv (.val (.int .i64 0))), none, true⟩]) .ret)))))))))
def R47 : List LRes := [(.cell 4 3 true), (.tmp 5)]
theorem low47 : Try.f47.body.bind (lowerCode Try.prog 86) = some L47 := by kernel_rfl
theorem res47 : lowerRes Try.prog Try.f47.results.toList = some R47 := by kernel_rfl
set_option maxRecDepth 100000 in
def L48 : LC := (.seq (.reg none [⟨(some 1), (.box (.tmp 0)), none, true⟩, ⟨(some 2), (.mv (.val (.bool false))), none, true⟩]) (.seq (.reg none [⟨(some 3), (.addr 0 (.tmp 1)), none, true⟩, ⟨(some 4), (.load 1 false (.tmp 3)), none, true⟩, ⟨(some 5), (.call 74 [(.tmp 4), (.val (.int .i64 0)), (.val (.int .i64 1))] 0), none, true⟩, ⟨(some 6), (.mv (.tmp 5)), none, true⟩, ⟨(some 7), (.addr 1 (.tmp 1)), (some (6, true)), true⟩, ⟨(some 8), (.load 1 false (.tmp 7)), (some (6, true)), true⟩, ⟨(some 9), (.call 74 [(.tmp 8), (.val (.int .i64 1)), (.val (.int .i64 20))] 0), (some (6, true)), true⟩, ⟨(some 10), (.pick (.tmp 6) (.tmp 9) (.val (.bool false))), none, true⟩, ⟨(some 2), (.mv (.tmp 10)), none, true⟩]) .ret))
def R48 : List LRes := [(.tmp 2)]
theorem low48 : Try.f48.body.bind (lowerCode Try.prog 11) = some L48 := by kernel_rfl
theorem res48 : lowerRes Try.prog Try.f48.results.toList = some R48 := by kernel_rfl
set_option maxRecDepth 100000 in
def L49 : LC := (.seq (.reg none [⟨(some 2), (.mv (.val (.bool false))), none, true⟩]) (.seq (.reg none [⟨(some 3), (.mv (.tmp 0)), none, true⟩, ⟨(some 4), (.call 74 [(.tmp 3), (.val (.int .i64 1)), (.val (.int .i64 7))] 0), none, true⟩, ⟨(some 2), (.mv (.tmp 4)), none, true⟩]) .ret))
def R49 : List LRes := [(.tmp 2)]
theorem low49 : Try.f49.body.bind (lowerCode Try.prog 5) = some L49 := by kernel_rfl
theorem res49 : lowerRes Try.prog Try.f49.results.toList = some R49 := by kernel_rfl
set_option maxRecDepth 100000 in
def L50 : LC := (.seq (.reg none [⟨(some 2), (.box (.tmp 0)), none, true⟩, ⟨(some 3), (.box (.tmp 1)), none, true⟩, ⟨(some 4), (.mv (.val (.int .i64 0))), none, true⟩]) (.seq (.reg none [⟨(some 5), (.mv (.val (.clo 75 []))), none, true⟩]) (.seq (.seq (.reg none [⟨(some 7), (.mv (.tmp 5)), none, true⟩, ⟨(some 8), (.addr 0 (.tmp 2)), none, true⟩, ⟨(some 9), (.load 1 false (.tmp 8)), none, true⟩, ⟨(some 10), (.addr 0 (.tmp 3)), none, true⟩, ⟨(some 11), (.load 1 false (.tmp 10)), none, true⟩, ⟨(some 12), (.callv (.tmp 7) [(.tmp 9), (.tmp 11)]), none, true⟩, ⟨(some 6), (.mv (.tmp 12)), none, true⟩]) (.seq (.reg none [⟨(some 13), (.mv (.tmp 6)), none, true⟩, ⟨(some 14), (.bin .neq (.tmp 13) (.val (.int .i64 0))), none, true⟩]) (.cond (.tmp 14) (.seq (.reg none [⟨(some 15), (.mv (.tmp 6)), none, true⟩, ⟨(some 4), (.mv (.tmp 15)), none, true⟩]) .ret) .skip))) (.seq (.reg none [⟨(some 16), (.mv (.tmp 5)), none, true⟩, ⟨(some 17), (.addr 1 (.tmp 2)), none, true⟩, ⟨(some 18), (.load 1 false (.tmp 17)), none, true⟩, ⟨(some 19), (.addr 1 (.tmp 3)), none, true⟩, ⟨(some 20), (.load 1 false (.tmp 19)), none, true⟩, ⟨(some 21), (.callv (.tmp 16) [(.tmp 18), (.tmp 20)]), none, true⟩, ⟨(some 4), (.mv (.tmp 21)), none, true⟩]) .ret))))
def R50 : List LRes := [(.tmp 4)]
theorem low50 : Try.f50.body.bind (lowerCode Try.prog 22) = some L50 := by kernel_rfl
theorem res50 : lowerRes Try.prog Try.f50.results.toList = some R50 := by kernel_rfl
set_option maxRecDepth 100000 in
def L52 : LC := (.block 0 (.loop (.seq (.seq (.reg none [⟨(some 6), (.load 1 false (.tmp 1)), none, true⟩, ⟨(some 7), (.bin .neq (.tmp 6) (.val (.str ⟨#[]⟩))), none, true⟩]) (.cond (.tmp 7) .skip (.exit 0))) (.block 1 (.seq (.reg none [⟨(some 9), (.load 1 false (.tmp 1)), none, true⟩, ⟨(some 10), (.call 53 [(.tmp 9)] 0), none, true⟩, ⟨(some 8), (.mv (.tmp 10)), none, true⟩, ⟨(some 11), (.ext 0 (.tmp 8)), none, true⟩, ⟨(some 12), (.ext 1 (.tmp 8)), none, true⟩, ⟨(some 13), (.ext 2 (.tmp 8)), none, true⟩, ⟨(some 3), (.alloc [(.int .i64 0), (.int .i64 0), (.int .i64 0), (.str ⟨#[]⟩), .nilsl]), none, true⟩, ⟨none, (.store 5 (.tmp 3) (.tmp 11)), none, true⟩, ⟨(some 4), (.mv (.tmp 12)), none, true⟩, ⟨(some 5), (.mv (.tmp 13)), none, true⟩]) (.seq (.seq (.reg none [⟨(some 14), (.mv (.tmp 0)), none, true⟩, ⟨(some 15), (.load 5 true (.tmp 3)), none, true⟩, ⟨(some 16), (.mv (.tmp 5)), none, true⟩, ⟨(some 17), (.bin .eql (.tmp 16) (.val (.int .i64 0))), none, true⟩, ⟨(some 18), (.callv (.tmp 14) [(.tmp 15), (.tmp 17)]), none, true⟩, ⟨(some 19), (.not (.tmp 18)), none, true⟩, ⟨(some 20), (.mv (.tmp 19)), none, true⟩, ⟨(some 21), (.mv (.tmp 5)), (some (20, false)), true⟩, ⟨(some 22), (.bin .neq (.tmp 21) (.val (.int .i64 0))), (some (20, false)), true⟩, ⟨(some 23), (.pick (.tmp 20) (.val (.bool true)) (.tmp 22)), none, true⟩]) (.cond (.tmp 23) .ret .skip)) (.reg none [⟨(some 24), (.load 1 false (.tmp 1)), none, true⟩, ⟨(some 25), (.mv (.tmp 4)), none, true⟩, ⟨(some 26), (.slc 0 (.tmp 24) (some (.tmp 25)) none), none, true⟩, ⟨none, (.store 1 (.tmp 1) (.tmp 26)), none, true⟩])))))))
theorem low52 : Try.f52.body.bind (lowerCode Try.prog 27) = some L52 := by kernel_rfl
set_option maxRecDepth 100000 in
def L54 : LC := (.seq (.reg none [⟨(some 3), (.box (.tmp 0)), none, true⟩]) (.seq (.reg none [⟨(some 4), (.load 2 true (.tmp 1)), none, true⟩, ⟨(some 5), (.addr 0 (.tmp 3)), none, true⟩, ⟨(some 6), (.load 2 true (.tmp 5)), none, true⟩, ⟨(some 7), (.call 55 [(.tmp 4), (.tmp 6)] 0), none, true⟩, ⟨(some 8), (.not (.tmp 7)), none, true⟩]) (.cond (.tmp 8) (.reg (some []) [⟨(some 9), (.load 1 false (.tmp 2)), none, false⟩, ⟨(some 10), (.load 5 true (.tmp 3)), none, false⟩, ⟨(some 11), (.call 56 [(.tmp 10)] 0), none, false⟩, ⟨(some 12), (.mks 5 [(.int .i64 0), (.int .i64 0), (.int .i64 0), (.str ⟨#[]⟩), .nilsl] 1 [(0, (.tmp 11))]), none, true⟩, ⟨(some 13), (.append 44 5 64 (.tmp 9) (.tmp 12)), none, true⟩, ⟨none, (.store 1 (.tmp 2) (.tmp 13)), none, true⟩]) .skip)))
def R54 : List LRes := []
theorem low54 : Try.f54.body.bind (lowerCode Try.prog 14) = some L54 := by kernel_rfl
theorem res54 : lowerRes Try.prog Try.f54.results.toList = some R54 := by kernel_rfl
set_option maxRecDepth 100000 in
def L55 : LC := (.seq (.reg none [⟨(some 2), (.box (.tmp 0)), none, true⟩, ⟨(some 3), (.box (.tmp 1)), none, true⟩, ⟨(some 4), (.mv (.val (.bool false))), none, true⟩]) (.seq (.reg (some []) [⟨(some 5), (.addr 1 (.tmp 3)), none, false⟩, ⟨(some 6), (.load 1 false (.tmp 5)), none, false⟩, ⟨(some 7), (.addr 0 (.tmp 3)), none, false⟩, ⟨(some 8), (.load 1 false (.tmp 7)), none, false⟩, ⟨(some 9), (.iaddrA 1 2 (.tmp 2) (.tmp 8)), none, true⟩, ⟨(some 10), (.load 1 false (.tmp 9)), none, false⟩, ⟨(some 11), (.bin .leq (.tmp 6) (.tmp 10)), none, true⟩, ⟨(some 4), (.mv (.tmp 11)), none, true⟩]) .ret))
def R55 : List LRes := [(.tmp 4)]
theorem low55 : Try.f55.body.bind (lowerCode Try.prog 12) = some L55 := by kernel_rfl
theorem res55 : lowerRes Try.prog Try.f55.results.toList = some R55 := by kernel_rfl
set_option maxRecDepth 100000 in
def L56 : LC := (.seq (.reg none [⟨(some 1), (.box (.tmp 0)), none, true⟩, ⟨(some 2), (.alloc [(.int .i64 0), (.int .i64 0), (.int .i64 0), (.str ⟨#[]⟩), .nilsl]), none, true⟩]) (.seq (.reg none [⟨(some 3), (.addr 4 (.tmp 1)), none, true⟩, ⟨(some 4), (.load 1 false (.tmp 3)), none, true⟩, ⟨(some 5), (.call 77 [(.tmp 4)] 0), none, true⟩, ⟨(some 6), (.addr 4 (.tmp 1)), none, true⟩, ⟨none, (.store 1 (.tmp 6) (.tmp 5)), none, true⟩]) (.seq (.reg none [⟨(some 7), (.load 5 true (.tmp 1)), none, true⟩, ⟨none, (.store 5 (.tmp 2) (.tmp 7)), none, true⟩]) .ret)))
def R56 : List LRes := [(.cell 2 5 true)]
theorem low56 : Try.f56.body.bind (lowerCode Try.prog 8) = some L56 := by kernel_rfl
theorem res56 : lowerRes Try.prog Try.f56.results.toList = some R56 := by kernel_rfl
set_option maxRecDepth 100000 in
def L60 : LC := (.seq (.reg none [⟨(some 2), (.mv (.val .nilp)), none, true⟩]) (.seq (.reg none [⟨(some 9), (.mv (.tmp 0)), none, true⟩, ⟨(some 10), (.build [.nilsl, .nilsl] [(0, (1, (.tmp 9)))]), none, true⟩, ⟨(some 11), (.box (.tmp 10)), none, true⟩, ⟨(some 3), (.mv (.tmp 11)), none, true⟩]) (.seq (.seq (.reg none [⟨(some 12), (.mv (.tmp 0)), none, true⟩, ⟨(some 13), (.len false (.tmp 12)), none, true⟩, ⟨(some 14), (.mv (.val (.int .i64 0))), none, true⟩]) (.block 0 (.loop (.seq (.reg none [⟨(some 15), (.bin .lss (.tmp 14) (.tmp 13)), none, true⟩]) (.seq (.cond (.tmp 15) .skip (.exit 0)) (.seq (.block 1 (.seq (.reg none [⟨(some 16), (.iaddrS 5 (.tmp 12) (.tmp 14)), none, true⟩, ⟨(some 17), (.load 5 true (.tmp 16)), none, true⟩, ⟨(some 5), (.alloc [(.int .i64 0), (.int .i64 0), (.int .i64 0), (.str ⟨#[]⟩), .nilsl]), none, true⟩, ⟨none, (.store 5 (.tmp 5) (.tmp 17)), none, true⟩]) (.seq (.reg none [⟨(some 6), (.mv (.val .nilsl)), none, true⟩]) (.seq (.seq (.reg none [⟨(some 18), (.addr 4 (.tmp 5)), none, true⟩, ⟨(some 19), (.load 1 false (.tmp 18)), none, true⟩, ⟨(some 20), (.len false (.tmp 19)), none, true⟩, ⟨(some 21), (.mv (.val (.int .i64 0))), none, true⟩]) (.block 2 (.loop (.seq (.reg none [⟨(some 22), (.bin .lss (.tmp 21) (.tmp 20)), none, true⟩]) (.seq (.cond (.tmp 22) .skip (.exit 2)) (.seq (.block 3 (.seq (.reg none [⟨(some 23), (.iaddrS 2 (.tmp 19) (.tmp 21)), none, true⟩, ⟨(some 24), (.load 2 true (.tmp 23)), none, true⟩, ⟨(some 8), (.alloc [(.int .i64 0), (.int .i64 0)]), none, true⟩, ⟨none, (.store 2 (.tmp 8) (.tmp 24)), none, true⟩]) (.reg (some [(3, 5)]) [⟨(some 25), (.mv (.tmp 6)), none, true⟩, ⟨(some 26), (.load 2 true (.tmp 8)), none, false⟩, ⟨(some 27), (.mks 2 [(.int .i64 0), (.int .i64 0)] 1 [(0, (.tmp 26))]), none, true⟩, ⟨(some 28), (.append 41 2 16 (.tmp 25) (.tmp 27)), none, false⟩, ⟨(some 29), (.mv (.tmp 3)), none, true⟩, ⟨(some 30), (.load 2 true (.tmp 8)), none, false⟩, ⟨(some 31), (.call 61 [(.tmp 29), (.tmp 30)] 0), none, true⟩, ⟨(some 32), (.append 41 2 16 (.tmp 28) (.tmp 31)), none, true⟩, ⟨(some 6), (.mv (.tmp 32)), none, true⟩]))) (.reg none [⟨(some 33), (.bin .add (.tmp 21) (.val (.int .i64 1))), none, true⟩, ⟨(some 21), (.mv (.tmp 33)), none, true⟩]))))))) (.seq (.reg none [⟨(some 34), (.mv (.tmp 6)), none, true⟩, ⟨(some 35), (.call 78 [(.tmp 34), (.val (.clo 50 []))] 1), none, true⟩]) (.reg (some [(2, 6), (3, 6), (4, 6)]) [⟨(some 36), (.mv (.tmp 3)), none, true⟩, ⟨(some 37), (.mv (.tmp 3)), none, true⟩, ⟨(some 38), (.nilchk (.tmp 37)), none, false⟩, ⟨(some 39), (.addr 1 (.tmp 38)), none, false⟩, ⟨(some 40), (.load 1 false (.tmp 39)), none, false⟩, ⟨(some 41), (.mv (.tmp 6)), none, true⟩, ⟨(some 42), (.call 79 [(.tmp 41)] 1), none, false⟩, ⟨(some 43), (.mks 1 [.nilsl] 1 [(0, (.tmp 42))]), none, true⟩, ⟨(some 44), (.append 42 1 24 (.tmp 40) (.tmp 43)), none, true⟩, ⟨(some 45), (.nilchk (.tmp 36)), none, true⟩, ⟨(some 46), (.addr 1 (.tmp 45)), none, true⟩, ⟨none, (.store 1 (.tmp 46) (.tmp 44)), none, true⟩])))))) (.reg none [⟨(some 47), (.bin .add (.tmp 14) (.val (.int .i64 1))), none, true⟩, ⟨(some 14), (.mv (.tmp 47)), none, true⟩]))))))) (.seq (.reg none [⟨(some 48), (.mv (.tmp 3)), none, true⟩, ⟨(some 2), (.mv (.tmp 48)), none, true⟩]) .ret))))
def R60 : List LRes := [(.tmp 2)]
theorem low60 : Try.f60.body.bind (lowerCode Try.prog 49) = some L60 := by kernel_rfl
theorem res60 : lowerRes Try.prog Try.f60.results.toList = some R60 := by kernel_rfl
set_option maxRecDepth 100000 in
def L61 : LC := (.seq (.reg none [⟨(some 3), (.box (.tmp 1)), none, true⟩, ⟨(some 4), (.mv (.val .nilsl)), none, true⟩]) (.seq (.reg (some []) [⟨(some 5), (.mv (.tmp 0)), none, true⟩, ⟨(some 6), (.nilchk (.tmp 5)), none, false⟩, ⟨(some 7), (.addr 1 (.tmp 6)), none, false⟩, ⟨(some 8), (.load 1 false (.tmp 7)), none, false⟩, ⟨(some 9), (.mv (.tmp 0)), none, true⟩, ⟨(some 10), (.nilchk (.tmp 9)), none, false⟩, ⟨(some 11), (.addr 0 (.tmp 10)), none, false⟩, ⟨(some 12), (.load 1 false (.tmp 11)), none, false⟩, ⟨(some 13), (.load 2 true (.tmp 3)), none, false⟩, ⟨(some 14), (.call 45 [(.tmp 12), (.tmp 13)] 0), none, false⟩, ⟨(some 15), (.iaddrS 1 (.tmp 8) (.tmp 14)), none, true⟩, ⟨(some 16), (.load 1 false (.tmp 15)), none, true⟩, ⟨(some 4), (.mv (.tmp 16)), none, true⟩]) .ret))
def R61 : List LRes := [(.tmp 4)]
theorem low61 : Try.f61.body.bind (lowerCode Try.prog 17) = some L61 := by kernel_rfl
theorem res61 : lowerRes Try.prog Try.f61.results.toList = some R61 := by kernel_rfl
set_option maxRecDepth 100000 in
def L62 : LC := (.seq (.reg none [⟨(some 4), (.mv (.val .nilsl)), none, true⟩]) (.seq (.reg none [⟨(some 10), (.mv (.tmp 0)), none, true⟩, ⟨(some 11), (.call 60 [(.tmp 10)] 0), none, true⟩, ⟨(some 5), (.alloc [.nilp]), none, true⟩, ⟨none, (.store 1 (.tmp 5) (.tmp 11)), none, true⟩]) (.seq (.reg none [⟨(some 12), (.mv (.tmp 0)), none, true⟩, ⟨(some 13), (.mv (.tmp 1)), none, true⟩, ⟨(some 14), (.call 80 [(.tmp 12), (.tmp 13)] 0), none, true⟩, ⟨(some 6), (.mv (.tmp 14)), none, true⟩]) (.seq (.reg none [⟨(some 7), (.mv (.val .nilsl)), none, true⟩]) (.seq (.seq (.reg none [⟨(some 15), (.mv (.tmp 6)), none, true⟩, ⟨(some 16), (.len false (.tmp 15)), none, true⟩, ⟨(some 17), (.mv (.val (.int .i64 0))), none, true⟩]) (.block 0 (.loop (.seq (.reg none [⟨(some 18), (.bin .lss (.tmp 17) (.tmp 16)), none, true⟩]) (.seq (.cond (.tmp 18) .skip (.exit 0)) (.seq (.block 1 (.seq (.reg none [⟨(some 19), (.iaddrS 5 (.tmp 15) (.tmp 17)), none, true⟩, ⟨(some 20), (.load 5 true (.tmp 19)), none, true⟩, ⟨(some 9), (.alloc [(.int .i64 0), (.int .i64 0), (.int .i64 0), (.str ⟨#[]⟩), .nilsl]), none, true⟩, ⟨none, (.store 5 (.tmp 9) (.tmp 20)), none, true⟩]) (.seq (.reg none [⟨(some 21), (.mv (.tmp 6)), none, true⟩, ⟨(some 22), (.clo 82 [(.tmp 5), (.tmp 9)]), none, true⟩, ⟨(some 23), (.call 81 [(.tmp 21), (.tmp 22)] 0), none, true⟩, ⟨(some 24), (.not (.tmp 23)), none, true⟩]) (.cond (.tmp 24) (.reg none [⟨(some 25), (.mv (.tmp 7)), none, true⟩, ⟨(some 26), (.addr 0 (.tmp 9)), none, true⟩, ⟨(some 27), (.load 2 true (.tmp 26)), none, true⟩, ⟨(some 28), (.mks 2 [(.int .i64 0), (.int .i64 0)] 1 [(0, (.tmp 27))]), none, true⟩, ⟨(some 29), (.append 41 2 16 (.tmp 25) (.tmp 28)), none, true⟩, ⟨(some 7), (.mv (.tmp 29)), none, true⟩]) .skip)))) (.reg none [⟨(some 30), (.bin .add (.tmp 17) (.val (.int .i64 1))), none, true⟩, ⟨(some 17), (.mv (.tmp 30)), none, true⟩]))))))) (.seq (.reg none [⟨(some 31), (.mv (.tmp 7)), none, true⟩, ⟨(some 32), (.call 78 [(.tmp 31), (.val (.clo 50 []))] 1), none, true⟩]) (.seq (.reg none [⟨(some 33), (.mv (.tmp 7)), none, true⟩, ⟨(some 4), (.mv (.tmp 33)), none, true⟩]) .ret)))))))
def R62 : List LRes := [(.tmp 4)]
theorem low62 : Try.f62.body.bind (lowerCode Try.prog 34) = some L62 := by kernel_rfl
theorem res62 : lowerRes Try.prog Try.f62.results.toList = some R62 := by kernel_rfl
set_option maxRecDepth 100000 in
def L63 : LC := (.seq (.reg none [⟨(some 3), (.box (.tmp 0)), none, true⟩, ⟨(some 6), (.alloc [(.int .i64 0), .nilsl, .nilsl]), none, true⟩, ⟨(some 7), (.alloc [(.int .i64 0), (.int .i64 0), (.int .i64 0), (.str ⟨#[]⟩), .nilsl]), none, true⟩, ⟨(some 8), (.mv (.val (.int .i64 0))), none, true⟩]) (.seq (.seq (.reg none [⟨(some 12), (.mv (.tmp 1)), none, true⟩, ⟨(some 13), (.call 49 [(.tmp 12)] 0), none, true⟩, ⟨(some 14), (.not (.tmp 13)), none, true⟩]) (.cond (.tmp 14) (.seq (.reg none [⟨(some 15), (.build [(.int .i64 0), .nilsl, .nilsl] []), none, true⟩, ⟨(some 16), (.build [(.int .i64 0), (.int .i64 0), (.int .i64 0), (.str ⟨#[]⟩), .nilsl] []), none, true⟩, ⟨none, (.store 3 (.tmp 6) (.tmp 15)), none, true⟩, ⟨none, (.store 5 (.tmp 7) (.tmp 16)), none, true⟩, ⟨(some 8), (.mv (.val (.int .i64 3))), none, true⟩]) .ret) .skip)) (.seq (.reg (some []) [⟨(some 17), (.addr 1 (.tmp 3)), none, false⟩, ⟨(some 18), (.load 1 false (.tmp 17)), none, false⟩, ⟨(some 19), (.call 42 [(.tmp 18)] 0), none, false⟩, ⟨(some 20), (.addr 0 (.tmp 3)), none, false⟩, ⟨(some 21), (.load 1 false (.tmp 20)), none, false⟩, ⟨(some 22), (.idxA 1 2 false (.tmp 19) (.tmp 21)), none, true⟩, ⟨(some 23), (.bin .add (.tmp 22) (.val (.int .i64 1))), none, true⟩, ⟨(some 9), (.mv (.tmp 23)), none, true⟩]) (.seq (.reg (some [(0, 11), (1, 11), (6, 11), (7, 11), (9, 11)]) [⟨(some 24), (.addr 0 (.tmp 3)), none, false⟩, ⟨(some 25), (.load 1 false (.tmp 24)), none, false⟩, ⟨(some 26), (.mv (.tmp 9)), none, true⟩, ⟨(some 27), (.build [(.int .i64 0), (.int .i64 0)] [(0, (1, (.tmp 25))), (1, (1, (.tmp 26)))]), none, true⟩, ⟨(some 28), (.mv (.tmp 1)), none, true⟩, ⟨(some 29), (.mv (.tmp 2)), none, true⟩, ⟨(some 30), (.addr 1 (.tmp 3)), none, false⟩, ⟨(some 31), (.load 1 false (.tmp 30)), none, false⟩, ⟨(some 32), (.mv (.tmp 1)), none, true⟩, ⟨(some 33), (.call 62 [(.tmp 31), (.tmp 32)] 0), none, false⟩, ⟨(some 34), (.build [(.int .i64 0), (.int .i64 0), (.int .i64 0), (.str ⟨#[]⟩), .nilsl] [(0, (2, (.tmp 27))), (2, (1, (.tmp 28))), (3, (1, (.tmp 29))), (4, (1, (.tmp 33)))]), none, true⟩, ⟨(some 10), (.alloc [(.int .i64 0), (.int .i64 0), (.int .i64 0), (.str ⟨#[]⟩), .nilsl]), none, false⟩, ⟨none, (.store 5 (.tmp 10) (.tmp 34)), none, true⟩]) (.seq (.seq (.reg none [⟨(some 35), (.mv (.tmp 2)), none, true⟩, ⟨(some 36), (.len true (.tmp 35)), none, true⟩, ⟨(some 37), (.bin .gtr (.tmp 36) (.val (.int .i64 12))), none, true⟩, ⟨(some 38), (.mv (.tmp 37)), none, true⟩, ⟨(some 39), (.mv (.tmp 9)), (some (38, false)), true⟩, ⟨(some 40), (.bin .gtr (.tmp 39) (.val (.int .i64 20))), (some (38, false)), true⟩, ⟨(some 41), (.pick (.tmp 38) (.val (.bool true)) (.tmp 40)), none, true⟩, ⟨(some 42), (.mv (.tmp 41)), none, true⟩, ⟨(some 43), (.addr 1 (.tmp 3)), (some (42, false)), true⟩, ⟨(some 44), (.load 1 false (.tmp 43)), (some (42, false)), true⟩, ⟨(some 45), (.len false (.tmp 44)), (some (42, false)), true⟩, ⟨(some 46), (.bin .eql (.tmp 45) (.val (.int .i64 40))), (some (42, false)), true⟩, ⟨(some 47), (.pick (.tmp 42) (.val (.bool true)) (.tmp 46)), none, true⟩, ⟨(some 48), (.mv (.tmp 47)), none, true⟩, ⟨(some 49), (.addr 4 (.tmp 10)), (some (48, false)), true⟩, ⟨(some 50), (.load 1 false (.tmp 49)), (some (48, false)), true⟩, ⟨(some 51), (.len false (.tmp 50)), (some (48, false)), true⟩, ⟨(some 52), (.bin .gtr (.tmp 51) (.val (.int .i64 6))), (some (48, false)), true⟩, ⟨(some 53), (.pick (.tmp 48) (.val (.bool true)) (.tmp 52)), none, true⟩]) (.cond (.tmp 53) (.seq (.reg none [⟨(some 54), (.build [(.int .i64 0), .nilsl, .nilsl] []), none, true⟩, ⟨(some 55), (.build [(.int .i64 0), (.int .i64 0), (.int .i64 0), (.str ⟨#[]⟩), .nilsl] []), none, true⟩, ⟨none, (.store 3 (.tmp 6) (.tmp 54)), none, true⟩, ⟨none, (.store 5 (.tmp 7) (.tmp 55)), none, true⟩, ⟨(some 8), (.mv (.val (.int .i64 2))), none, true⟩]) .ret) .skip)) (.seq (.reg none [⟨(some 56), (.load 3 true (.tmp 3)), none, true⟩, ⟨(some 57), (.call 69 [(.tmp 56)] 0), none, true⟩, ⟨(some 58), (.build [(.int .i64 0), .nilsl, .nilsl] [(0, (3, (.tmp 57)))]), none, true⟩, ⟨(some 59), (.box (.tmp 58)), none, true⟩, ⟨(some 11), (.mv (.tmp 59)), none, true⟩]) (.seq (.reg (some []) [⟨(some 60), (.mv (.tmp 11)), none, true⟩, ⟨(some 61), (.mv (.tmp 11)), none, true⟩, ⟨(some 62), (.nilchk (.tmp 61)), none, false⟩, ⟨(some 63), (.addr 0 (.tmp 62)), none, false⟩, ⟨(some 64), (.addr 1 (.tmp 63)), none, false⟩, ⟨(some 65), (.load 1 false (.tmp 64)), none, false⟩, ⟨(some 66), (.load 5 true (.tmp 10)), none, false⟩, ⟨(some 67), (.mks 5 [(.int .i64 0), (.int .i64 0), (.int .i64 0), (.str ⟨#[]⟩), .nilsl] 1 [(0, (.tmp 66))]), none, true⟩, ⟨(some 68), (.append 44 5 64 (.tmp 65) (.tmp 67)), none, true⟩, ⟨(some 69), (.nilchk (.tmp 60)), none, true⟩, ⟨(some 70), (.addr 0 (.tmp 69)), none, true⟩, ⟨(some 71), (.addr 1 (.tmp 70)), none, true⟩, ⟨none, (.store 1 (.tmp 71) (.tmp 68)), none, true⟩]) (.seq (.reg none [⟨(some 72), (.mv (.tmp 11)), none, true⟩, ⟨(some 73), (.call 73 [(.tmp 72)] 0), none, true⟩]) (.seq (.reg (some []) [⟨(some 74), (.mv (.tmp 11)), none, true⟩, ⟨(some 75), (.nilchk (.tmp 74)), none, false⟩, ⟨(some 76), (.addr 0 (.tmp 75)), none, false⟩, ⟨(some 77), (.load 3 true (.tmp 76)), none, false⟩, ⟨(some 78), (.load 5 true (.tmp 10)), none, false⟩, ⟨(some 79), (.call 56 [(.tmp 78)] 0), none, false⟩, ⟨none, (.store 3 (.tmp 6) (.tmp 77)), none, true⟩, ⟨none, (.store 5 (.tmp 7) (.tmp 79)), none, true⟩, ⟨(some 8), (.mv (.val (.int .i64 0))), none, true⟩]) .ret)))))))))
def R63 : List LRes := [(.cell 6 3 true), (.cell 7 5 true), (.tmp 8)]
theorem low63 : Try.f63.body.bind (lowerCode Try.prog 80) = some L63 := by kernel_rfl
theorem res63 : lowerRes Try.prog Try.f63.results.toList = some R63 := by kernel_rfl
set_option maxRecDepth 100000 in
def L64 : LC := (.seq (.reg none [⟨(some 2), (.box (.tmp 0)), none, true⟩, ⟨(some 3), (.box (.tmp 1)), none, true⟩, ⟨(some 4), (.mv (.val (.bool false))), none, true⟩]) (.seq (.reg none [⟨(some 5), (.load 2 true (.tmp 2)), none, true⟩, ⟨(some 6), (.load 2 true (.tmp 3)), none, true⟩, ⟨(some 7), (.call 50 [(.tmp 5), (.tmp 6)] 0), none, true⟩, ⟨(some 8), (.bin .lss (.tmp 7) (.val (.int .i64 0))), none, true⟩, ⟨(some 4), (.mv (.tmp 8)), none, true⟩]) .ret))
def R64 : List LRes := [(.tmp 4)]
theorem low64 : Try.f64.body.bind (lowerCode Try.prog 9) = some L64 := by kernel_rfl
theorem res64 : lowerRes Try.prog Try.f64.results.toList = some R64 := by kernel_rfl
set_option maxRecDepth 100000 in
def L65 : LC := (.seq (.reg none [⟨(some 4), (.mv (.val (.int .i64 0))), none, true⟩]) (.seq (.seq (.reg none [⟨(some 6), (.mv (.tmp 0)), none, true⟩, ⟨(some 7), (.len false (.tmp 6)), none, true⟩, ⟨(some 8), (.mv (.val (.int .i64 0))), none, true⟩]) (.block 0 (.loop (.seq (.reg none [⟨(some 9), (.bin .lss (.tmp 8) (.tmp 7)), none, true⟩]) (.seq (.cond (.tmp 9) .skip (.exit 0)) (.seq (.block 1 (.seq (.reg none [⟨(some 10), (.mv (.tmp 8)), none, true⟩, ⟨(some 5), (.mv (.tmp 10)), none, true⟩]) (.seq (.reg none [⟨(some 11), (.mv (.tmp 1)), none, true⟩, ⟨(some 12), (.mv (.tmp 0)), none, true⟩, ⟨(some 13), (.mv (.tmp 5)), none, true⟩, ⟨(some 14), (.iaddrS 5 (.tmp 12) (.tmp 13)), none, true⟩, ⟨(some 15), (.load 5 true (.tmp 14)), none, true⟩, ⟨(some 16), (.callv (.tmp 11) [(.tmp 15)]), none, true⟩]) (.cond (.tmp 16) (.seq (.reg none [⟨(some 17), (.mv (.tmp 5)), none, true⟩, ⟨(some 4), (.mv (.tmp 17)), none, true⟩]) .ret) .skip)))) (.reg none [⟨(some 18), (.bin .add (.tmp 8) (.val (.int .i64 1))), none, true⟩, ⟨(some 8), (.mv (.tmp 18)), none, true⟩]))))))) (.seq (.reg none [⟨(some 4), (.mv (.val (.int .i64 (-1)))), none, true⟩]) .ret)))
def R65 : List LRes := [(.tmp 4)]
theorem low65 : Try.f65.body.bind (lowerCode Try.prog 19) = some L65 := by kernel_rfl
theorem res65 : lowerRes Try.prog Try.f65.results.toList = some R65 := by kernel_rfl
set_option maxRecDepth 100000 in
def L66 : LC := (.seq (.reg none [⟨(some 2), (.box (.tmp 0)), none, true⟩, ⟨(some 3), (.mv (.val (.bool false))), none, true⟩]) (.seq (.reg none [⟨(some 4), (.addr 0 (.tmp 2)), none, true⟩, ⟨(some 5), (.load 2 true (.tmp 4)), none, true⟩, ⟨(some 6), (.load 2 true (.tmp 1)), none, true⟩, ⟨(some 7), (.eqag false [.i, .i] (.tmp 5) (.tmp 6)), none, true⟩, ⟨(some 3), (.mv (.tmp 7)), none, true⟩]) .ret))
def R66 : List LRes := [(.tmp 3)]
theorem low66 : Try.f66.body.bind (lowerCode Try.prog 8) = some L66 := by kernel_rfl
theorem res66 : lowerRes Try.prog Try.f66.results.toList = some R66 := by kernel_rfl
set_option maxRecDepth 100000 in
def L67 : LC := (.seq (.reg none [⟨(some 4), (.mv (.val (.bool false))), none, true⟩]) (.seq (.reg none [⟨(some 5), (.mv (.tmp 0)), none, true⟩, ⟨(some 6), (.mv (.tmp 1)), none, true⟩, ⟨(some 7), (.call 84 [(.tmp 5), (.tmp 6)] 0), none, true⟩, ⟨(some 8), (.bin .geq (.tmp 7) (.val (.int .i64 0))), none, true⟩, ⟨(some 4), (.mv (.tmp 8)), none, true⟩]) .ret))
def R67 : List LRes := [(.tmp 4)]
theorem low67 : Try.f67.body.bind (lowerCode Try.prog 9) = some L67 := by kernel_rfl
theorem res67 : lowerRes Try.prog Try.f67.results.toList = some R67 := by kernel_rfl
set_option maxRecDepth 100000 in
def L68 : LC := (.seq (.reg none [⟨(some 2), (.box (.tmp 0)), none, true⟩, ⟨(some 3), (.mv (.val (.bool false))), none, true⟩]) (.seq (.reg none [⟨(some 4), (.load 1 false (.tmp 1)), none, true⟩, ⟨(some 5), (.load 2 true (.tmp 2)), none, true⟩, ⟨(some 6), (.call 45 [(.tmp 4), (.tmp 5)] 0), none, true⟩, ⟨(some 7), (.bin .lss (.tmp 6) (.val (.int .i64 0))), none, true⟩, ⟨(some 3), (.mv (.tmp 7)), none, true⟩]) .ret))
def R68 : List LRes := [(.tmp 3)]
theorem low68 : Try.f68.body.bind (lowerCode Try.prog 8) = some L68 := by kernel_rfl
theorem res68 : lowerRes Try.prog Try.f68.results.toList = some R68 := by kernel_rfl
set_option maxRecDepth 100000 in
def L69 : LC := (.seq (.reg none [⟨(some 1), (.box (.tmp 0)), none, true⟩, ⟨(some 2), (.alloc [(.int .i64 0), .nilsl, .nilsl]), none, true⟩]) (.seq (.reg (some [(0, 4), (1, 4), (4, 5), (4, 6), (0, 7), (1, 7)]) [⟨(some 3), (.addr 0 (.tmp 1)), none, false⟩, ⟨(some 4), (.load 1 false (.tmp 3)), none, false⟩, ⟨(some 5), (.addr 1 (.tmp 1)), none, false⟩, ⟨(some 6), (.load 1 false (.tmp 5)), none, false⟩, ⟨(some 7), (.call 85 [(.tmp 6)] 2), none, false⟩, ⟨(some 8), (.addr 2 (.tmp 1)), none, false⟩, ⟨(some 9), (.load 1 false (.tmp 8)), none, false⟩, ⟨(some 10), (.call 85 [(.tmp 9)] 2), none, false⟩, ⟨(some 11), (.build [(.int .i64 0), .nilsl, .nilsl] [(0, (1, (.tmp 4))), (1, (1, (.tmp 7))), (2, (1, (.tmp 10)))]), none, true⟩, ⟨none, (.store 3 (.tmp 2) (.tmp 11)), none, true⟩]) .ret))
def R69 : List LRes := [(.cell 2 3 true)]
theorem low69 : Try.f69.body.bind (lowerCode Try.prog 12) = some L69 := by kernel_rfl
theorem res69 : lowerRes Try.prog Try.f69.results.toList = some R69 := by kernel_rfl
set_option maxRecDepth 100000 in
def L70 : LC := (.seq (.reg none [⟨(some 4), (.box (.tmp 1)), none, true⟩, ⟨(some 6), (.mv (.val (.int .i64 0))), none, true⟩, ⟨(some 7), (.mv (.val (.bool false))), none, true⟩]) (.seq (.reg none [⟨(some 12), (.mv (.tmp 0)), none, true⟩, ⟨(some 13), (.len false (.tmp 12)), none, true⟩, ⟨(some 8), (.mv (.tmp 13)), none, true⟩]) (.seq (.reg none [⟨(some 14), (.mv (.tmp 8)), none, true⟩, ⟨(some 9), (.mv (.val (.int .i64 0))), none, true⟩, ⟨(some 10), (.mv (.tmp 14)), none, true⟩]) (.seq (.block 0 (.loop (.seq (.seq (.reg none [⟨(some 15), (.mv (.tmp 9)), none, true⟩, ⟨(some 16), (.mv (.tmp 10)), none, true⟩, ⟨(some 17), (.bin .lss (.tmp 15) (.tmp 16)), none, true⟩]) (.cond (.tmp 17) .skip (.exit 0))) (.block 1 (.seq (.reg none [⟨(some 18), (.mv (.tmp 9)), none, true⟩, ⟨(some 19), (.mv (.tmp 10)), none, true⟩, ⟨(some 20), (.bin .add (.tmp 18) (.tmp 19)), none, true⟩, ⟨(some 21), (.conv .u64 (.tmp 20)), none, true⟩, ⟨(some 22), (.bin .shr (.tmp 21) (.val (.int .u64 1))), none, true⟩, ⟨(some 23), (.conv .i64 (.tmp 22)), none, true⟩, ⟨(some 11), (.mv (.tmp 23)), none, true⟩]) (.seq (.reg (some []) [⟨(some 24), (.mv (.tmp 2)), none, true⟩, ⟨(some 25), (.mv (.tmp 0)), none, true⟩, ⟨(some 26), (.mv (.tmp 11)), none, true⟩, ⟨(some 27), (.iaddrS 5 (.tmp 25) (.tmp 26)), none, false⟩, ⟨(some 28), (.load 5 true (.tmp 27)), none, false⟩, ⟨(some 29), (.load 2 true (.tmp 4)), none, false⟩, ⟨(some 30), (.callv (.tmp 24) [(.tmp 28), (.tmp 29)]), none, true⟩, ⟨(some 31), (.bin .lss (.tmp 30) (.val (.int .i64 0))), none, true⟩]) (.cond (.tmp 31) (.reg none [⟨(some 32), (.mv (.tmp 11)), none, true⟩, ⟨(some 33), (.bin .add (.tmp 32) (.val (.int .i64 1))), none, true⟩, ⟨(some 9), (.mv (.tmp 33)), none, true⟩]) (.reg none [⟨(some 34), (.mv (.tmp 11)), none, true⟩, ⟨(some 10), (.mv (.tmp 34)), none, true⟩])))))))) (.seq (.reg (some []) [⟨(some 35), (.mv (.tmp 9)), none, true⟩, ⟨(some 36), (.mv (.tmp 9)), none, true⟩, ⟨(some 37), (.mv (.tmp 8)), none, true⟩, ⟨(some 38), (.bin .lss (.tmp 36) (.tmp 37)), none, true⟩, ⟨(some 39), (.mv (.tmp 38)), none, true⟩, ⟨(some 40), (.mv (.tmp 2)), (some (39, true)), true⟩, ⟨(some 41), (.mv (.tmp 0)), (some (39, true)), true⟩, ⟨(some 42), (.mv (.tmp 9)), (some (39, true)), true⟩, ⟨(some 43), (.iaddrS 5 (.tmp 41) (.tmp 42)), (some (39, true)), false⟩, ⟨(some 44), (.load 5 true (.tmp 43)), (some (39, true)), false⟩, ⟨(some 45), (.load 2 true (.tmp 4)), (some (39, true)), false⟩, ⟨(some 46), (.callv (.tmp 40) [(.tmp 44), (.tmp 45)]), (some (39, true)), true⟩, ⟨(some 47), (.bin .eql (.tmp 46) (.val (.int .i64 0))), (some (39, true)), true⟩, ⟨(some 48), (.pick (.tmp 39) (.tmp 47) (.val (.bool false))), none, true⟩, ⟨(some 6), (.mv (.tmp 35)), none, true⟩, ⟨(some 7), (.mv (.tmp 48)), none, true⟩]) .ret)))))
def R70 : List LRes := [(.tmp 6), (.tmp 7)]
theorem low70 : Try.f70.body.bind (lowerCode Try.prog 49) = some L70 := by kernel_rfl
theorem res70 : lowerRes Try.prog Try.f70.results.toList = some R70 := by kernel_rfl
set_option maxRecDepth 100000 in
def L71 : LC := (.seq (.reg none [⟨(some 2), (.box (.tmp 0)), none, true⟩, ⟨(some 3), (.box (.tmp 1)), none, true⟩, ⟨(some 4), (.mv (.val (.int .i64 0))), none, true⟩]) (.seq (.reg none [⟨(some 5), (.addr 0 (.tmp 2)), none, true⟩, ⟨(some 6), (.load 2 true (.tmp 5)), none, true⟩, ⟨(some 7), (.load 2 true (.tmp 3)), none, true⟩, ⟨(some 8), (.call 50 [(.tmp 6), (.tmp 7)] 0), none, true⟩, ⟨(some 4), (.mv (.tmp 8)), none, true⟩]) .ret))
def R71 : List LRes := [(.tmp 4)]
theorem low71 : Try.f71.body.bind (lowerCode Try.prog 9) = some L71 := by kernel_rfl
theorem res71 : lowerRes Try.prog Try.f71.results.toList = some R71 := by kernel_rfl
set_option maxRecDepth 100000 in
def L73 : LC := (.seq (.reg none [⟨(some 1), (.box (.tmp 0)), none, true⟩]) (.seq (.reg none [⟨(some 4), (.clo 88 [(.tmp 1)]), none, true⟩, ⟨(some 2), (.mv (.tmp 4)), none, true⟩]) (.seq (.reg none [⟨(some 5), (.load 1 false (.tmp 1)), none, true⟩, ⟨(some 6), (.nilchk (.tmp 5)), none, true⟩, ⟨(some 7), (.addr 0 (.tmp 6)), none, true⟩, ⟨(some 8), (.addr 2 (.tmp 7)), none, true⟩, ⟨(some 9), (.load 1 false (.tmp 8)), none, true⟩, ⟨(some 10), (.mv (.tmp 2)), none, true⟩, ⟨(some 11), (.call 65 [(.tmp 9), (.tmp 10)] 0), none, true⟩, ⟨(some 3), (.mv (.tmp 11)), none, true⟩]) (.block 0 (.loop (.seq (.seq (.reg none [⟨(some 12), (.mv (.tmp 3)), none, true⟩, ⟨(some 13), (.bin .geq (.tmp 12) (.val (.int .i64 0))), none, true⟩]) (.cond (.tmp 13) .skip (.exit 0))) (.seq (.block 1 (.seq (.reg (some [(0, 15)]) [⟨(some 21), (.load 1 false (.tmp 1)), none, false⟩, ⟨(some 22), (.load 1 false (.tmp 1)), none, false⟩, ⟨(some 23), (.nilchk (.tmp 22)), none, false⟩, ⟨(some 24), (.addr 0 (.tmp 23)), none, false⟩, ⟨(some 25), (.addr 1 (.tmp 24)), none, false⟩, ⟨(some 26), (.load 1 false (.tmp 25)), none, false⟩, ⟨(some 27), (.load 1 false (.tmp 1)), none, false⟩, ⟨(some 28), (.nilchk (.tmp 27)), none, false⟩, ⟨(some 29), (.addr 0 (.tmp 28)), none, false⟩, ⟨(some 30), (.addr 2 (.tmp 29)), none, false⟩, ⟨(some 31), (.load 1 false (.tmp 30)), none, false⟩, ⟨(some 32), (.mv (.tmp 3)), none, true⟩, ⟨(some 33), (.iaddrS 5 (.tmp 31) (.tmp 32)), none, false⟩, ⟨(some 34), (.load 5 true (.tmp 33)), none, false⟩, ⟨(some 35), (.mks 5 [(.int .i64 0), (.int .i64 0), (.int .i64 0), (.str ⟨#[]⟩), .nilsl] 1 [(0, (.tmp 34))]), none, true⟩, ⟨(some 36), (.append 44 5 64 (.tmp 26) (.tmp 35)), none, false⟩, ⟨(some 37), (.nilchk (.tmp 21)), none, true⟩, ⟨(some 38), (.addr 0 (.tmp 37)), none, true⟩, ⟨(some 39), (.addr 1 (.tmp 38)), none, true⟩, ⟨none, (.store 1 (.tmp 39) (.tmp 36)), none, true⟩]) (.reg (some [(0, 9)]) [⟨(some 40), (.load 1 false (.tmp 1)), none, false⟩, ⟨(some 41), (.load 1 false (.tmp 1)), none, false⟩, ⟨(some 42), (.nilchk (.tmp 41)), none, false⟩, ⟨(some 43), (.addr 0 (.tmp 42)), none, false⟩, ⟨(some 44), (.addr 2 (.tmp 43)), none, false⟩, ⟨(some 45), (.load 1 false (.tmp 44)), none, false⟩, ⟨(some 46), (.mv (.tmp 3)), none, true⟩, ⟨(some 47), (.mv (.tmp 3)), none, true⟩, ⟨(some 48), (.bin .add (.tmp 47) (.val (.int .i64 1))), none, true⟩, ⟨(some 49), (.call 89 [(.tmp 45), (.tmp 46), (.tmp 48)] 1), none, false⟩, ⟨(some 50), (.nilchk (.tmp 40)), none, true⟩, ⟨(some 51), (.addr 0 (.tmp 50)), none, true⟩, ⟨(some 52), (.addr 2 (.tmp 51)), none, true⟩, ⟨none, (.store 1 (.tmp 52) (.tmp 49)), none, true⟩]))) (.reg none [⟨(some 14), (.load 1 false (.tmp 1)), none, true⟩, ⟨(some 15), (.nilchk (.tmp 14)), none, true⟩, ⟨(some 16), (.addr 0 (.tmp 15)), none, true⟩, ⟨(some 17), (.addr 2 (.tmp 16)), none, true⟩, ⟨(some 18), (.load 1 false (.tmp 17)), none, true⟩, ⟨(some 19), (.mv (.tmp 2)), none, true⟩, ⟨(some 20), (.call 65 [(.tmp 18), (.tmp 19)] 0), none, true⟩, ⟨(some 3), (.mv (.tmp 20)), none, true⟩]))))))))
def R73 : List LRes := []
theorem low73 : Try.f73.body.bind (lowerCode Try.prog 53) = some L73 := by kernel_rfl
theorem res73 : lowerRes Try.prog Try.f73.results.toList = some R73 := by kernel_rfl
set_option maxRecDepth 100000 in
def L74 : LC := (.seq (.reg none [⟨(some 6), (.mv (.val (.bool false))), none, true⟩]) (.seq (.reg none [⟨(some 7), (.mv (.tmp 0)), none, true⟩, ⟨(some 8), (.mv (.tmp 1)), none, true⟩, ⟨(some 9), (.bin .geq (.tmp 7) (.tmp 8)), none, true⟩, ⟨(some 10), (.mv (.tmp 9)), none, true⟩, ⟨(some 11), (.mv (.tmp 0)), (some (10, true)), true⟩, ⟨(some 12), (.mv (.tmp 2)), (some (10, true)), true⟩, ⟨(some 13), (.bin .leq (.tmp 11) (.tmp 12)), (some (10, true)), true⟩, ⟨(some 14), (.pick (.tmp 10) (.tmp 13) (.val (.bool false))), none, true⟩, ⟨(some 6), (.mv (.tmp 14)), none, true⟩]) .ret))
def R74 : List LRes := [(.tmp 6)]
theorem low74 : Try.f74.body.bind (lowerCode Try.prog 15) = some L74 := by kernel_rfl
theorem res74 : lowerRes Try.prog Try.f74.results.toList = some R74 := by kernel_rfl
set_option maxRecDepth 100000 in
def L75 : LC := (.seq (.reg none [⟨(some 4), (.mv (.val (.int .i64 0))), none, true⟩]) (.seq (.block 0 (.seq (.reg none [⟨(some 6), (.mv (.tmp 0)), none, true⟩, ⟨(some 7), (.mv (.tmp 1)), none, true⟩, ⟨(some 8), (.bin .lss (.tmp 6) (.tmp 7)), none, true⟩, ⟨(some 5), (.mv (.tmp 8)), none, true⟩]) (.cond (.tmp 5) (.seq (.reg none [⟨(some 4), (.mv (.val (.int .i64 (-1)))), none, true⟩]) .ret) (.seq (.reg none [⟨(some 10), (.mv (.tmp 0)), none, true⟩, ⟨(some 11), (.mv (.tmp 1)), none, true⟩, ⟨(some 12), (.bin .gtr (.tmp 10) (.tmp 11)), none, true⟩, ⟨(some 9), (.mv (.tmp 12)), none, true⟩]) (.cond (.tmp 9) (.seq (.reg none [⟨(some 4), (.mv (.val (.int .i64 1))), none, true⟩]) .ret) .skip))))) (.seq (.reg none [⟨(some 4), (.mv (.val (.int .i64 0))), none, true⟩]) .ret)))
def R75 : List LRes := [(.tmp 4)]
theorem low75 : Try.f75.body.bind (lowerCode Try.prog 13) = some L75 := by kernel_rfl
theorem res75 : lowerRes Try.prog Try.f75.results.toList = some R75 := by kernel_rfl
set_option maxRecDepth 100000 in
def L77 : LC := (.seq (.reg none [⟨(some 2), (.mv (.val .nilsl)), none, true⟩]) (.seq (.seq (.reg none [⟨(some 3), (.mv (.tmp 0)), none, true⟩, ⟨(some 4), (.isnil false (.tmp 3)), none, true⟩]) (.cond (.tmp 4) (.seq (.reg none [⟨(some 2), (.mv (.val .nilsl)), none, true⟩]) .ret) .skip)) (.seq (.reg none [⟨(some 5), (.mk0 41 2), none, true⟩, ⟨(some 6), (.mv (.tmp 0)), none, true⟩, ⟨(some 7), (.append 41 2 16 (.tmp 5) (.tmp 6)), none, true⟩, ⟨(some 2), (.mv (.tmp 7)), none, true⟩]) .ret)))
def R77 : List LRes := [(.tmp 2)]
theorem low77 : Try.f77.body.bind (lowerCode Try.prog 8) = some L77 := by kernel_rfl
theorem res77 : lowerRes Try.prog Try.f77.results.toList = some R77 := by kernel_rfl
set_option maxRecDepth 100000 in
def L80 : LC := (.seq (.reg none [⟨(some 4), (.mv (.val .nilsl)), none, true⟩]) (.seq (.reg none [⟨(some 5), (.mv (.val .nilsl)), none, true⟩]) (.seq (.seq (.reg none [⟨(some 8), (.mv (.tmp 0)), none, true⟩, ⟨(some 9), (.len false (.tmp 8)), none, true⟩, ⟨(some 10), (.mv (.val (.int .i64 0))), none, true⟩]) (.block 0 (.loop (.seq (.reg none [⟨(some 11), (.bin .lss (.tmp 10) (.tmp 9)), none, true⟩]) (.seq (.cond (.tmp 11) .skip (.exit 0)) (.seq (.block 1 (.seq (.reg none [⟨(some 12), (.iaddrS 5 (.tmp 8) (.tmp 10)), none, true⟩, ⟨(some 13), (.load 5 true (.tmp 12)), none, true⟩, ⟨(some 7), (.alloc [(.int .i64 0), (.int .i64 0), (.int .i64 0), (.str ⟨#[]⟩), .nilsl]), none, true⟩, ⟨none, (.store 5 (.tmp 7) (.tmp 13)), none, true⟩]) (.seq (.reg none [⟨(some 14), (.addr 2 (.tmp 7)), none, true⟩, ⟨(some 15), (.load 1 false (.tmp 14)), none, true⟩, ⟨(some 16), (.mv (.tmp 1)), none, true⟩, ⟨(some 17), (.bin .and (.tmp 15) (.tmp 16)), none, true⟩, ⟨(some 18), (.bin .neq (.tmp 17) (.val (.int .i64 0))), none, true⟩]) (.cond (.tmp 18) (.reg none [⟨(some 19), (.mv (.tmp 5)), none, true⟩, ⟨(some 20), (.load 5 true (.tmp 7)), none, true⟩, ⟨(some 21), (.mks 5 [(.int .i64 0), (.int .i64 0), (.int .i64 0), (.str ⟨#[]⟩), .nilsl] 1 [(0, (.tmp 20))]), none, true⟩, ⟨(some 22), (.append 44 5 64 (.tmp 19) (.tmp 21)), none, true⟩, ⟨(some 5), (.mv (.tmp 22)), none, true⟩]) .skip)))) (.reg none [⟨(some 23), (.bin .add (.tmp 10) (.val (.int .i64 1))), none, true⟩, ⟨(some 10), (.mv (.tmp 23)), none, true⟩]))))))) (.seq (.reg none [⟨(some 24), (.mv (.tmp 5)), none, true⟩, ⟨(some 4), (.mv (.tmp 24)), none, true⟩]) .ret))))
def R80 : List LRes := [(.tmp 4)]
theorem low80 : Try.f80.body.bind (lowerCode Try.prog 25) = some L80 := by kernel_rfl
theorem res80 : lowerRes Try.prog Try.f80.results.toList = some R80 := by kernel_rfl
set_option maxRecDepth 100000 in
def L81 : LC := (.seq (.reg none [⟨(some 4), (.mv (.val (.bool false))), none, true⟩]) (.seq (.reg none [⟨(some 5), (.mv (.tmp 0)), none, true⟩, ⟨(some 6), (.mv (.tmp 1)), none, true⟩, ⟨(some 7), (.call 65 [(.tmp 5), (.tmp 6)] 0), none, true⟩, ⟨(some 8), (.bin .geq (.tmp 7) (.val (.int .i64 0))), none, true⟩, ⟨(some 4), (.mv (.tmp 8)), none, true⟩]) .ret))
def R81 : List LRes := [(.tmp 4)]
theorem low81 : Try.f81.body.bind (lowerCode Try.prog 9) = some L81 := by kernel_rfl
theorem res81 : lowerRes Try.prog Try.f81.results.toList = some R81 := by kernel_rfl
set_option maxRecDepth 100000 in
def L82 : LC := (.seq (.reg none [⟨(some 3), (.box (.tmp 0)), none, true⟩, ⟨(some 4), (.mv (.val (.bool false))), none, true⟩]) (.seq (.reg none [⟨(some 5), (.load 1 false (.tmp 1)), none, true⟩, ⟨(some 6), (.addr 0 (.tmp 2)), none, true⟩, ⟨(some 7), (.load 2 true (.tmp 6)), none, true⟩, ⟨(some 8), (.addr 0 (.tmp 3)), none, true⟩, ⟨(some 9), (.load 2 true (.tmp 8)), none, true⟩, ⟨(some 10), (.call 83 [(.tmp 5), (.tmp 7), (.tmp 9)] 0), none, true⟩, ⟨(some 4), (.mv (.tmp 10)), none, true⟩]) .ret))
def R82 : List LRes := [(.tmp 4)]
theorem low82 : Try.f82.body.bind (lowerCode Try.prog 11) = some L82 := by kernel_rfl
theorem res82 : lowerRes Try.prog Try.f82.results.toList = some R82 := by kernel_rfl
set_option maxRecDepth 100000 in
def L83 : LC := (.seq (.reg none [⟨(some 4), (.box (.tmp 1)), none, true⟩, ⟨(some 5), (.box (.tmp 2)), none, true⟩, ⟨(some 6), (.mv (.val (.bool false))), none, true⟩]) (.seq (.reg (some []) [⟨(some 7), (.mv (.tmp 0)), none, true⟩, ⟨(some 8), (.load 2 true (.tmp 5)), none, false⟩, ⟨(some 9), (.call 61 [(.tmp 7), (.tmp 8)] 0), none, false⟩, ⟨(some 10), (.load 2 true (.tmp 4)), none, false⟩, ⟨(some 11), (.call 94 [(.tmp 9), (.tmp 10)] 0), none, true⟩, ⟨(some 6), (.mv (.tmp 11)), none, true⟩]) .ret))
def R83 : List LRes := [(.tmp 6)]
theorem low83 : Try.f83.body.bind (lowerCode Try.prog 12) = some L83 := by kernel_rfl
theorem res83 : lowerRes Try.prog Try.f83.results.toList = some R83 := by kernel_rfl
set_option maxRecDepth 100000 in
def L84 : LC := (.seq (.reg none [⟨(some 4), (.mv (.val (.int .i64 0))), none, true⟩]) (.seq (.seq (.reg none [⟨(some 6), (.mv (.tmp 0)), none, true⟩, ⟨(some 7), (.len false (.tmp 6)), none, true⟩, ⟨(some 8), (.mv (.val (.int .i64 0))), none, true⟩]) (.block 0 (.loop (.seq (.reg none [⟨(some 9), (.bin .lss (.tmp 8) (.tmp 7)), none, true⟩]) (.seq (.cond (.tmp 9) .skip (.exit 0)) (.seq (.block 1 (.seq (.reg none [⟨(some 10), (.mv (.tmp 8)), none, true⟩, ⟨(some 5), (.mv (.tmp 10)), none, true⟩]) (.seq (.reg none [⟨(some 11), (.mv (.tmp 1)), none, true⟩, ⟨(some 12), (.mv (.tmp 0)), none, true⟩, ⟨(some 13), (.mv (.tmp 5)), none, true⟩, ⟨(some 14), (.iaddrS 2 (.tmp 12) (.tmp 13)), none, true⟩, ⟨(some 15), (.load 2 true (.tmp 14)), none, true⟩, ⟨(some 16), (.callv (.tmp 11) [(.tmp 15)]), none, true⟩]) (.cond (.tmp 16) (.seq (.reg none [⟨(some 17), (.mv (.tmp 5)), none, true⟩, ⟨(some 4), (.mv (.tmp 17)), none, true⟩]) .ret) .skip)))) (.reg none [⟨(some 18), (.bin .add (.tmp 8) (.val (.int .i64 1))), none, true⟩, ⟨(some 8), (.mv (.tmp 18)), none, true⟩]))))))) (.seq (.reg none [⟨(some 4), (.mv (.val (.int .i64 (-1)))), none, true⟩]) .ret)))
def R84 : List LRes := [(.tmp 4)]
theorem low84 : Try.f84.body.bind (lowerCode Try.prog 19) = some L84 := by kernel_rfl
theorem res84 : lowerRes Try.prog Try.f84.results.toList = some R84 := by kernel_rfl
set_option maxRecDepth 100000 in
def L85 : LC := (.seq (.reg none [⟨(some 2), (.mv (.val .nilsl)), none, true⟩]) (.seq (.reg none [⟨(some 3), (.mv (.val .nilsl)), none, true⟩]) (.seq (.seq (.reg none [⟨(some 6), (.mv (.tmp 0)), none, true⟩, ⟨(some 7), (.len false (.tmp 6)), none, true⟩, ⟨(some 8), (.mv (.val (.int .i64 0))), none, true⟩]) (.block 0 (.loop (.seq (.reg none [⟨(some 9), (.bin .lss (.tmp 8) (.tmp 7)), none, true⟩]) (.seq (.cond (.tmp 9) .skip (.exit 0)) (.seq (.block 1 (.seq (.reg none [⟨(some 10), (.iaddrS 5 (.tmp 6) (.tmp 8)), none, true⟩, ⟨(some 11), (.load 5 true (.tmp 10)), none, true⟩, ⟨(some 5), (.alloc [(.int .i64 0), (.int .i64 0), (.int .i64 0), (.str ⟨#[]⟩), .nilsl]), none, true⟩, ⟨none, (.store 5 (.tmp 5) (.tmp 11)), none, true⟩]) (.reg none [⟨(some 12), (.mv (.tmp 3)), none, true⟩, ⟨(some 13), (.load 5 true (.tmp 5)), none, true⟩, ⟨(some 14), (.call 56 [(.tmp 13)] 0), none, true⟩, ⟨(some 15), (.mks 5 [(.int .i64 0), (.int .i64 0), (.int .i64 0), (.str ⟨#[]⟩), .nilsl] 1 [(0, (.tmp 14))]), none, true⟩, ⟨(some 16), (.append 44 5 64 (.tmp 12) (.tmp 15)), none, true⟩, ⟨(some 3), (.mv (.tmp 16)), none, true⟩]))) (.reg none [⟨(some 17), (.bin .add (.tmp 8) (.val (.int .i64 1))), none, true⟩, ⟨(some 8), (.mv (.tmp 17)), none, true⟩]))))))) (.seq (.reg none [⟨(some 18), (.mv (.tmp 3)), none, true⟩, ⟨(some 2), (.mv (.tmp 18)), none, true⟩]) .ret))))
def R85 : List LRes := [(.tmp 2)]
theorem low85 : Try.f85.body.bind (lowerCode Try.prog 19) = some L85 := by kernel_rfl
theorem res85 : lowerRes Try.prog Try.f85.results.toList = some R85 := by kernel_rfl
set_option maxRecDepth 100000 in
def L88 : LC := (.seq (.reg none [⟨(some 2), (.box (.tmp 0)), none, true⟩, ⟨(some 3), (.mv (.val (.bool false))), none, true⟩]) (.seq (.reg (some []) [⟨(some 4), (.load 1 false (.tmp 1)), none, false⟩, ⟨(some 5), (.nilchk (.tmp 4)), none, false⟩, ⟨(some 6), (.addr 0 (.tmp 5)), none, false⟩, ⟨(some 7), (.addr 1 (.tmp 6)), none, false⟩, ⟨(some 8), (.load 1 false (.tmp 7)), none, false⟩, ⟨(some 9), (.load 5 true (.tmp 2)), none, false⟩, ⟨(some 10), (.call 46 [(.tmp 8), (.tmp 9)] 0), none, true⟩, ⟨(some 3), (.mv (.tmp 10)), none, true⟩]) .ret))
def R88 : List LRes := [(.tmp 3)]
theorem low88 : Try.f88.body.bind (lowerCode Try.prog 11) = some L88 := by kernel_rfl
theorem res88 : lowerRes Try.prog Try.f88.results.toList = some R88 := by kernel_rfl
set_option maxRecDepth 100000 in
def L94 : LC := (.seq (.reg none [⟨(some 3), (.box (.tmp 1)), none, true⟩, ⟨(some 4), (.mv (.val (.bool false))), none, true⟩]) (.seq (.reg none [⟨(some 5), (.mv (.tmp 0)), none, true⟩, ⟨(some 6), (.load 2 true (.tmp 3)), none, true⟩, ⟨(some 7), (.call 109 [(.tmp 5), (.tmp 6)] 0), none, true⟩, ⟨(some 8), (.bin .geq (.tmp 7) (.val (.int .i64 0))), none, true⟩, ⟨(some 4), (.mv (.tmp 8)), none, true⟩]) .ret))
def R94 : List LRes := [(.tmp 4)]
theorem low94 : Try.f94.body.bind (lowerCode Try.prog 9) = some L94 := by kernel_rfl
theorem res94 : lowerRes Try.prog Try.f94.results.toList = some R94 := by kernel_rfl
set_option maxRecDepth 100000 in
def L109 : LC := (.seq (.reg none [⟨(some 3), (.box (.tmp 1)), none, true⟩, ⟨(some 4), (.mv (.val (.int .i64 0))), none, true⟩]) (.seq (.seq (.reg none [⟨(some 6), (.mv (.tmp 0)), none, true⟩, ⟨(some 7), (.len false (.tmp 6)), none, true⟩, ⟨(some 8), (.mv (.val (.int .i64 0))), none, true⟩]) (.block 0 (.loop (.seq (.reg none [⟨(some 9), (.bin .lss (.tmp 8) (.tmp 7)), none, true⟩]) (.seq (.cond (.tmp 9) .skip (.exit 0)) (.seq (.block 1 (.seq (.reg none [⟨(some 10), (.mv (.tmp 8)), none, true⟩, ⟨(some 5), (.mv (.tmp 10)), none, true⟩]) (.seq (.reg (some []) [⟨(some 11), (.load 2 true (.tmp 3)), none, false⟩, ⟨(some 12), (.mv (.tmp 0)), none, true⟩, ⟨(some 13), (.mv (.tmp 5)), none, true⟩, ⟨(some 14), (.iaddrS 2 (.tmp 12) (.tmp 13)), none, false⟩, ⟨(some 15), (.load 2 true (.tmp 14)), none, false⟩, ⟨(some 16), (.eqag false [.i, .i] (.tmp 11) (.tmp 15)), none, true⟩]) (.cond (.tmp 16) (.seq (.reg none [⟨(some 17), (.mv (.tmp 5)), none, true⟩, ⟨(some 4), (.mv (.tmp 17)), none, true⟩]) .ret) .skip)))) (.reg none [⟨(some 18), (.bin .add (.tmp 8) (.val (.int .i64 1))), none, true⟩, ⟨(some 8), (.mv (.tmp 18)), none, true⟩]))))))) (.seq (.reg none [⟨(some 4), (.mv (.val (.int .i64 (-1)))), none, true⟩]) .ret)))
def R109 : List LRes := [(.tmp 4)]
theorem low109 : Try.f109.body.bind (lowerCode Try.prog 19) = some L109 := by kernel_rfl
theorem res109 : lowerRes Try.prog Try.f109.results.toList = some R109 := by kernel_rfl
end Go.Proofs.Ytkibfciheifphaa
namespace Go.Proofs.Ytkibfciheifphaa
set_option linter.unusedSimpArgs false
set_option linter.unusedVariables false
open Go.RowKit
theorem within_meets (n a b : Int) : Meets Try.prog 74 [.int .i64 n, .int .i64 a, .int .i64 b] [] (.bool (wthn n a b)) [] := by
  refine Meets.of_walk Try.func74 Try.ntmps74 low74 res74 (by simp) fun x hx => ?_
  by_cases h : a ≤ n
  all_goals
    simp only [go_sem, Nat.reduceLT, Nat.reduceAdd, Nat.reduceEqDiff, Nat.reduceLeDiff, Nat.reduceSub, Nat.reduceMul, Int.reduceEq, eq_self, reduceIte, L74, R74, h, decide_true, decide_false]
    refine ret_pure hx ?_
    simp only [go_sem, Nat.reduceLT, Nat.reduceAdd, Nat.reduceEqDiff, Nat.reduceLeDiff, Nat.reduceSub, Nat.reduceMul, Int.reduceEq, eq_self, reduceIte, L74, R74, wthn, h, decide_false, true_and, false_and]
theorem id_meets (r n : Int) : Meets Try.prog 48 [.agg [.int .i64 r, .int .i64 n]] [] (.bool (okId ⟨r, n⟩)) [] := by
  refine Meets.of_walk Try.func48 Try.ntmps48 low48 res48 (by simp) fun x hx => ?_
  simp only [go_sem, Nat.reduceLT, Nat.reduceAdd, Nat.reduceEqDiff, Nat.reduceLeDiff, Nat.reduceSub, Nat.reduceMul, Int.reduceEq, eq_self, reduceIte, L48, R48]
  refine ops_call (.pure (within_meets _ _ _)) ?_
  cases h : wthn r 0 1
  · simp only [go_sem, Nat.reduceLT, Nat.reduceAdd, Nat.reduceEqDiff, Nat.reduceLeDiff, Nat.reduceSub, Nat.reduceMul, Int.reduceEq, eq_self, reduceIte]
    refine ret_pure hx ?_
    simp [go_sem, Nat.reduceLT, Nat.reduceAdd, Nat.reduceEqDiff, Nat.reduceLeDiff, Nat.reduceSub, Nat.reduceMul, Int.reduceEq, eq_self, reduceIte, L48, R48, okId, h]
  · simp only [go_sem, Nat.reduceLT, Nat.reduceAdd, Nat.reduceEqDiff, Nat.reduceLeDiff, Nat.reduceSub, Nat.reduceMul, Int.reduceEq, eq_self, reduceIte]
    refine ops_call (.pure (within_meets _ _ _)) ?_
    simp only [go_sem, Nat.reduceLT, Nat.reduceAdd, Nat.reduceEqDiff, Nat.reduceLeDiff, Nat.reduceSub, Nat.reduceMul, Int.reduceEq, eq_self, reduceIte]
    refine ret_pure hx ?_
    simp [go_sem, Nat.reduceLT, Nat.reduceAdd, Nat.reduceEqDiff, Nat.reduceLeDiff, Nat.reduceSub, Nat.reduceMul, Int.reduceEq, eq_self, reduceIte, L48, R48, okId, h]
end Go.Proofs.Ytkibfciheifphaa
namespace Go.Proofs.Ytkibfciheifphaa
set_option linter.unusedSimpArgs false
set_option linter.unusedVariables false
open Go.RowKit
theorem cmp_meets (a b : Int) : Meets Try.prog 75 [.int .i64 a, .int .i64 b] [] (.int .i64 (cmpI a b)) [] := by
  refine Meets.of_walk Try.func75 Try.ntmps75 low75 res75 (by simp) fun x hx => ?_
  by_cases h : a < b
  · simp only [go_sem, Nat.reduceLT, Nat.reduceAdd, Nat.reduceEqDiff, Nat.reduceLeDiff, Nat.reduceSub, Nat.reduceMul, Int.reduceEq, eq_self, reduceIte, L75, R75, h, decide_true]
    refine ret_pure hx ?_
    simp [go_sem, Nat.reduceLT, Nat.reduceAdd, Nat.reduceEqDiff, Nat.reduceLeDiff, Nat.reduceSub, Nat.reduceMul, Int.reduceEq, eq_self, reduceIte, L75, R75, cmpI, h]
  · by_cases h2 : b < a
    · simp only [go_sem, Nat.reduceLT, Nat.reduceAdd, Nat.reduceEqDiff, Nat.reduceLeDiff, Nat.reduceSub, Nat.reduceMul, Int.reduceEq, eq_self, reduceIte, L75, R75, h, h2, decide_true, decide_false]
      refine ret_pure hx ?_
      simp [go_sem, Nat.reduceLT, Nat.reduceAdd, Nat.reduceEqDiff, Nat.reduceLeDiff, Nat.reduceSub, Nat.reduceMul, Int.reduceEq, eq_self, reduceIte, L75, R75, cmpI, h, h2]
    · simp only [go_sem, Nat.reduceLT, Nat.reduceAdd, Nat.reduceEqDiff, Nat.reduceLeDiff, Nat.reduceSub, Nat.reduceMul, Int.reduceEq, eq_self, reduceIte, L75, R75, h, h2, decide_false]
      refine ret_pure hx ?_
      simp [go_sem, Nat.reduceLT, Nat.reduceAdd, Nat.reduceEqDiff, Nat.reduceLeDiff, Nat.reduceSub, Nat.reduceMul, Int.reduceEq, eq_self, reduceIte, L75, R75, cmpI, h, h2]
def cId (x : Id) : List PV := [.int .i64 x.r, .int .i64 x.n]
theorem order_meets (a b : Id) : Meets Try.prog 50 [.agg (cId a), .agg (cId b)] [] (.int .i64 (ordI a b)) [] := by
  refine Meets.of_walk Try.func50 Try.ntmps50 low50 res50 (by simp) fun x hx => ?_
  simp only [go_sem, Nat.reduceLT, Nat.reduceAdd, Nat.reduceEqDiff, Nat.reduceLeDiff, Nat.reduceSub, Nat.reduceMul, Int.reduceEq, eq_self, reduceIte, L50, R50, cId]
  refine ops_callv rfl (by kernel_rfl) (.pure (cmp_meets _ _)) ?_
  by_cases h : cmpI a.r b.r = 0
  · simp only [go_sem, Nat.reduceLT, Nat.reduceAdd, Nat.reduceEqDiff, Nat.reduceLeDiff, Nat.reduceSub, Nat.reduceMul, Int.reduceEq, eq_self, reduceIte, h, decide_true, decide_false]
    refine ops_callv rfl (by kernel_rfl) (.pure (cmp_meets _ _)) ?_
    simp only [go_sem, Nat.reduceLT, Nat.reduceAdd, Nat.reduceEqDiff, Nat.reduceLeDiff, Nat.reduceSub, Nat.reduceMul, Int.reduceEq, eq_self, reduceIte]
    refine ret_pure hx ?_
    simp [go_sem, Nat.reduceLT, Nat.reduceAdd, Nat.reduceEqDiff, Nat.reduceLeDiff, Nat.reduceSub, Nat.reduceMul, Int.reduceEq, eq_self, reduceIte, L50, R50, ordI, h]
  · simp only [go_sem, Nat.reduceLT, Nat.reduceAdd, Nat.reduceEqDiff, Nat.reduceLeDiff, Nat.reduceSub, Nat.reduceMul, Int.reduceEq, eq_self, reduceIte, h, decide_true, decide_false]
    refine ret_pure hx ?_
    simp [go_sem, Nat.reduceLT, Nat.reduceAdd, Nat.reduceEqDiff, Nat.reduceLeDiff, Nat.reduceSub, Nat.reduceMul, Int.reduceEq, eq_self, reduceIte, L50, R50, ordI, h]
theorem less_meets (a b : Id) : Meets Try.prog 64 [.agg (cId a), .agg (cId b)] [] (.bool (lessB a b)) [] := by
  refine Meets.of_walk Try.func64 Try.ntmps64 low64 res64 (by simp) fun x hx => ?_
  simp only [go_sem, Nat.reduceLT, Nat.reduceAdd, Nat.reduceEqDiff, Nat.reduceLeDiff, Nat.reduceSub, Nat.reduceMul, Int.reduceEq, eq_self, reduceIte, L64, R64, cId]
  refine ops_call (.pure (order_meets a b)) ?_
  have h : lessB a b = decide (ordI a b < 0) := by rw [Bool.eq_iff_iff, decide_eq_true_iff, ordI_lt]
  simp only [go_sem, Nat.reduceLT, Nat.reduceAdd, Nat.reduceEqDiff, Nat.reduceLeDiff, Nat.reduceSub, Nat.reduceMul, Int.reduceEq, eq_self, reduceIte]
  refine ret_pure hx ?_
  simp only [go_sem, Nat.reduceLT, Nat.reduceAdd, Nat.reduceEqDiff, Nat.reduceLeDiff, Nat.reduceSub, Nat.reduceMul, Int.reduceEq, eq_self, reduceIte, L64, R64, h]
theorem colors_meets (n : Int) : Meets Try.prog 49 [.int .i64 n] [] (.bool (wthn n 1 7)) [] := by
  refine Meets.of_walk Try.func49 Try.ntmps49 low49 res49 (by simp) fun x hx => ?_
  simp only [go_sem, Nat.reduceLT, Nat.reduceAdd, Nat.reduceEqDiff, Nat.reduceLeDiff, Nat.reduceSub, Nat.reduceMul, Int.reduceEq, eq_self, reduceIte, L49, R49]
  refine ops_call (.pure (within_meets _ _ _)) ?_
  simp only [go_sem, Nat.reduceLT, Nat.reduceAdd, Nat.reduceEqDiff, Nat.reduceLeDiff, Nat.reduceSub, Nat.reduceMul, Int.reduceEq, eq_self, reduceIte]
  refine ret_pure hx ?_
  simp only [go_sem, Nat.reduceLT, Nat.reduceAdd, Nat.reduceEqDiff, Nat.reduceLeDiff, Nat.reduceSub, Nat.reduceMul, Int.reduceEq, eq_self, reduceIte, L49, R49]
end Go.Proofs.Ytkibfciheifphaa
namespace Go.Proofs.Ytkibfciheifphaa
set_option linter.unusedSimpArgs false
set_option linter.unusedVariables false
open Go.RowKit
def cE (e : Entry) : List PV := [.int .i64 e.id.r, .int .i64 e.id.n, .int .i64 e.c, .str e.t, .list (e.ls.map cId)]
theorem check_meets (e : Entry) : Meets Try.prog 26 [.agg (cE e)] [] (.int .i64 (checkEntry e)) [] := by
  refine Meets.of_walk Try.func26 Try.ntmps26 low26 res26 (by simp) fun x hx => ?_
  simp only [go_sem, Nat.reduceLT, Nat.reduceAdd, Nat.reduceEqDiff, Nat.reduceLeDiff, Nat.reduceSub, Nat.reduceMul, Int.reduceEq, eq_self, reduceIte, L26, R26, cE]
  refine ops_call (.pure (id_meets _ _)) ?_
  cases h1 : okId e.id
  · simp only [go_sem, Nat.reduceLT, Nat.reduceAdd, Nat.reduceEqDiff, Nat.reduceLeDiff, Nat.reduceSub, Nat.reduceMul, Int.reduceEq, eq_self, reduceIte]
    refine ret_pure hx ?_
    simp [go_sem, Nat.reduceLT, Nat.reduceAdd, Nat.reduceEqDiff, Nat.reduceLeDiff, Nat.reduceSub, Nat.reduceMul, Int.reduceEq, eq_self, reduceIte, L26, R26, checkEntry, h1]
  simp only [go_sem, Nat.reduceLT, Nat.reduceAdd, Nat.reduceEqDiff, Nat.reduceLeDiff, Nat.reduceSub, Nat.reduceMul, Int.reduceEq, eq_self, reduceIte]
  refine ops_call (.pure (colors_meets _)) ?_
  cases h2 : wthn e.c 1 7
  · simp only [go_sem, Nat.reduceLT, Nat.reduceAdd, Nat.reduceEqDiff, Nat.reduceLeDiff, Nat.reduceSub, Nat.reduceMul, Int.reduceEq, eq_self, reduceIte]
    refine ret_pure hx ?_
    simp [go_sem, Nat.reduceLT, Nat.reduceAdd, Nat.reduceEqDiff, Nat.reduceLeDiff, Nat.reduceSub, Nat.reduceMul, Int.reduceEq, eq_self, reduceIte, L26, R26, checkEntry, h1, h2]
  by_cases h3 : 12 < e.t.size
  · have h3' : decide ((12 : Int) < e.t.size) = true := by simp; omega
    simp only [go_sem, Nat.reduceLT, Nat.reduceAdd, Nat.reduceEqDiff, Nat.reduceLeDiff, Nat.reduceSub, Nat.reduceMul, Int.reduceEq, eq_self, reduceIte, h3']
    refine ret_pure hx ?_
    simp [go_sem, Nat.reduceLT, Nat.reduceAdd, Nat.reduceEqDiff, Nat.reduceLeDiff, Nat.reduceSub, Nat.reduceMul, Int.reduceEq, eq_self, reduceIte, L26, R26, checkEntry, h1, h2, h3]
  have h3' : decide ((12 : Int) < e.t.size) = false := by simp; omega
  by_cases h4 : 6 < e.ls.length
  · have h4' : decide ((6 : Int) < (e.ls.length : Nat)) = true := by simp; omega
    simp only [go_sem, Nat.reduceLT, Nat.reduceAdd, Nat.reduceEqDiff, Nat.reduceLeDiff, Nat.reduceSub, Nat.reduceMul, Int.reduceEq, eq_self, reduceIte, h3', h4']
    refine ret_pure hx ?_
    simp [go_sem, Nat.reduceLT, Nat.reduceAdd, Nat.reduceEqDiff, Nat.reduceLeDiff, Nat.reduceSub, Nat.reduceMul, Int.reduceEq, eq_self, reduceIte, L26, R26, checkEntry, h1, h2, h3, h4]
  have h4' : decide ((6 : Int) < (e.ls.length : Nat)) = false := by simp; omega
  have hc : checkEntry e = firstNZ (linkErr e.id e.ls) e.ls.length := by simp [checkEntry, h1, h2, h3, h4]
  simp only [go_sem, Nat.reduceLT, Nat.reduceAdd, Nat.reduceEqDiff, Nat.reduceLeDiff, Nat.reduceSub, Nat.reduceMul, Int.reduceEq, eq_self, reduceIte, h3', h4', hc]
  refine loop_inv [1, 28, 29, 30] 1 (fun n st => ∃ k : Nat, k + n = e.ls.length ∧ firstNZ (linkErr e.id e.ls) k = 0 ∧
    st = ⟨mkE .top [(1, .ptr 0 0), (28, .list (e.ls.map cId)), (29, .int .i64 e.ls.length), (30, .int .i64 k)], [.box (cE e)]⟩) e.ls.length (by simp [hx]) (by simp) ?_ ?_
  · refine ⟨0, by omega, rfl, ?_⟩
    simp [trim_mk, go_sem, Nat.reduceLT, Nat.reduceAdd, Nat.reduceEqDiff, Nat.reduceLeDiff, Nat.reduceSub, Nat.reduceMul, Int.reduceEq, eq_self, reduceIte, subHeap, renObj, pos, List.range_succ, cE]
  · rintro n st ⟨k, hk, hz, rfl⟩
    simp only [go_sem, Nat.reduceLT, Nat.reduceAdd, Nat.reduceEqDiff, Nat.reduceLeDiff, Nat.reduceSub, Nat.reduceMul, Int.reduceEq, eq_self, reduceIte, cE]
    by_cases hlt : k < e.ls.length
    · have hg : e.ls[k]? = some (nth e.ls k) := nth_get? _ _ hlt
      simp only [go_sem, Nat.reduceLT, Nat.reduceAdd, Nat.reduceEqDiff, Nat.reduceLeDiff, Nat.reduceSub, Nat.reduceMul, Int.reduceEq, eq_self, reduceIte, hlt, hg, cId]
      refine ops_call (.pure (id_meets _ _)) ?_
      cases h5 : okId (nth e.ls k)
      · have h5' : okId ⟨(nth e.ls k).r, (nth e.ls k).n⟩ = false := h5
        simp only [go_sem, Nat.reduceLT, Nat.reduceAdd, Nat.reduceEqDiff, Nat.reduceLeDiff, Nat.reduceSub, Nat.reduceMul, Int.reduceEq, eq_self, reduceIte, h5']
        refine ret_pure hx ?_
        have : linkErr e.id e.ls k = 3 := by simp [linkErr, h5]
        simp only [go_sem, Nat.reduceLT, Nat.reduceAdd, Nat.reduceEqDiff, Nat.reduceLeDiff, Nat.reduceSub, Nat.reduceMul, Int.reduceEq, eq_self, reduceIte, hc, firstNZ_hit hz (by rw [this]; decide) hlt, this]
      have h5' : okId ⟨(nth e.ls k).r, (nth e.ls k).n⟩ = true := h5
      have w1 : IntKind.i64.wrap ((k : Int) + 1) = ((k + 1 : Nat) : Int) := by rw [IntWalk.i64_in _ (by omega)]; omega
      have okw : (k = 0 ∨ ordI (nth e.ls (k - 1)) (nth e.ls k) < 0) → lessB (nth e.ls (k - 1)) (nth e.ls k) = true ∨ k = 0 := fun h => by
        rcases h with h | h
        · exact .inr h
        · exact .inl (ordI_lt.1 h)
      by_cases hb : 0 < k ∧ 0 ≤ ordI (nth e.ls (k - 1)) (nth e.ls k)
      · obtain ⟨h0, h6⟩ := hb
        have hg1 : e.ls[k - 1]? = some (nth e.ls (k - 1)) := nth_get? _ _ (by omega)
        have e1 : IntKind.i64.wrap ((k : Int) - 1) = ((k - 1 : Nat) : Int) := by rw [IntWalk.i64_in _ (by omega)]; omega
        have d0 : decide ((0 : Int) < (k : Int)) = true := by simp; omega
        have hlt1 : k - 1 < e.ls.length := by omega
        simp only [go_sem, Nat.reduceLT, Nat.reduceAdd, Nat.reduceEqDiff, Nat.reduceLeDiff, Nat.reduceSub, Nat.reduceMul, Int.reduceEq, eq_self, reduceIte, h5', d0, hlt1, hg1, e1, cId]
        refine ops_call (.pure (order_meets (nth e.ls (k - 1)) (nth e.ls k))) ?_
        simp only [go_sem, Nat.reduceLT, Nat.reduceAdd, Nat.reduceEqDiff, Nat.reduceLeDiff, Nat.reduceSub, Nat.reduceMul, Int.reduceEq, eq_self, reduceIte, h6]
        refine ret_pure hx ?_
        have hl : lessB (nth e.ls (k - 1)) (nth e.ls k) = false := by rw [← Bool.not_eq_true, ← ordI_lt]; omega
        have : linkErr e.id e.ls k = 4 := by simp [linkErr, h5, h0, hl]
        simp only [go_sem, Nat.reduceLT, Nat.reduceAdd, Nat.reduceEqDiff, Nat.reduceLeDiff, Nat.reduceSub, Nat.reduceMul, Int.reduceEq, eq_self, reduceIte, hc, firstNZ_hit hz (by rw [this]; decide) hlt, this]
      · have hok : k = 0 ∨ lessB (nth e.ls (k - 1)) (nth e.ls k) = true := by
          rcases Nat.eq_zero_or_pos k with h | h
          · exact .inl h
          · exact .inr (ordI_lt.1 (by omega))
        have fin : ∀ H : List AObj, 1 ≤ H.length → H.take 1 = [.box (cE e)] → True := fun _ _ _ => trivial
        by_cases h0 : 0 < k
        · have hg1 : e.ls[k - 1]? = some (nth e.ls (k - 1)) := nth_get? _ _ (by omega)
          have e1 : IntKind.i64.wrap ((k : Int) - 1) = ((k - 1 : Nat) : Int) := by rw [IntWalk.i64_in _ (by omega)]; omega
          have d0 : decide ((0 : Int) < (k : Int)) = true := by simp; omega
          have hlt1 : k - 1 < e.ls.length := by omega
          have h6 : ¬ 0 ≤ ordI (nth e.ls (k - 1)) (nth e.ls k) := fun h => hb ⟨h0, h⟩
          have hl : lessB (nth e.ls (k - 1)) (nth e.ls k) = true := ordI_lt.1 (by omega)
          simp only [go_sem, Nat.reduceLT, Nat.reduceAdd, Nat.reduceEqDiff, Nat.reduceLeDiff, Nat.reduceSub, Nat.reduceMul, Int.reduceEq, eq_self, reduceIte, h5', d0, hlt1, hg1, e1, cId]
          refine ops_call (.pure (order_meets (nth e.ls (k - 1)) (nth e.ls k))) ?_
          by_cases h7 : (nth e.ls k).r = e.id.r <;> by_cases h8 : e.id.n ≤ (nth e.ls k).n <;> simp only [go_sem, Nat.reduceLT, Nat.reduceAdd, Nat.reduceEqDiff, Nat.reduceLeDiff, Nat.reduceSub, Nat.reduceMul, Int.reduceEq, eq_self, reduceIte, h6, h7, h8]
          · refine ret_pure hx ?_
            have : linkErr e.id e.ls k = 4 := by simp [linkErr, h5, hl, h7, h8]
            simp only [go_sem, Nat.reduceLT, Nat.reduceAdd, Nat.reduceEqDiff, Nat.reduceLeDiff, Nat.reduceSub, Nat.reduceMul, Int.reduceEq, eq_self, reduceIte, hc, firstNZ_hit hz (by rw [this]; decide) hlt, this]
          all_goals
            have : linkErr e.id e.ls k = 0 := by simp [linkErr, h5, hl, h7, h8]
            refine ⟨by simp, n - 1, by omega, k + 1, by omega, firstNZ_succ hz this, ?_⟩
            simp [trim_mk, go_sem, Nat.reduceLT, Nat.reduceAdd, Nat.reduceEqDiff, Nat.reduceLeDiff, Nat.reduceSub, Nat.reduceMul, Int.reduceEq, eq_self, reduceIte, subHeap, renObj, pos, List.range_succ, cE, w1]
        · have d0 : decide ((0 : Int) < (k : Int)) = false := by simp; omega
          by_cases h7 : (nth e.ls k).r = e.id.r <;> by_cases h8 : e.id.n ≤ (nth e.ls k).n <;> simp only [go_sem, Nat.reduceLT, Nat.reduceAdd, Nat.reduceEqDiff, Nat.reduceLeDiff, Nat.reduceSub, Nat.reduceMul, Int.reduceEq, eq_self, reduceIte, h5', d0, h7, h8]
          · refine ret_pure hx ?_
            have : linkErr e.id e.ls k = 4 := by simp [linkErr, h5, h0, h7, h8]
            simp only [go_sem, Nat.reduceLT, Nat.reduceAdd, Nat.reduceEqDiff, Nat.reduceLeDiff, Nat.reduceSub, Nat.reduceMul, Int.reduceEq, eq_self, reduceIte, hc, firstNZ_hit hz (by rw [this]; decide) hlt, this]
          all_goals
            have : linkErr e.id e.ls k = 0 := by simp [linkErr, h5, h0, h7, h8]
            refine ⟨by simp, n - 1, by omega, k + 1, by omega, firstNZ_succ hz this, ?_⟩
            simp [trim_mk, go_sem, Nat.reduceLT, Nat.reduceAdd, Nat.reduceEqDiff, Nat.reduceLeDiff, Nat.reduceSub, Nat.reduceMul, Int.reduceEq, eq_self, reduceIte, subHeap, renObj, pos, List.range_succ, cE, w1]
    · simp only [go_sem, Nat.reduceLT, Nat.reduceAdd, Nat.reduceEqDiff, Nat.reduceLeDiff, Nat.reduceSub, Nat.reduceMul, Int.reduceEq, eq_self, reduceIte, hlt]
      refine ret_pure hx ?_
      simp only [go_sem, Nat.reduceLT, Nat.reduceAdd, Nat.reduceEqDiff, Nat.reduceLeDiff, Nat.reduceSub, Nat.reduceMul, Int.reduceEq, eq_self, reduceIte]
      first | rw [hc, show e.ls.length = k by omega, hz] | rw [show e.ls.length = k by omega, hz]
end Go.Proofs.Ytkibfciheifphaa
/- What the law texts say of entries, in words of their own: contracts. -/
namespace Go.Proofs.Ytkibfciheifphaa
set_option linter.unusedSimpArgs false
set_option linter.unusedVariables false
open Go.RowKit
theorem lawId_meets (r n : Int) : Meets Try.prog 39 [.int .i64 r, .int .i64 n] [] (.agg [.int .i64 r, .int .i64 n]) [] := by
  refine Meets.of_walk Try.func39 Try.ntmps39 low39 res39 (by simp) fun x hx => ?_
  simp only [go_sem, Nat.reduceLT, Nat.reduceAdd, Nat.reduceEqDiff, Nat.reduceLeDiff, Nat.reduceSub, Nat.reduceMul, Int.reduceEq, eq_self, reduceIte, L39, R39]
  refine ret_pure hx ?_
  simp [go_sem, Nat.reduceLT, Nat.reduceAdd, Nat.reduceEqDiff, Nat.reduceLeDiff, Nat.reduceSub, Nat.reduceMul, Int.reduceEq, eq_self, reduceIte, L39, R39]
end Go.Proofs.Ytkibfciheifphaa
/- Ids and entries that are the same. -/
namespace Go.Proofs.Ytkibfciheifphaa
set_option linter.unusedSimpArgs false
set_option linter.unusedVariables false
open Go.RowKit
theorem ids_ext' {x y : List Id} (hl : x.length = y.length) (h : ∀ k, k < x.length → nth x k = nth y k) : x = y := by
  refine List.ext_getElem hl fun k h1 h2 => ?_
  have := h k h1
  rwa [nth_eq _ _ h1, nth_eq _ _ h2] at this
theorem i64_up {k : Nat} (h : k < 9223372036854775807) : IntKind.i64.wrap ((k : Int) + 1) = ((k + 1 : Nat) : Int) := by
  rw [IntWalk.i64_in _ (by omega)]; omega
theorem beqId (a b : Id) : (decide (a.r = b.r) && decide (a.n = b.n)) = decide (a = b) := by
  rw [Bool.eq_iff_iff]; simp [Id.eq_iff]
theorem sameIds_meets (a b : List Id) (hm : a.length ≤ 9223372036854775807) : Meets Try.prog 41 [.list (a.map cId), .list (b.map cId)] [] (.bool (decide (a = b))) [] := by
  refine Meets.of_walk Try.func41 Try.ntmps41 low41 res41 (by simp) fun x hx => ?_
  by_cases hl : a.length = b.length
  · have hl' : ((a.length : Int) = (b.length : Int)) = True := by simp [hl]
    simp only [go_sem, Nat.reduceLT, Nat.reduceAdd, Nat.reduceEqDiff, Nat.reduceLeDiff, Nat.reduceSub, Nat.reduceMul, Int.reduceEq, eq_self, reduceIte, L41, R41, hl']
    refine loop_inv [0, 1, 5] 0 (fun n st => ∃ k : Nat, k + n = a.length ∧ (∀ j, j < k → nth a j = nth b j) ∧
      st = ⟨mkE .top [(0, .list (a.map cId)), (1, .list (b.map cId)), (5, .int .i64 k)], []⟩) a.length (by simp [hx]) (by simp) ?_ ?_
    · refine ⟨0, by omega, fun j h => by omega, ?_⟩
      simp [trim_mk, go_sem, Nat.reduceLT, Nat.reduceAdd, Nat.reduceEqDiff, Nat.reduceLeDiff, Nat.reduceSub, Nat.reduceMul, Int.reduceEq, eq_self, reduceIte, subHeap, renObj, pos, List.range_succ]
    · rintro n st ⟨k, hk, hz, rfl⟩
      simp only [go_sem, Nat.reduceLT, Nat.reduceAdd, Nat.reduceEqDiff, Nat.reduceLeDiff, Nat.reduceSub, Nat.reduceMul, Int.reduceEq, eq_self, reduceIte]
      by_cases hlt : k < a.length
      · have hg : a[k]? = some (nth a k) := nth_get? _ _ hlt
        have hlt2 : k < b.length := by omega
        have hg2 : b[k]? = some (nth b k) := nth_get? _ _ hlt2
        have hw := i64_up (k := k) (by omega)
        by_cases he : nth a k = nth b k
        · simp only [go_sem, Nat.reduceLT, Nat.reduceAdd, Nat.reduceEqDiff, Nat.reduceLeDiff, Nat.reduceSub, Nat.reduceMul, Int.reduceEq, eq_self, reduceIte, hlt, hlt2, hg, hg2, cId, he, hw]
          refine ⟨by simp, n - 1, by omega, k + 1, by omega, fun j hj => ?_, ?_⟩
          · by_cases e : j = k
            · rw [e]; exact he
            · exact hz j (by omega)
          · simp [trim_mk, go_sem, Nat.reduceLT, Nat.reduceAdd, Nat.reduceEqDiff, Nat.reduceLeDiff, Nat.reduceSub, Nat.reduceMul, Int.reduceEq, eq_self, reduceIte, subHeap, renObj, pos]
        · simp only [go_sem, Nat.reduceLT, Nat.reduceAdd, Nat.reduceEqDiff, Nat.reduceLeDiff, Nat.reduceSub, Nat.reduceMul, Int.reduceEq, eq_self, reduceIte, hlt, hlt2, hg, hg2, cId, beqId, he]
          refine ret_pure hx ?_
          have : ¬ a = b := fun e => he (by rw [e])
          simp [go_sem, Nat.reduceLT, Nat.reduceAdd, Nat.reduceEqDiff, Nat.reduceLeDiff, Nat.reduceSub, Nat.reduceMul, Int.reduceEq, eq_self, reduceIte, L41, R41, this]
      · simp only [go_sem, Nat.reduceLT, Nat.reduceAdd, Nat.reduceEqDiff, Nat.reduceLeDiff, Nat.reduceSub, Nat.reduceMul, Int.reduceEq, eq_self, reduceIte, hlt, decide_false]
        refine ret_pure hx ?_
        have : a = b := ids_ext' hl fun j hj => hz j (by omega)
        simp [go_sem, Nat.reduceLT, Nat.reduceAdd, Nat.reduceEqDiff, Nat.reduceLeDiff, Nat.reduceSub, Nat.reduceMul, Int.reduceEq, eq_self, reduceIte, L41, R41, this]
  · have hl' : ((a.length : Int) = (b.length : Int)) = False := by simp; omega
    simp only [go_sem, Nat.reduceLT, Nat.reduceAdd, Nat.reduceEqDiff, Nat.reduceLeDiff, Nat.reduceSub, Nat.reduceMul, Int.reduceEq, eq_self, reduceIte, L41, R41, hl']
    refine ret_pure hx ?_
    have : ¬ a = b := fun e => hl (by rw [e])
    simp [go_sem, Nat.reduceLT, Nat.reduceAdd, Nat.reduceEqDiff, Nat.reduceLeDiff, Nat.reduceSub, Nat.reduceMul, Int.reduceEq, eq_self, reduceIte, L41, R41, this]
end Go.Proofs.Ytkibfciheifphaa
/- Entries that are the same; what is wrong with an entry, in the law text's words. -/
namespace Go.Proofs.Ytkibfciheifphaa
set_option linter.unusedSimpArgs false
set_option linter.unusedVariables false
open Go.RowKit
def sameE (a b : Entry) : Bool := decide (a.id = b.id) && decide (a.c = b.c) && decide (a.t = b.t) && decide (a.ls = b.ls)
theorem sameEntry_meets (a b : Entry) : Meets Try.prog 20 [.agg (cE a), .agg (cE b)] [] (.bool (sameE a b)) [] := by
  refine Meets.len2 0 4 rfl (by simp [cE]; rfl) fun hm => ?_
  have hm' : a.ls.length ≤ 9223372036854775807 := by simp [maxLen] at hm; omega
  refine Meets.of_walk Try.func20 Try.ntmps20 low20 res20 (by simp) fun x hx => ?_
  by_cases h1 : a.id = b.id
  · by_cases h2 : a.c = b.c
    · by_cases h3 : a.t = b.t
      · simp only [go_sem, Nat.reduceLT, Nat.reduceAdd, Nat.reduceEqDiff, Nat.reduceLeDiff, Nat.reduceSub, Nat.reduceMul, Int.reduceEq, eq_self, reduceIte, L20, R20, cE, beqId, h1, h2, h3]
        refine ops_call (.pure (sameIds_meets _ _ hm')) ?_
        simp only [go_sem, Nat.reduceLT, Nat.reduceAdd, Nat.reduceEqDiff, Nat.reduceLeDiff, Nat.reduceSub, Nat.reduceMul, Int.reduceEq, eq_self, reduceIte]
        refine ret_pure hx ?_
        simp [go_sem, Nat.reduceLT, Nat.reduceAdd, Nat.reduceEqDiff, Nat.reduceLeDiff, Nat.reduceSub, Nat.reduceMul, Int.reduceEq, eq_self, reduceIte, L20, R20, sameE, h1, h2, h3]
      · simp only [go_sem, Nat.reduceLT, Nat.reduceAdd, Nat.reduceEqDiff, Nat.reduceLeDiff, Nat.reduceSub, Nat.reduceMul, Int.reduceEq, eq_self, reduceIte, L20, R20, cE, beqId, h1, h2, h3]
        refine ret_pure hx ?_
        simp [go_sem, Nat.reduceLT, Nat.reduceAdd, Nat.reduceEqDiff, Nat.reduceLeDiff, Nat.reduceSub, Nat.reduceMul, Int.reduceEq, eq_self, reduceIte, L20, R20, sameE, h1, h2, h3]
    · simp only [go_sem, Nat.reduceLT, Nat.reduceAdd, Nat.reduceEqDiff, Nat.reduceLeDiff, Nat.reduceSub, Nat.reduceMul, Int.reduceEq, eq_self, reduceIte, L20, R20, cE, beqId, h1, h2]
      refine ret_pure hx ?_
      simp [go_sem, Nat.reduceLT, Nat.reduceAdd, Nat.reduceEqDiff, Nat.reduceLeDiff, Nat.reduceSub, Nat.reduceMul, Int.reduceEq, eq_self, reduceIte, L20, R20, sameE, h1, h2]
  · simp only [go_sem, Nat.reduceLT, Nat.reduceAdd, Nat.reduceEqDiff, Nat.reduceLeDiff, Nat.reduceSub, Nat.reduceMul, Int.reduceEq, eq_self, reduceIte, L20, R20, cE, beqId, h1]
    refine ret_pure hx ?_
    simp [go_sem, Nat.reduceLT, Nat.reduceAdd, Nat.reduceEqDiff, Nat.reduceLeDiff, Nat.reduceSub, Nat.reduceMul, Int.reduceEq, eq_self, reduceIte, L20, R20, sameE, h1]
end Go.Proofs.Ytkibfciheifphaa
/- Bytes: writing an entry. -/
namespace Go.Proofs.Ytkibfciheifphaa
set_option linter.unusedSimpArgs false
set_option linter.unusedVariables false
open Go.RowKit
def e0 : Entry := ⟨⟨0, 1⟩, 1, BA [112, 117, 116, 32, 97, 32, 120], []⟩
def e1 : Entry := ⟨⟨1, 1⟩, 3, BA [112, 117, 116, 32, 97, 32, 121], []⟩
def e2 : Entry := ⟨⟨0, 2⟩, 3, BA [100, 114, 111, 112, 32, 97], [⟨0, 1⟩]⟩
def e3 : Entry := ⟨⟨1, 2⟩, 2, BA [112, 117, 116, 32, 98, 32, 122], [⟨0, 2⟩, ⟨1, 1⟩]⟩
def cE0 (e : Entry) : List PV := [.int .i64 e.id.r, .int .i64 e.id.n, .int .i64 e.c, .str e.t, if e.ls = [] then .nilsl else .list (e.ls.map cId)]
theorem entries_meets : Meets Try.prog 37 [] [] (.list [cE e0, cE e1, cE e2, cE e3]) [] := by
  refine Meets.nl (r := .list [cE0 e0, cE0 e1, cE0 e2, cE0 e3]) 4 ?_ (by simp [nlN, cE0, cE, cId, e0, e1, e2, e3])
  refine Meets.of_walk Try.func37 Try.ntmps37 low37 res37 (by simp) fun x hx => ?_
  simp only [go_sem, Nat.reduceLT, Nat.reduceAdd, Nat.reduceEqDiff, Nat.reduceLeDiff, Nat.reduceSub, Nat.reduceMul, Int.reduceEq, eq_self, reduceIte, L37, R37]
  iterate 7
    refine ops_call (.pure (lawId_meets _ _)) ?_
    simp only [go_sem, Nat.reduceLT, Nat.reduceAdd, Nat.reduceEqDiff, Nat.reduceLeDiff, Nat.reduceSub, Nat.reduceMul, Int.reduceEq, eq_self, reduceIte]
  refine ret_pure hx ?_
  simp [go_sem, Nat.reduceLT, Nat.reduceAdd, Nat.reduceEqDiff, Nat.reduceLeDiff, Nat.reduceSub, Nat.reduceMul, Int.reduceEq, eq_self, reduceIte, L37, R37, cE0, cId, e0, e1, e2, e3, BA]
end Go.Proofs.Ytkibfciheifphaa
/- An entry's bytes in the law text's words. -/
namespace Go.Proofs.Ytkibfciheifphaa
set_option linter.unusedSimpArgs false
set_option linter.unusedVariables false
open Go.RowKit
end Go.Proofs.Ytkibfciheifphaa
/- Walks through the functions on ids and entries. -/
namespace Go.Proofs.Ytkibfciheifphaa
open Go.RowKit
theorem within_calls (n a b : Int) (w : World) : Calls Try.prog 74 #[.int .i64 n, .int .i64 a, .int .i64 b] w fun e w' => e = .returned (.bool (wthn n a b)) ∧ w = w' := by
  by_cases h1 : a ≤ n
  · go_enter Try.func74, Try.ntmps74
    go_wp2
    go_ret
    exact ⟨by simp [wthn, h1], rfl⟩
  · go_enter Try.func74, Try.ntmps74
    go_wp2
    go_ret
    exact ⟨by simp [wthn]; omega, rfl⟩
theorem id_calls (r n : Int) (w : World) : Calls Try.prog 48 #[.agg #[.int .i64 r, .int .i64 n]] w fun e w' => e = .returned (.bool (okId ⟨r, n⟩)) ∧ Below w.heap.size w w' := by
  cases h1 : wthn r 0 1
  · have e : okId ⟨r, n⟩ = false := by simp [okId, h1]
    rw [e]
    go_enter Try.func48, Try.ntmps48
    go_wp2_with (go_at_call 74; refine (within_calls _ _ _ _).mono ?_; rintro e w' ⟨rfl, rfl⟩)
    go_ret
    exact ⟨rfl, (Below.refl _ _).alloc (Nat.le_refl _) _⟩
  · have e : okId ⟨r, n⟩ = wthn n 1 20 := by simp [okId, h1]
    rw [e]
    go_enter Try.func48, Try.ntmps48
    go_wp2_with (go_at_call 74; refine (within_calls _ _ _ _).mono ?_; rintro e w' ⟨rfl, rfl⟩)
    go_ret
    exact ⟨rfl, (Below.refl _ _).alloc (Nat.le_refl _) _⟩
theorem cmp_calls (a b : Int) (w : World) : Calls Try.prog 75 #[.int .i64 a, .int .i64 b] w fun e w' => e = .returned (.int .i64 (cmpI a b)) ∧ w = w' := by
  by_cases h1 : a < b
  · go_enter Try.func75, Try.ntmps75
    go_wp2
    go_ret
    exact ⟨by simp [cmpI, h1], rfl⟩
  · by_cases h2 : b < a
    · go_enter Try.func75, Try.ntmps75
      go_wp2
      go_ret
      exact ⟨by simp [cmpI, h1, h2], rfl⟩
    · go_enter Try.func75, Try.ntmps75
      go_wp2
      go_ret
      exact ⟨ret_int (by unfold cmpI; rw [if_neg (by omega), if_neg (by omega)]), rfl⟩
theorem order_calls (a b : Id) (w : World) : Calls Try.prog 50 #[.agg #[.int .i64 a.r, .int .i64 a.n], .agg #[.int .i64 b.r, .int .i64 b.n]] w fun e w' => e = .returned (.int .i64 (ordI a b)) ∧ Below w.heap.size w w' := by
  go_enter Try.func50, Try.ntmps50
  go_wp2_with (go_at_call 75; refine (cmp_calls _ _ _).mono ?_; rintro e w' ⟨rfl, rfl⟩)
  · go_ret
    have h : (cmpI a.r b.r != 0) = true := by assumption
    exact ⟨ret_int (by rw [ordI, if_neg (by simpa using h)]), by (repeat (first | exact Below.refl _ _ | assumption | refine Below.drew ?_ | refine below_drewN ?_ | refine Below.alloc ?_ (by first | (simp; done) | (simp; omega) | omega) _ | refine Below.setCell ?_ (by first | (simp; done) | (simp; omega) | omega) _))⟩
  · go_ret
    have h : (cmpI a.r b.r != 0) = false := by assumption
    exact ⟨ret_int (by rw [ordI, if_pos (by simpa using h)]), by (repeat (first | exact Below.refl _ _ | assumption | refine Below.drew ?_ | refine below_drewN ?_ | refine Below.alloc ?_ (by first | (simp; done) | (simp; omega) | omega) _ | refine Below.setCell ?_ (by first | (simp; done) | (simp; omega) | omega) _))⟩
theorem colors_calls (n : Int) (w : World) : Calls Try.prog 49 #[.int .i64 n] w fun e w' => e = .returned (.bool (wthn n 1 7)) ∧ w = w' := by
  go_enter Try.func49, Try.ntmps49
  go_wp2_with (go_at_call 74; refine (within_calls _ _ _ _).mono ?_; rintro e w' ⟨rfl, rfl⟩)
  go_ret
  exact ⟨rfl, rfl⟩
set_option maxHeartbeats 1000000 in
theorem check_calls (S : Nat → Prop) (e : Entry) (lv : Value) (w : World) (hl : IdsIn S w lv e.ls) (ht : e.t.size ≤ maxLen) :
    Calls Try.prog 26 #[.agg #[.int .i64 e.id.r, .int .i64 e.id.n, .int .i64 e.c, .string e.t, lv]] w fun x w' => x = .returned (.int .i64 (checkEntry e)) ∧ Below w.heap.size w w' := by
  obtain ⟨a, c, rfl, hc1, hc2⟩ := hl.form
  have HL := Lib.hid hl; clear hl
  unfold maxLen at ht
  cases h1 : okId e.id
  · have H : Hid (checkEntry e = 3) := by show _ = _; rw [checkEntry, if_pos h1]
    go_enter Try.func26, Try.ntmps26
    go_wp2_with (go_at_call 48; refine (id_calls _ _ _).mono ?_; rintro x w1 ⟨rfl, hb⟩)
    go_ret
    exact ⟨ret_int H.out.symm, below_after (by (repeat (first | exact Below.refl _ _ | assumption | refine Below.drew ?_ | refine below_drewN ?_ | refine Below.alloc ?_ (by first | (simp; done) | (simp; omega) | omega) _ | refine Below.setCell ?_ (by first | (simp; done) | (simp; omega) | omega) _))) hb⟩
  cases h2 : wthn e.c 1 7
  · have H : Hid (checkEntry e = 3) := by show _ = _; rw [checkEntry, if_neg (by simp [h1]), if_pos h2]
    go_enter Try.func26, Try.ntmps26
    go_wp2_with (first | (go_at_call 48; refine (id_calls _ _ _).mono ?_; rintro x w1 ⟨rfl, hb⟩; (have B := below_after (w := w) (by (repeat (first | exact Below.refl _ _ | assumption | refine Below.drew ?_ | refine below_drewN ?_ | refine Below.alloc ?_ (by first | (simp; done) | (simp; omega) | omega) _ | refine Below.setCell ?_ (by first | (simp; done) | (simp; omega) | omega) _))) hb; obtain ⟨hc, hf⟩ := bcell hb; have hz := hb.size; (try simp only [World.size_alloc] at hz); clear hb)) | (go_at_call 49; refine (colors_calls _ _).mono ?_; rintro x w2 ⟨rfl, rfl⟩))
    go_ret
    exact ⟨ret_int H.out.symm, B⟩
  have g1 : (okId e.id = false) = False := by simp [h1]
  have g2 : (wthn e.c 1 7 = false) = False := by simp [h2]
  by_cases h3 : 12 < e.t.size
  · have H : Hid (checkEntry e = 2) := by show _ = _; simp only [checkEntry, g1, g2, if_false, if_pos h3]
    clear g1 g2
    go_enter Try.func26, Try.ntmps26
    go_wp2_with (first | (go_at_call 48; refine (id_calls _ _ _).mono ?_; rintro x w1 ⟨rfl, hb⟩; (have B := below_after (w := w) (by (repeat (first | exact Below.refl _ _ | assumption | refine Below.drew ?_ | refine below_drewN ?_ | refine Below.alloc ?_ (by first | (simp; done) | (simp; omega) | omega) _ | refine Below.setCell ?_ (by first | (simp; done) | (simp; omega) | omega) _))) hb; obtain ⟨hc, hf⟩ := bcell hb; have hz := hb.size; (try simp only [World.size_alloc] at hz); clear hb)) | (go_at_call 49; refine (colors_calls _ _).mono ?_; rintro x w2 ⟨rfl, rfl⟩))
    go_ret
    exact ⟨ret_int H.out.symm, B⟩
  by_cases h4 : 6 < e.ls.length
  · have H : Hid (checkEntry e = 2) := by show _ = _; simp only [checkEntry, g1, g2, if_false, if_neg h3, if_pos h4]
    clear g1 g2
    go_enter Try.func26, Try.ntmps26
    go_wp2_with (first | (go_at_call 48; refine (id_calls _ _ _).mono ?_; rintro x w1 ⟨rfl, hb⟩; (have B := below_after (w := w) (by (repeat (first | exact Below.refl _ _ | assumption | refine Below.drew ?_ | refine below_drewN ?_ | refine Below.alloc ?_ (by first | (simp; done) | (simp; omega) | omega) _ | refine Below.setCell ?_ (by first | (simp; done) | (simp; omega) | omega) _))) hb; obtain ⟨hc, hf⟩ := bcell hb; have hz := hb.size; (try simp only [World.size_alloc] at hz); clear hb)) | (go_at_call 49; refine (colors_calls _ _).mono ?_; rintro x w2 ⟨rfl, rfl⟩))
    go_ret
    exact ⟨ret_int H.out.symm, B⟩
  have H : Hid (checkEntry e = firstNZ (linkErr e.id e.ls) e.ls.length) := by show _ = _; simp only [checkEntry, g1, g2, if_false, if_neg h3, if_neg h4]
  clear g1 g2
  go_enter Try.func26, Try.ntmps26
  go_wp2_with (first | (go_at_call 48; refine (id_calls _ _ _).mono ?_; rintro x w1 ⟨rfl, hb⟩; (have B := below_after (w := w) (by (repeat (first | exact Below.refl _ _ | assumption | refine Below.drew ?_ | refine below_drewN ?_ | refine Below.alloc ?_ (by first | (simp; done) | (simp; omega) | omega) _ | refine Below.setCell ?_ (by first | (simp; done) | (simp; omega) | omega) _))) hb; obtain ⟨hc, hf⟩ := bcell hb; have hz := hb.size; (try simp only [World.size_alloc] at hz); clear hb)) | (go_at_call 49; refine (colors_calls _ _).mono ?_; rintro x w2 ⟨rfl, rfl⟩))
  go_loopw [30] (fun i wr => ∃ k : Nat, k ≤ e.ls.length ∧ i = .int .i64 k ∧ Hid (firstNZ (linkErr e.id e.ls) k = 0) ∧ Below w1.heap.size w1 wr) (fun i _ => e.ls.length - (intOf i).toNat)
  case atStart => exact ⟨0, by omega, rfl, rfl, Below.refl _ _⟩
  case round =>
    obtain ⟨k, hk, rfl, hz0, hbe⟩ := hrel
    by_cases hlt : k < e.ls.length
    · obtain ⟨b, o, rfl, hS, hbs, c1, c2⟩ := ((HL.out.below B).below hbe).get hlt
      obtain ⟨hcr, hfr⟩ := bcell hbe
      have hzr := hbe.size
      cases h5 : okId (nth e.ls k)
      · have HE : Hid (linkErr e.id e.ls k = 3) := by show _ = _; rw [linkErr, if_pos h5]
        go_wp2_with (go_at_call 48; refine (id_calls _ _ _).mono ?_; rintro x w3 ⟨rfl, hb⟩)
        go_ret
        exact ⟨ret_int (by rw [H.out, firstNZ_hit hz0.out (by rw [HE.out]; decide) hlt, HE.out]), B.trans (below_after (by (repeat (first | exact Below.refl _ _ | assumption | refine Below.drew ?_ | refine below_drewN ?_ | refine Below.alloc ?_ (by first | (simp; done) | (simp; omega) | omega) _ | refine Below.setCell ?_ (by first | (simp; done) | (simp; omega) | omega) _))) hb |>.mono B.size)⟩
      · by_cases hk0 : 0 < k
        · have hd : decide ((0 : Int) < (k : Int)) = true := by simpa using hk0
          obtain ⟨b', o', hb', -, -, c3, c4⟩ := ((HL.out.below B).below hbe).get (k := k - 1) (by omega)
          obtain ⟨rfl, rfl⟩ : b = b' ∧ o = o' := by simpa using hb'
          clear hb'
          go_wp2_with (first | (go_at_call 48; refine (id_calls _ _ _).mono ?_; rintro x w3 ⟨rfl, hb⟩; have B3 := below_after (w := w1) (by (repeat (first | exact Below.refl _ _ | assumption | refine Below.drew ?_ | refine below_drewN ?_ | refine Below.alloc ?_ (by first | (simp; done) | (simp; omega) | omega) _ | refine Below.setCell ?_ (by first | (simp; done) | (simp; omega) | omega) _))) hb; obtain ⟨hc3, hf3⟩ := bcell hb; have hz3 := hb.size; (try simp only [World.size_alloc] at hz3); clear hb))
          have z1 : w.heap.size < w3.heap.size := by omega
          have z2 : b < w3.heap.size := by omega
          have z3 : wr.heap.size < w3.heap.size := by omega
          have z4 : w.heap.size < wr.heap.size := by omega
          have z5 : w.heap.size < w1.heap.size := by omega
          have hg := grow_cell w3
          refine wp_region_quiet_below (by kernel_rfl) (by kernel_rfl) ?_
          repeat (go_big_quiet_step ((go_at_call 50; exact Calls.regrown_of (order_calls _ _ _))))
          (refine wpQuiet_nil ?_; intro wq hwq; have hbq := below_of_class hwq; clear hwq hg)
          obtain ⟨hcq, hfq⟩ := bcell hbq
          have hzq := hbq.size
          have BQ : Below w.heap.size w wq := B.trans ((B3.trans (hbq.mono B3.size)).mono B.size)
          have BR : Below w1.heap.size w1 wq := B3.trans (hbq.mono B3.size)
          go_wp2
          · go_ret
            have h : 0 ≤ ordI (nth e.ls (k - 1)) (nth e.ls k) := by assumption
            have h' := linkErr_ord (e := e.id) h5 hk0 h
            exact ⟨ret_int (by rw [H.out, firstNZ_hit hz0.out (by rw [h']; decide) hlt, h']), BQ⟩
          · go_ret
            have h' := linkErr_own (ls := e.ls) (k := k) (e := e.id) h5 (by assumption) (by assumption)
            exact ⟨ret_int (by rw [H.out, firstNZ_hit hz0.out (by rw [h']; decide) hlt, h']), BQ⟩
          all_goals
            have h : ordI (nth e.ls (k - 1)) (nth e.ls k) < 0 := by assumption
            have h' := linkErr_ok (ls := e.ls) (k := k) (e := e.id) h5 (.inr h) (by first | (rintro ⟨-, h2⟩; omega) | (rintro ⟨h2, -⟩; contradiction))
            go_roundw
            case rel => exact ⟨k + 1, by omega, by go_num, firstNZ_succ hz0.out h', BR⟩
            case measure => simp [intOf]; omega
        · have hd : decide ((0 : Int) < (k : Int)) = false := by simpa using hk0
          go_wp2_with (first | (go_at_call 48; refine (id_calls _ _ _).mono ?_; rintro x w3 ⟨rfl, hb⟩; have B3 := below_after (w := w1) (by (repeat (first | exact Below.refl _ _ | assumption | refine Below.drew ?_ | refine below_drewN ?_ | refine Below.alloc ?_ (by first | (simp; done) | (simp; omega) | omega) _ | refine Below.setCell ?_ (by first | (simp; done) | (simp; omega) | omega) _))) hb; obtain ⟨hc3, hf3⟩ := bcell hb; have hz3 := hb.size; (try simp only [World.size_alloc] at hz3); clear hb))
          have z1 : w.heap.size < w3.heap.size := by omega
          have z2 : b < w3.heap.size := by omega
          have z3 : wr.heap.size < w3.heap.size := by omega
          have z4 : w.heap.size < wr.heap.size := by omega
          have z5 : w.heap.size < w1.heap.size := by omega
          have hg := grow_cell w3
          refine wp_region_quiet_below (by kernel_rfl) (by kernel_rfl) ?_
          repeat (go_big_quiet_step ((go_at_call 50; exact Calls.regrown_of (order_calls _ _ _))))
          (refine wpQuiet_nil ?_; intro wq hwq; have hbq := below_of_class hwq; clear hwq hg)
          obtain ⟨hcq, hfq⟩ := bcell hbq
          have hzq := hbq.size
          have BQ : Below w.heap.size w wq := B.trans ((B3.trans (hbq.mono B3.size)).mono B.size)
          have BR : Below w1.heap.size w1 wq := B3.trans (hbq.mono B3.size)
          go_wp2
          · go_ret
            have h' := linkErr_own (ls := e.ls) (k := k) (e := e.id) h5 (by assumption) (by assumption)
            exact ⟨ret_int (by rw [H.out, firstNZ_hit hz0.out (by rw [h']; decide) hlt, h']), BQ⟩
          all_goals
            have h' := linkErr_ok (ls := e.ls) (k := k) (e := e.id) h5 (.inl (by omega)) (by first | (rintro ⟨-, h2⟩; omega) | (rintro ⟨h2, -⟩; contradiction))
            go_roundw
            case rel => exact ⟨k + 1, by omega, by go_num, firstNZ_succ hz0.out h', BR⟩
            case measure => simp [intOf]; omega
    · go_wp2
      go_ret
      exact ⟨ret_int (by rw [H.out, show e.ls.length = k from by omega, hz0.out]), B.trans (hbe.mono B.size)⟩
end Go.Proofs.Ytkibfciheifphaa
/- Walks through the reference's small words: numbers, ids. -/
namespace Go.Proofs.Ytkibfciheifphaa
set_option linter.unusedSimpArgs false
set_option linter.unusedVariables false
open Go.RowKit
end Go.Proofs.Ytkibfciheifphaa
/- '==' and '!=' between vectors and between ids, as the walk meets them. -/
namespace Go.Proofs.Ytkibfciheifphaa
open Go.RowKit
end Go.Proofs.Ytkibfciheifphaa
/- Walks through what the reference says of entries: alike, right. -/
namespace Go.Proofs.Ytkibfciheifphaa
open Go.RowKit
end Go.Proofs.Ytkibfciheifphaa
/- Walks through the functions that write an entry as bytes. -/
namespace Go.Proofs.Ytkibfciheifphaa
set_option linter.unusedSimpArgs false
set_option linter.unusedVariables false
open Go.RowKit
theorem undU8s : Try.prog.underlying 77 = some (.slice 5) := by kernel_rfl
theorem undU8 : Try.prog.underlying 5 = some (.int .u8) := by kernel_rfl
theorem undStr : Try.prog.underlying 9 = some .string := by kernel_rfl
end Go.Proofs.Ytkibfciheifphaa
/- The walk through the program's function that writes an entry as bytes. -/
namespace Go.Proofs.Ytkibfciheifphaa
set_option linter.unusedSimpArgs false
set_option linter.unusedVariables false
open Go.RowKit
def byteCells (l : List UInt8) : List Value := l.map fun b => .int .u8 (b.toNat : Int)
theorem byt_toNat (n : Int) : ((byt n).toNat : Int) = n % 256 := by
  have h1 : 0 ≤ n % 256 := Int.emod_nonneg _ (by decide)
  have h2 : n % 256 < 256 := Int.emod_lt_of_pos _ (by decide)
  unfold byt
  rw [UInt8.toNat_ofNat']
  omega
theorem infoU8 : (Try.prog.info? 5).map (fun i => (i.zero, i.size, i.bytes)) = some (some (.int .u8 0), 1, 1) := by kernel_rfl
def PutRel (w : World) (blk bw : Nat) (cs : Array Value) (ys : List UInt8) (wr : World) : Prop :=
  wr.heap[blk]? = some (.cells cs 3 (0, 0)) ∧ (∃ bv, wr.cell? ⟨bw, 0, none⟩ = some bv ∧ wr.frozen? ⟨bw, 0, none⟩ = false ∧ wr.ownsRow (bw + 1) 5 1 bv ys.length (byteCells ys)) ∧ Below bw w wr
set_option maxHeartbeats 1000000 in
set_option maxRecDepth 100000 in
theorem put_calls (ns : List Int) (blk bw c : Nat) (bv : Value) (xs : List UInt8) (cs : Array Value) (w : World)
    (hblk : w.heap[blk]? = some (.cells cs 3 (0, 0))) (hcs : ∀ k, k < ns.length → cs[k]? = some (.int .i64 (nth ns k))) (hbb : blk ≠ bw)
    (hb : w.cell? ⟨bw, 0, none⟩ = some bv) (hf : w.frozen? ⟨bw, 0, none⟩ = false) (hown : w.ownsRow (bw + 1) 5 1 bv xs.length (byteCells xs)) (hsz : xs.length + ns.length ≤ 1000) (hbw : bw < w.heap.size) :
    Calls Try.prog 51 #[.slice (some ⟨blk, 0, none⟩) ns.length c, .pointer (some ⟨bw, 0, none⟩)] w
      fun e w' => e = .returned (.tuple #[]) ∧ ∃ bv', w'.cell? ⟨bw, 0, none⟩ = some bv' ∧ w'.frozen? ⟨bw, 0, none⟩ = false ∧ w'.ownsRow (bw + 1) 5 1 bv' (xs ++ ns.map byt).length (byteCells (xs ++ ns.map byt)) ∧ Below bw w w' := by
  obtain ⟨i0, hi, hz0, hz1, hz2⟩ := info_parts infoU8
  go_enter Try.func51, Try.ntmps51
  go_wp2
  have hml : ns.length ≤ 1000 := by omega
  go_loopw [7] (fun i wr => ∃ k : Nat, k ≤ ns.length ∧ i = .int .i64 k ∧ PutRel w blk bw cs (xs ++ (ns.take k).map byt) wr) (fun i _ => ns.length - (intOf i).toNat)
  case atStart => exact ⟨0, by omega, rfl, hblk, by simpa using ⟨bv, hb, hf, hown⟩, Below.refl _ _⟩
  case round =>
    obtain ⟨k, hk, rfl, rb, rv, rbe⟩ := hrel
    clear hb hf hown
    obtain ⟨bv, hb, hf, hown⟩ := rv
    by_cases hlt : k < ns.length
    · have hc : wr.cell? ⟨blk, k, none⟩ = some (.int .i64 (nth ns k)) := by
        rw [cell_of_row wr blk k cs 3 (0, 0) rb]
        exact hcs k hlt
      have hl1 : (xs ++ (ns.take k).map byt).length = xs.length + k := by simp; omega
      have hx : xs ++ (ns.take (k + 1)).map byt = (xs ++ (ns.take k).map byt) ++ [byt (nth ns k)] := by
        rw [List.take_succ_eq_append_getElem hlt, List.map_append, ← List.append_assoc, nth_eq ns k hlt]
        rfl
      have HX := Lib.hid hx; clear hx
      have H1 := Lib.hid hl1; clear hl1
      have hz := rbe.size
      have hnb := Lib.hid hbb; clear hbb
      generalize hys : xs ++ (ns.take k).map byt = ys at *
      clear hys
      rw [H1.out] at hown
      go_wp2_with (at_builtin; refine wpList_append_own _ rfl _ _ 77 rfl (bw + 1) 5 i0 (.int .u8 0) 1 1 undU8s hi hz0 hz1 hz2 rfl (by decide) _ _ _ rfl (hown.alloc _) ⟨wr.heap.size, 0, none⟩ 1 1 [.int .u8 (nth ns k % 256)] rfl rfl ?c1 ?c2 ?c3 ?c4 ?c5 ?_)
      case c1 => exact fun j u h => new_cells (vs := [.int .u8 (nth ns k % 256)]) h
      case c2 => simp [Value.oneCell']
      case c3 => unfold maxLen; omega
      case c4 => omega
      case c5 => simp; omega
      intro v' w1 hown1 hgrow _
      have hob : some blk ≠ bv.ownBlock := by
        intro e
        obtain ⟨-, h2⟩ := hown
        rcases h2 with ⟨rfl, -⟩ | ⟨g, cap, cur, rfl, -, hg, -⟩
        · simp [Value.ownBlock] at e
        · simp only [Value.ownBlock, Option.some.injEq] at e
          rw [← e, rb] at hg
          simp at hg
      have hblt : blk < wr.heap.size := (Array.getElem?_eq_some_iff.1 rb).1
      have e1 : w1.heap[blk]? = wr.heap[blk]? := (hgrow.block blk (by simp; omega) hob).trans (heap_alloc_old wr _ hblt)
      have e2 : w1.heap[bw]? = wr.heap[bw]? := grown_block hown (by omega) (by omega) hgrow
      have B1 : Below bw w w1 := below_grown rbe hown (by omega) (by omega) hgrow
      have hb1 := (cell_blk (o := 0) e2).trans hb
      have hf1 := (frozen_blk (o := 0) e2).trans hf
      have HB := Lib.hid e1; clear e1
      obtain ⟨av, cv, rfl⟩ := own_form hown1
      clear e2 hc hown hgrow
      go_wp2
      go_roundw
      case rel =>
        refine ⟨k + 1, by omega, by go_num, ?_, ⟨.slice av (xs.length + k + 1) cv, ?_, ?_, ?_⟩, B1.setCell (Nat.le_refl _) _⟩
        · rw [Below.heap_setCell _ _ _ _ (by exact hnb.out), HB.out]; exact rb
        · simp [go_sem, hb1]
        · simp [go_sem, hf1]
        · have h2 := ownsRow_setCell_below hown1 (a := ⟨bw, 0, none⟩) (by simp) (.slice av (xs.length + k + 1) cv)
          rw [HX.out]
          have e3 : byteCells (ys ++ [byt (nth ns k)]) = byteCells ys ++ [.int .u8 (nth ns k % 256)] := by simp [byteCells, byt_toNat]
          rw [e3, List.length_append, H1.out]
          exact h2
      case measure => simp [intOf]; omega
    · have hk2 : k = ns.length := by omega
      subst hk2
      rw [List.take_length] at *
      go_wp2
      go_end0
      exact ⟨rfl, bv, hb, hf, hown, rbe⟩
theorem bcellB {B : Nat} {W w1 : World} (hb : Below B W w1) : ∀ b o, b < B → w1.cell? ⟨b, o, none⟩ = W.cell? ⟨b, o, none⟩ :=
  fun b o h => hb.cell (p := ⟨b, o, none⟩) h
def PutOut (bw : Nat) (ys : List UInt8) (w w' : World) : Prop :=
  (∃ bv, w'.cell? ⟨bw, 0, none⟩ = some bv ∧ w'.frozen? ⟨bw, 0, none⟩ = false ∧ w'.ownsRow (bw + 1) 5 1 bv ys.length (byteCells ys)) ∧ Below bw w w'
theorem PutOut.lt {bw : Nat} {ys : List UInt8} {w0 w : World} (h : PutOut bw ys w0 w) : bw < w.heap.size := by
  obtain ⟨⟨bv, h1, -, -⟩, -⟩ := h
  exact World.block_lt_of_cell? w ⟨bw, 0, none⟩ h1
theorem PutOut.alloc {bw : Nat} {ys : List UInt8} {w0 w : World} (h : PutOut bw ys w0 w) (hbw : bw < w.heap.size) (o : Obj) : PutOut bw ys w0 (w.alloc o) := by
  obtain ⟨⟨bv, h1, h2, h3⟩, h4⟩ := h
  have e2 : (w.alloc o).heap[bw]? = w.heap[bw]? := heap_alloc_old _ _ hbw
  exact ⟨⟨bv, (cell_blk e2).trans h1, (frozen_blk e2).trans h2, h3.alloc _⟩, h4.alloc (by omega) _⟩
theorem put_new (ns : List Int) (n bw c blk : Nat) (xs : List UInt8) (w0 w : World) (o : Obj) (hn : n = ns.length) (hblk : blk = w.heap.size) (ho : o = .cells (ns.map (Value.int .i64)).toArray 3) (h : PutOut bw xs w0 w) (hsz : xs.length + ns.length ≤ 1000) (hbw : bw < w.heap.size) :
    Calls Try.prog 51 #[.slice (some ⟨blk, 0, none⟩) n c, .pointer (some ⟨bw, 0, none⟩)] (w.alloc o)
      fun e w' => e = .returned (.tuple #[]) ∧ PutOut bw (xs ++ ns.map byt) w0 w' := by
  subst ho hblk hn
  obtain ⟨⟨bv, h1, h2, h3⟩, h4⟩ := h
  have e2 : (w.alloc (.cells (ns.map (Value.int .i64)).toArray 3)).heap[bw]? = w.heap[bw]? := heap_alloc_old _ _ hbw
  refine (put_calls ns w.heap.size bw c bv xs _ _ (heap_alloc_new w _) ?_ (by omega) ((cell_blk e2).trans h1) ((frozen_blk e2).trans h2) (h3.alloc _) hsz (by simp; omega)).mono ?_
  · intro k hk
    simp [nth, hk]
  · rintro e w' ⟨rfl, bv', g1, g2, g3, g4⟩
    exact ⟨rfl, ⟨bv', g1, g2, g3⟩, (h4.alloc (by omega) _).trans g4⟩
theorem conv_own {base n : Nat} {w : World} {v : Value} {l : List UInt8} (h : w.ownsRow base 5 1 v n (byteCells l)) : (convert 77 9 v).run Try.prog w = .ok (.string (BA l)) w := by
  have hl : l.length = n := by simpa [byteCells] using h.1
  have h2 := h.2
  rcases h2 with ⟨rfl, rfl⟩ | ⟨g, cap, cur, rfl, -⟩
  · have : l = [] := List.eq_nil_of_length_eq_zero hl
    subst this
    exact run_convert_bytes_nil w _ _ undU8s undU8 0 0 _ undStr
  · have hc := h.cells (g := g) rfl
    have := run_convert_bytes_back (P := Try.prog) w 77 9 5 ⟨g, 0, none⟩ cap l undU8s undU8 undStr (fun j hj => hc j _ (by simp [byteCells, hj]))
    rw [hl] at this
    exact this
theorem strCells_eq (s : ByteArray) : Lib.strCells s = byteCells s.data.toList := rfl
set_option maxHeartbeats 2000000 in
set_option maxRecDepth 100000 in
theorem bytes_calls (S : Nat → Prop) (e : Entry) (lv : Value) (w : World) (hl : IdsIn S w lv e.ls) (ht : e.t.size ≤ 12) (h6 : e.ls.length ≤ 6) :
    Calls Try.prog 27 #[.agg #[.int .i64 e.id.r, .int .i64 e.id.n, .int .i64 e.c, .string e.t, lv]] w fun x w' => x = .returned (.string (BA (encL e))) ∧ Below w.heap.size w w' := by
  obtain ⟨a, c, rfl, hc1, hc2⟩ := hl.form
  have HL := Lib.hid hl; clear hl
  have hmf : ∀ (fn : Fn) (first cap : Array Value) (w : World), (Instr.makeFunc fn first cap).run Try.prog w = .ok (.func fn first cap) w := fun _ _ _ _ => rfl
  go_enter Try.func27, Try.ntmps27
  go_wp2_with fail
  refine (put_new [e.id.r, e.id.n, e.c, e.ls.length] 4 _ _ _ [] (w.alloc (.cells #[.int .i64 e.id.r, .int .i64 e.id.n, .int .i64 e.c, .string e.t, .slice a e.ls.length c] 44)) _ _ rfl ?_ rfl ⟨⟨_, ?_, ?_, World.ownsRow_nil _ _ _ _⟩, ?_⟩ ?_ ?_).mono ?_
  · simp
  · simp [go_sem]
  · simp [go_sem]
  · exact (Below.refl _ _).alloc (by simp) _
  · simp
  · simp
  rintro x w1 ⟨rfl, hp⟩
  have hk := bcellB hp.2
  have hz := hp.2.size
  simp only [World.size_alloc] at hz
  go_wp2_with fail
  go_loopw [25] (fun i wr => ∃ k : Nat, k ≤ e.ls.length ∧ i = .int .i64 k ∧ PutOut (w.heap.size + 1) (preL e k) (w.alloc (.cells #[.int .i64 e.id.r, .int .i64 e.id.n, .int .i64 e.c, .string e.t, .slice a e.ls.length c] 44)) wr) (fun i _ => e.ls.length - (intOf i).toNat)
  case atStart => exact ⟨0, by omega, rfl, hp⟩
  case round =>
    obtain ⟨k, hk', rfl, hpk⟩ := hrel
    clear hk hp
    have hk := bcellB hpk.2
    have hzk := hpk.2.size
    simp only [World.size_alloc] at hzk
    have hzl := hpk.lt
    have hl := preL_len e k hk'
    have HK := Lib.hid hl; clear hl
    by_cases hlt : k < e.ls.length
    · obtain ⟨b, o, rfl, -, hbs, c1, c2⟩ := (HL.out.keep (w' := wr) (by omega) (fun b' _ h => (hpk.2.block b' (by omega)).trans (heap_alloc_old w _ h))).get hlt
      go_wp2_with fail
      refine (put_new [(nth e.ls k).r, (nth e.ls k).n] 2 _ _ _ (preL e k) (w.alloc (.cells #[.int .i64 e.id.r, .int .i64 e.id.n, .int .i64 e.c, .string e.t, .slice (some ⟨b, o, none⟩) e.ls.length c] 44)) _ _ rfl ?_ rfl (hpk.alloc ?_ _) ?_ ?_).mono ?_
      · simp
      · omega
      · rw [HK.out]; simp; omega
      · simp; omega
      rintro x w2 ⟨rfl, hp2⟩
      go_wp2_with fail
      go_roundw
      case rel => exact ⟨k + 1, by omega, by go_num, by rw [preL_succ e k hlt]; exact hp2⟩
      case measure => simp [intOf]; omega
    · obtain rfl : k = e.ls.length := by omega
      go_wp2_with fail
      refine (put_new [(e.t.size : Int)] 1 _ _ _ (preL e e.ls.length) (w.alloc (.cells #[.int .i64 e.id.r, .int .i64 e.id.n, .int .i64 e.c, .string e.t, .slice a e.ls.length c] 44)) _ _ rfl ?_ rfl hpk ?_ ?_).mono ?_
      · simp
      · rw [HK.out]; simp; omega
      · omega
      rintro x w2 ⟨rfl, hp2⟩
      clear hk
      have hk := bcellB hp2.2
      have hz2 := hp2.lt
      obtain ⟨i0, hi, hz0, hz1, hz3⟩ := info_parts infoU8
      obtain ⟨⟨bv, q1, q2, q3⟩, q4⟩ := hp2
      obtain ⟨av, cv, rfl⟩ := own_form q3
      have hys : preL e e.ls.length ++ [(e.t.size : Int)].map byt ++ e.t.data.toList = encL e := by simp [preL, encL]
      have hyl : (preL e e.ls.length ++ [(e.t.size : Int)].map byt).length ≤ 100 := by rw [List.length_append, HK.out]; simp; omega
      generalize preL e e.ls.length ++ [(e.t.size : Int)].map byt = ys at *
      have HY := Lib.hid hys; clear hys
      go_wp2_with (at_builtin; refine Lib.wpList_append_own_string _ rfl _ _ 77 9 rfl (w.heap.size + 1 + 1) 5 i0 undU8s undStr hi hz0 hz1 hz3 _ _ _ rfl q3 e.t rfl ?c1 ?c2 ?c3 ?_)
      case c1 => unfold maxLen; omega
      case c2 => omega
      case c3 => omega
      intro v' w3 hown3 hgrow _
      have hown4 : w3.ownsRow (w.heap.size + 1 + 1) 5 1 v' (ys.length + e.t.size) (byteCells (encL e)) := by
        rw [← HY.out]
        simpa [byteCells, strCells_eq] using hown3
      have hcv := conv_own hown4
      have B3 : Below w.heap.size w w3 := ((((Below.refl _ _).alloc (Nat.le_refl _) _).trans (q4.mono (by omega))).grown hgrow (by omega) (fun k hk => by have := (q3.lt k hk).1; omega))
      clear hown3 hown4 hgrow hk q1 q2 q3 q4
      go_wp2
      go_ret
      exact ⟨rfl, B3⟩
end Go.Proofs.Ytkibfciheifphaa
/- The walk through Encode. -/
namespace Go.Proofs.Ytkibfciheifphaa
open Go.RowKit
end Go.Proofs.Ytkibfciheifphaa
/- Walks through the reader of bytes: what is not there gives up by a panic. -/
namespace Go.Proofs.Ytkibfciheifphaa
set_option linter.unusedSimpArgs false
set_option linter.unusedVariables false
open Go.RowKit
theorem BA_take (t : List UInt8) (n : Nat) : (BA t).extract 0 n = BA (t.take n) := by
  apply ByteArray.ext
  simp [BA]
theorem BA_drop (t : List UInt8) (n : Nat) : (BA t).extract n t.length = BA (t.drop n) := by
  apply ByteArray.ext
  simp [BA]
  rw [List.take_of_length_le (by simp)]
abbrev gaveUp (c : Int) : Ending := .panicked [{ v := .iface 25 (.int .i64 c), recovered := false }]
theorem take_calls (t : List UInt8) (n blk : Nat) (w : World) (hc : w.cell? ⟨blk, 0, none⟩ = some (.string (BA t))) (hf : w.frozen? ⟨blk, 0, none⟩ = false) (hnt : n ≤ t.length) :
    Calls Try.prog 98 #[.pointer (some ⟨blk, 0, none⟩), .int .i64 n] w fun e w' => e = .returned (.string (BA (t.take n))) ∧ w' = w.setCell ⟨blk, 0, none⟩ (.string (BA (t.drop n))) := by
  have a1 := BA_take
  have a2 := BA_drop
  have a3 := BA_size
  go_enter Try.func98, Try.ntmps98
  go_wp2
  go_ret
  exact ⟨rfl, rfl⟩
theorem take_none (t : List UInt8) (n blk : Nat) (w : World) (hc : w.cell? ⟨blk, 0, none⟩ = some (.string (BA t))) (hnt : t.length < n) :
    Calls Try.prog 98 #[.pointer (some ⟨blk, 0, none⟩), .int .i64 n] w fun e w' => e = gaveUp 5 ∧ w' = w := by
  have a3 := BA_size
  go_enter Try.func98, Try.ntmps98
  go_wp2
  exact ⟨rfl, rfl, rfl⟩
theorem ix0 (b : UInt8) (W : World) : (Instr.index 9 (.string (BA [b])) (.int .i64 0)).run Try.prog W = .ok (.int .u8 b.toNat) W := by kernel_rfl
theorem one_calls (b : UInt8) (t : List UInt8) (blk : Nat) (w : World) (hc : w.cell? ⟨blk, 0, none⟩ = some (.string (BA (b :: t)))) (hf : w.frozen? ⟨blk, 0, none⟩ = false) :
    Calls Try.prog 97 #[.pointer (some ⟨blk, 0, none⟩)] w fun e w' => e = .returned (.int .i64 b.toNat) ∧ w' = w.setCell ⟨blk, 0, none⟩ (.string (BA t)) := by
  have hx := ix0 b
  have hb : (b.toNat : Int) < 256 := by have := b.toNat_lt; omega
  go_enter Try.func97, Try.ntmps97
  go_wp2_with (go_at_call 98; refine (take_calls (b :: t) 1 blk _ hc hf (by simp)).mono ?_; rintro e w1 ⟨rfl, rfl⟩)
  go_ret
  exact ⟨rfl, rfl⟩
theorem one_none (blk : Nat) (w : World) (hc : w.cell? ⟨blk, 0, none⟩ = some (.string (BA []))) :
    Calls Try.prog 97 #[.pointer (some ⟨blk, 0, none⟩)] w fun e w' => e = gaveUp 5 ∧ w' = w := by
  go_enter Try.func97, Try.ntmps97
  go_wp2_with (go_at_call 98; refine (take_none [] 1 blk _ hc (by simp)).mono ?_; rintro e w1 ⟨rfl, rfl⟩)
  exact ⟨rfl, rfl, rfl⟩
def Moved (blk : Nat) (t : List UInt8) (w w' : World) : Prop :=
  w.grownBy w' (some blk) ∧ w'.cell? ⟨blk, 0, none⟩ = some (.string (BA t)) ∧ w'.frozen? ⟨blk, 0, none⟩ = false
theorem grown_setCell {w w' : World} {blk : Nat} (h : w.grownBy w' (some blk)) (v : Value) : w.grownBy (w'.setCell ⟨blk, 0, none⟩ v) (some blk) :=
  ⟨h.os, h.tape, h.output, by simpa using h.size, fun k hk hne => (Below.heap_setCell _ _ _ _ (by intro e; exact hne (by rw [e]))).trans (h.block k hk hne)⟩
theorem grown_other {w w' : World} {blk b o : Nat} (h : w.grownBy w' (some blk)) (hb : w.heap.size ≤ b) (v : Value) : w.grownBy (w'.setCell ⟨b, o, none⟩ v) (some blk) :=
  ⟨h.os, h.tape, h.output, by simpa using h.size, fun k hk hne' => (Below.heap_setCell _ _ _ _ (by simp; omega)).trans (h.block k hk hne')⟩
theorem grown_alloc {w w' : World} {row : Option Nat} (h : w.grownBy w' row) (o : Obj) : w.grownBy (w'.alloc o) row :=
  ⟨h.os, h.tape, h.output, by have := h.size; simp; omega, fun k hk hne => (heap_alloc_old _ _ (Nat.lt_of_lt_of_le hk h.size)).trans (h.block k hk hne)⟩
theorem grown_refl (w : World) (row : Option Nat) : w.grownBy w row := ⟨rfl, rfl, rfl, Nat.le_refl _, fun _ _ _ => rfl⟩
theorem grown_trans {a b c : World} {row : Option Nat} (h : a.grownBy b row) (k : b.grownBy c row) : a.grownBy c row :=
  ⟨k.os.trans h.os, k.tape.trans h.tape, k.output.trans h.output, Nat.le_trans h.size k.size, fun i hi hne => (k.block i (Nat.lt_of_lt_of_le hi h.size) hne).trans (h.block i hi hne)⟩
def Rd {α : Type} (blk : Nat) (w : World) (val : α → Value) (r : Except Int (α × List UInt8)) (e : Ending) (w' : World) : Prop :=
  match r with
  | .error c => e = gaveUp c ∧ w.grownBy w' (some blk)
  | .ok (x, t) => e = .returned (val x) ∧ Moved blk t w w'
theorem id_read (t : List UInt8) (blk : Nat) (w : World) (hc : w.cell? ⟨blk, 0, none⟩ = some (.string (BA t))) (hf : w.frozen? ⟨blk, 0, none⟩ = false) (hb : blk < w.heap.size) :
    Calls Try.prog 96 #[.pointer (some ⟨blk, 0, none⟩)] w (Rd blk w (fun x : Id => .agg #[.int .i64 x.r, .int .i64 x.n]) (rdId t)) := by
  have hne : blk ≠ w.heap.size := by omega
  have hne' : w.heap.size ≠ blk := by omega
  match t with
  | [] =>
    go_enter Try.func96, Try.ntmps96
    go_wp2_with (go_at_call 97; refine (one_none blk _ ?_).mono ?_; (simp [go_sem, hc, hb]); rintro e w1 ⟨rfl, rfl⟩)
    exact ⟨rfl, rfl, grown_alloc (grown_refl _ _) _⟩
  | a :: t =>
    by_cases ha : 1 < a
    · have ha' : (1 : Int) < (a.toNat : Int) := by have := UInt8.lt_iff_toNat_lt.1 ha; simp at this; omega
      have HR : Hid (rdId (a :: t) = .error 1) := by show _ = _; simp [rdId, ha]
      rw [HR.out]
      clear ha
      go_enter Try.func96, Try.ntmps96
      go_wp2_with (go_at_call 97; refine (one_calls a t blk _ ?_ ?_).mono ?_; (simp [go_sem, hc, hb]); (simp [go_sem, hf, hb]); rintro e w1 ⟨rfl, rfl⟩)
      exact ⟨rfl, rfl, by (repeat (first | with_reducible exact grown_refl _ _ | with_reducible assumption | with_reducible refine grown_alloc ?_ _ | with_reducible refine grown_setCell ?_ _ | with_reducible refine grown_other ?_ (by first | (simp; done) | (simp; omega) | omega) _))⟩
    · have ha' : ¬ (1 : Int) < (a.toNat : Int) := by
        intro h; apply ha; rw [UInt8.lt_iff_toNat_lt]; simp; omega
      match t with
      | [] =>
        have HR : Hid (rdId [a] = .error 5) := by show _ = _; simp [rdId, ha]
        rw [HR.out]
        clear ha
        go_enter Try.func96, Try.ntmps96
        go_wp2_with fail
        refine (one_calls a [] blk _ (by simp [go_sem, hc, hb]) (by simp [go_sem, hf, hb])).mono ?_
        rintro x w1 ⟨rfl, rfl⟩
        go_wp2_with fail
        refine (one_none blk _ (by simp [go_sem, hc, hb])).mono ?_
        rintro x w1 ⟨rfl, rfl⟩
        go_wp2
        exact ⟨rfl, rfl, by (repeat (first | with_reducible exact grown_refl _ _ | with_reducible assumption | with_reducible refine grown_alloc ?_ _ | with_reducible refine grown_setCell ?_ _ | with_reducible refine grown_other ?_ (by first | (simp; done) | (simp; omega) | omega) _))⟩
      | b :: t =>
        have HR : Hid (rdId (a :: b :: t) = .ok (⟨a.toNat, b.toNat⟩, t)) := by show _ = _; simp [rdId, ha]
        rw [HR.out]
        clear ha
        go_enter Try.func96, Try.ntmps96
        go_wp2_with fail
        refine (one_calls a (b :: t) blk _ (by simp [go_sem, hc, hb]) (by simp [go_sem, hf, hb])).mono ?_
        rintro x w1 ⟨rfl, rfl⟩
        go_wp2_with fail
        refine (one_calls b t blk _ (by simp [go_sem, hc, hb]) (by simp [go_sem, hf, hb])).mono ?_
        rintro x w1 ⟨rfl, rfl⟩
        go_wp2
        exact bodyPost_ret (v := .agg #[.int .i64 a.toNat, .int .i64 b.toNat]) (by simp [results, Try.results96, go_sem]) rfl ⟨rfl, by (repeat (first | with_reducible exact grown_refl _ _ | with_reducible assumption | with_reducible refine grown_alloc ?_ _ | with_reducible refine grown_setCell ?_ _ | with_reducible refine grown_other ?_ (by first | (simp; done) | (simp; omega) | omega) _)), by simp [go_sem, hc, hb], by simp [go_sem, hf, hb]⟩
def idCells (l : List Id) : List Value := l.flatMap fun x => [.int .i64 x.r, .int .i64 x.n]
structure RdLoop (w0 : World) (blk be : Nat) (x : Id) (c : Int) (l : List Id) (t : List UInt8) (w : World) : Prop where
  gr : w0.grownBy w (some blk)
  s : w.cell? ⟨blk, 0, none⟩ = some (.string (BA t))
  f : w.frozen? ⟨blk, 0, none⟩ = false
  c0 : w.cell? ⟨be, 0, none⟩ = some (.int .i64 x.r)
  c1 : w.cell? ⟨be, 1, none⟩ = some (.int .i64 x.n)
  c2 : w.cell? ⟨be, 2, none⟩ = some (.int .i64 c)
  c3 : w.cell? ⟨be, 3, none⟩ = some (.string (BA []))
  cl : ∃ lv, w.cell? ⟨be, 4, none⟩ = some lv ∧ w.ownsRow (be + 1) 41 2 lv l.length (idCells l)
  fe : ∀ o, w.frozen? ⟨be, o, none⟩ = false
  z0 : w0.heap.size ≤ be
  zb : be < w.heap.size
theorem grown_drew {w w' : World} {row : Option Nat} (h : w.drew.grownBy w' row) : w.grownBy w' row := ⟨h.os, h.tape, h.output, h.size, h.block⟩
theorem grown_blk {w w1 : World} {row : Option Nat} {b : Nat} (hg : w.grownBy w1 row) (hb : b < w.heap.size) (hne : some b ≠ row) : w1.heap[b]? = w.heap[b]? := hg.block b hb hne
def RdE (blk : Nat) (w : World) (r : Except Int (Entry × List UInt8)) (e : Ending) (w' : World) : Prop :=
  match r with
  | .error c => e = gaveUp c ∧ w.grownBy w' (some blk)
  | .ok (x, t) => ∃ lv, e = .returned (.agg #[.int .i64 x.id.r, .int .i64 x.id.n, .int .i64 x.c, .string x.t, lv]) ∧ Moved blk t w w' ∧ w'.ownsRow w.heap.size 41 2 lv x.ls.length (idCells x.ls)
theorem any_good {P : Program} {ops : Array Oper} {Q : Exit → Act → World → Prop} {w : World} (Good : Nat → Array Bool → Act → Prop) (h0 : ∀ l a, ¬ Good 0 l a) (hr : ∀ f l a, Good f l a → Region.ready .any ops l ≠ [])
    (hs : ∀ f l a i, Good (f + 1) l a → i ∈ Region.ready .any ops l → wpOp P ops Q i (fun a' w' => w' = w ∧ Good f (l.setIfInBounds i true) a') a w) : ∀ f l a, Good f l a → wpAny P .any ops Q f l a w
  | 0, l, a, h => absurd h (h0 l a)
  | f + 1, l, a, h => ⟨fun e => absurd e (hr _ _ _ h), fun i hi => wpOp_mono (fun a' w' ⟨hw, hg⟩ => by subst hw; exact any_good Good h0 hr hs f _ _ hg) (hs f l a i h hi)⟩
theorem put_get (a : Act) (d t : Nat) (v : Value) (h : d < a.tmps.size) : (a.put (some d) v).tmps.getD t undef = if t = d then v else a.tmps.getD t undef := by
  simp only [Act.put, Array.getD_eq_getD_getElem?, Array.getElem?_setIfInBounds]
  by_cases e : d = t
  · subst e; simp [h]
  · simp [e, Ne.symm e]
theorem put_size (a : Act) (d : Option Nat) (v : Value) : (a.put d v).tmps.size = a.tmps.size := by cases d <;> simp [Act.put]
theorem put_defers (a : Act) (d : Option Nat) (v : Value) : (a.put d v).defers = a.defers := by cases d <;> rfl
def Good6 (blk be : Nat) (f : Nat) (ls : Array Bool) (ac : Act) : Prop := ∃ b0 b1 b2 b6 : Bool, ls = #[b0, b1, b2, false, false, false, b6, false] ∧ 8 ≤ f + (b0.toNat + b1.toNat + b2.toNat + b6.toNat) ∧ ac.defers = [] ∧ ac.tmps.size = 32 ∧
  ac.tmps.getD 0 undef = .pointer (some ⟨blk, 0, none⟩) ∧ ac.tmps.getD 3 undef = .pointer (some ⟨be, 0, none⟩) ∧ (b0 = true → ac.tmps.getD 18 undef = .pointer (some ⟨be, 4, none⟩)) ∧ (b1 = true → b0 = true) ∧ (b2 = true → ac.tmps.getD 20 undef = .pointer (some ⟨blk, 0, none⟩))
theorem grown_own {w0 w3 w4 : World} {row : Option Nat} {base size n : Nat} {e : TypeId} {v : Value} {xs : List Value} {o : Obj} (h : w0.grownBy w3 row) (hg : (w3.alloc o).grownBy w4 v.ownBlock) (hown : w3.ownsRow base e size v n xs) (hb : w0.heap.size ≤ base) : w0.grownBy w4 row := by
  have h1 : w0.grownBy (w3.alloc o) row := grown_alloc h o
  refine ⟨hg.os.trans h1.os, hg.tape.trans h1.tape, hg.output.trans h1.output, Nat.le_trans h1.size hg.size, fun k hk hne => ?_⟩
  exact (hg.block k (Nat.lt_of_lt_of_le hk h1.size) (own_ne hown (by omega))).trans (h1.block k hk hne)
theorem RdLoop.next {w0 wr w3 w4 : World} {blk be gg cap : Nat} {x y : Id} {c : Int} {l : List Id} {t' t2 : List UInt8} {v : Value} {o : Obj} (hR : RdLoop w0 blk be x c l t' wr) (hg : wr.grownBy w3 (some blk)) (hs : w3.cell? ⟨blk, 0, none⟩ = some (.string (BA t2)))
    (hf : w3.frozen? ⟨blk, 0, none⟩ = false) (hb : blk < w0.heap.size) (hown3 : w3.ownsRow (be + 1) 41 2 v l.length (idCells l)) (hgrow : (w3.alloc o).grownBy w4 v.ownBlock)
    (hown4 : w4.ownsRow (be + 1) 41 2 (.slice (some ⟨gg, 0, none⟩) (l.length + 1) cap) (l.length + 1) (idCells l ++ [.int .i64 y.r, .int .i64 y.n])) :
    RdLoop w0 blk be x c (l ++ [y]) t2 (w4.setCell ⟨be, 4, none⟩ (.slice (some ⟨gg, 0, none⟩) (l.length + 1) cap)) := by
  have z0 := hR.z0
  have zb := hR.zb
  have g0 := grown_trans hR.gr hg
  have z3 : be < w3.heap.size := Nat.lt_of_lt_of_le zb hg.size
  have eb : w4.heap[be]? = wr.heap[be]? := (grown_block hown3 (by omega) z3 hgrow).trans (hg.block be zb (by simp; omega))
  have ek : w4.heap[blk]? = w3.heap[blk]? := grown_block hown3 (by omega) (by omega) hgrow
  have g4 := grown_own g0 hgrow hown3 (by omega)
  have ne : blk ≠ be := by omega
  have c4 : w4.cell? ⟨be, 4, none⟩ ≠ none := by
    obtain ⟨lv, h1, -⟩ := hR.cl
    rw [cell_blk (o := 4) eb, h1]; simp
  obtain ⟨u, hu⟩ := Option.ne_none_iff_exists'.1 c4
  have far : ∀ j, j ≠ 4 → (w4.setCell ⟨be, 4, none⟩ (.slice (some ⟨gg, 0, none⟩) (l.length + 1) cap)).cell? ⟨be, j, none⟩ = wr.cell? ⟨be, j, none⟩ := by
    intro j hj
    rw [← cell_blk (o := j) eb]
    simp [go_sem]
  refine ⟨grown_other g4 z0 _, ?_, ?_, ?_, ?_, ?_, ?_, ⟨.slice (some ⟨gg, 0, none⟩) (l.length + 1) cap, ?_, ?_⟩, ?_, z0, ?_⟩
  · rw [← hs, ← cell_blk (o := 0) ek]; simp [go_sem]
  · rw [← hf, ← frozen_blk (o := 0) ek]; simp [go_sem]
  · rw [far 0 (by decide)]; exact hR.c0
  · rw [far 1 (by decide)]; exact hR.c1
  · rw [far 2 (by decide)]; exact hR.c2
  · rw [far 3 (by decide)]; exact hR.c3
  · simp [go_sem, hu]
  · have e3 : idCells (l ++ [y]) = idCells l ++ [.int .i64 y.r, .int .i64 y.n] := by simp [idCells]
    rw [e3, List.length_append]
    exact ownsRow_setCell_below hown4 (by simp) _
  · intro o'
    rw [← hR.fe o', ← frozen_blk (o := o') eb]; simp [go_sem]
  · have := hgrow.size; simp at this ⊢; omega
theorem own_mono {w : World} {base base' size n : Nat} {e : TypeId} {v : Value} {xs : List Value} (h : w.ownsRow base e size v n xs) (hb : base' ≤ base) : w.ownsRow base' e size v n xs := by
  refine ⟨h.1, ?_⟩
  rcases h.2 with h2 | ⟨g, cap, cur, hv, hg, r⟩
  · exact .inl h2
  · exact .inr ⟨g, cap, cur, hv, Nat.le_trans hb hg, r⟩
theorem infoId : (Try.prog.info? 41).map (fun i => (i.zero, i.size, i.bytes)) = some (some (.agg #[.int .i64 0, .int .i64 0]), 2, 16) := by kernel_rfl
theorem undIds : Try.prog.underlying 42 = some (.slice 41) := by kernel_rfl
theorem entry_end (w wr : World) (blk be bw n : Nat) (t2 : List UInt8) (s1 s3 v0 v1 v2 v3 v4 lv : Value) (xs : List Value) (r1 : ∃ u, wr.cell? ⟨blk, 0, none⟩ = some u) (r2 : wr.frozen? ⟨blk, 0, none⟩ = false)
    (gW : w.grownBy wr (some blk)) (hb : blk < bw) (hbw : bw = w.heap.size) (hbe : bw < be) (hown : wr.ownsRow (be + 1) 41 2 lv n xs) :
    Moved blk t2 w ((((((((wr.setCell ⟨blk, 0, none⟩ s1).setCell ⟨blk, 0, none⟩ (.string (BA t2))).setCell ⟨be, 3, none⟩ s3).setCell ⟨bw, 0, none⟩ v0).setCell ⟨bw, 1, none⟩ v1).setCell ⟨bw, 2, none⟩ v2).setCell ⟨bw, 3, none⟩ v3).setCell ⟨bw, 4, none⟩ v4) ∧
    ((((((((wr.setCell ⟨blk, 0, none⟩ s1).setCell ⟨blk, 0, none⟩ (.string (BA t2))).setCell ⟨be, 3, none⟩ s3).setCell ⟨bw, 0, none⟩ v0).setCell ⟨bw, 1, none⟩ v1).setCell ⟨bw, 2, none⟩ v2).setCell ⟨bw, 3, none⟩ v3).setCell ⟨bw, 4, none⟩ v4).ownsRow w.heap.size 41 2 lv n xs := by
  obtain ⟨u, r1⟩ := r1
  have n1 : blk ≠ bw := by omega
  have n2 : blk ≠ be := by omega
  refine ⟨⟨by (repeat (first | with_reducible exact grown_refl _ _ | with_reducible assumption | with_reducible refine grown_alloc ?_ _ | with_reducible refine grown_setCell ?_ _ | with_reducible refine grown_other ?_ (by first | (simp; done) | (simp; omega) | omega) _)), ?_, ?_⟩, ?_⟩
  · simp [go_sem, r1]
  · simp [go_sem, r2]
  · refine own_mono (base := be + 1) ?_ (by omega)
    repeat (refine ownsRow_setCell_below ?_ (by first | (simp; done) | (simp; omega)) _)
    exact hown
set_option maxHeartbeats 4000000 in
set_option maxRecDepth 100000 in
theorem entry_loop (t0 : List UInt8) (blk : Nat) (w : World) (hc : w.cell? ⟨blk, 0, none⟩ = some (.string (BA t0))) (hf : w.frozen? ⟨blk, 0, none⟩ = false) (hb : blk < w.heap.size) (x : Id) (a n : UInt8) (t : List UInt8) (h1 : rdId t0 = .ok (x, a :: n :: t)) :
    Calls Try.prog 91 #[.pointer (some ⟨blk, 0, none⟩)] w (RdE blk w (rdTail x a.toNat (rdIds n.toNat t))) := by
  have hne : blk ≠ w.heap.size := by omega
  have hne' : w.heap.size ≠ blk := by omega
  have hn : (n.toNat : Int) < 256 := by have := n.toNat_lt; omega
  go_enter Try.func91, Try.ntmps91
  go_wp2_with fail
  refine (id_read t0 blk _ (by simp [go_sem, hc, hb]) (by simp [go_sem, hf, hb]) (by simp; omega)).mono ?_
  intro e w1 h
  rw [h1] at h
  obtain ⟨rfl, hg, hs, hfz⟩ := h
  have hz := hg.size
  simp only [World.size_alloc] at hz
  have hk := cell_blk (o := 0) (grown_blk hg (b := w.heap.size) (by simp) (by simp; omega))
  have z1 : blk ≠ w1.heap.size := by omega
  have z2 : w1.heap.size ≠ blk := by omega
  have z3 : blk < w1.heap.size := by omega
  go_wp2_with fail
  refine (one_calls a (n :: t) blk _ (by simp [go_sem, hs, z3]) (by simp [go_sem, hfz, z3])).mono ?_
  rintro e w2 ⟨rfl, rfl⟩
  go_wp2_with fail
  refine (one_calls n t blk _ (by simp [go_sem, hs, z3]) (by simp [go_sem, hfz, z3])).mono ?_
  rintro e w2 ⟨rfl, rfl⟩
  go_wp2_with fail
  obtain ⟨w0, hw0⟩ : ∃ w0, w0 = w.alloc (.cells #[.int .i64 0, .int .i64 0, .int .i64 0, .string { data := #[] }, .slice none 0 0] 44) := ⟨_, rfl⟩
  rw [← hw0] at hg hk
  have W0 := Lib.hid hw0
  have hz0 : w0.heap.size = w.heap.size + 1 := by rw [hw0]; simp
  have HZ := Lib.hid hz0; clear hz0
  have GW : Hid (∀ w', w0.grownBy w' (some blk) → w.grownBy w' (some blk)) := fun w' h => grown_trans (by rw [hw0]; exact grown_alloc (grown_refl _ _) _) h
  clear hw0
  go_loopw [4] (fun i wr => ∃ (m : Nat) (l : List Id) (t' : List UInt8), i = .int .i64 m ∧ m ≤ 255 ∧ l.length + m ≤ 255 ∧ Hid (rdIds n.toNat t = rdApp l (rdIds m t')) ∧ RdLoop w0 blk w1.heap.size x a.toNat l t' wr) (fun i _ => (intOf i).toNat)
  case atStart =>
    refine ⟨n.toNat, [], t, rfl, by omega, by simp; omega, ?_, ?_⟩
    · show _ = _
      cases rdIds n.toNat t <;> simp [rdApp]
    · refine ⟨by (repeat (first | with_reducible exact grown_refl _ _ | with_reducible assumption | with_reducible refine grown_alloc ?_ _ | with_reducible refine grown_setCell ?_ _ | with_reducible refine grown_other ?_ (by first | (simp; done) | (simp; omega) | omega) _)), by simp [go_sem, hs, z3], by simp [go_sem, hfz, z3], by simp [go_sem], by simp [go_sem], by simp [go_sem], by simp [go_sem]; rfl, ⟨.slice none 0 0, by simp [go_sem], World.ownsRow_nil _ _ _ _⟩, fun o => by simp [go_sem], by rw [HZ.out]; omega, by simp⟩
  case round =>
    obtain ⟨m, l, t', rfl, hm1, hm2, hT, hR⟩ := hrel
    cases m with
    | zero =>
      have r1 := hR.s
      have r2 := hR.f
      have c0 := hR.c0
      have c1 := hR.c1
      have c2 := hR.c2
      have c3 := hR.c3
      have fe := hR.fe
      obtain ⟨lv, c4, hown⟩ := hR.cl
      obtain ⟨av, cv, rfl⟩ := own_form hown
      have zb := hR.zb
      have z0 := hR.z0
      have GR := Lib.hid hR.gr
      have zw : w.heap.size < w1.heap.size := by have := HZ.out; omega
      have zr : w.heap.size < wr.heap.size := by omega
      have zr2 : blk < wr.heap.size := by omega
      have kk : wr.heap[w.heap.size]? = w0.heap[w.heap.size]? := grown_blk hR.gr (by rw [HZ.out]; omega) (by simp; omega)
      have qq : ∀ j, j < 5 → ∃ u, wr.cell? ⟨w.heap.size, j, none⟩ = some u := by
        intro j hj
        rw [cell_blk (o := j) kk, W0.out]
        match j, hj with
        | 0, _ => exact ⟨_, by simp [go_sem]; rfl⟩
        | 1, _ => exact ⟨_, by simp [go_sem]; rfl⟩
        | 2, _ => exact ⟨_, by simp [go_sem]; rfl⟩
        | 3, _ => exact ⟨_, by simp [go_sem]; rfl⟩
        | 4, _ => exact ⟨_, by simp [go_sem]; rfl⟩
      have qf : ∀ j, wr.frozen? ⟨w.heap.size, j, none⟩ = false := by
        intro j
        rw [frozen_blk (o := j) kk, W0.out]
        simp [go_sem]
      clear kk hR
      obtain ⟨u0, k0⟩ := qq 0 (by omega)
      obtain ⟨u1, k1⟩ := qq 1 (by omega)
      obtain ⟨u2, k2⟩ := qq 2 (by omega)
      obtain ⟨u3, k3⟩ := qq 3 (by omega)
      obtain ⟨u4, k4⟩ := qq 4 (by omega)
      clear qq
      have ne1 : blk ≠ w1.heap.size := by have := HZ.out; omega
      have ne2 : w1.heap.size ≠ blk := Ne.symm ne1
      have ne3 : w.heap.size ≠ w1.heap.size := by omega
      have ne4 : w1.heap.size ≠ w.heap.size := Ne.symm ne3
      match t' with
      | [] =>
        have HE : Hid (rdTail x a.toNat (rdIds n.toNat t) = .error 5) := by show _ = _; rw [hT.out]; simp [rdIds, rdApp, rdTail]
        go_wp2_with fail
        refine (one_none blk _ r1).mono ?_
        rintro e w3 ⟨rfl, rfl⟩
        go_wp2
        exact ⟨rfl, by rw [HE.out]; exact ⟨rfl, GW.out _ GR.out⟩⟩
      | q :: t3 =>
        go_wp2_with fail
        refine (one_calls q t3 blk _ r1 r2).mono ?_
        rintro e w3 ⟨rfl, rfl⟩
        by_cases hq : t3.length < q.toNat
        · have HE : Hid (rdTail x a.toNat (rdIds n.toNat t) = .error 5) := by show _ = _; rw [hT.out]; simp [rdIds, rdApp, rdTail, hq]
          go_wp2_with fail
          refine (take_none t3 q.toNat blk _ (by simp [go_sem, r1]) hq).mono ?_
          rintro e w3 ⟨rfl, rfl⟩
          go_wp2
          exact ⟨rfl, by rw [HE.out]; exact ⟨rfl, GW.out _ (grown_setCell GR.out _)⟩⟩
        · have HE : Hid (rdTail x a.toNat (rdIds n.toNat t) = .ok (⟨x, a.toNat, BA (t3.take q.toNat), l⟩, t3.drop q.toNat)) := by show _ = _; rw [hT.out]; simp [rdIds, rdApp, rdTail, hq]
          go_wp2_with fail
          refine (take_calls t3 q.toNat blk _ (by simp [go_sem, r1]) (by simp [go_sem, r2]) (by omega)).mono ?_
          rintro e w3 ⟨rfl, rfl⟩
          go_wp2
          exact bodyPost_ret (v := .agg #[.int .i64 x.r, .int .i64 x.n, .int .i64 a.toNat, .string (BA (t3.take q.toNat)), .slice av l.length cv]) (by simp [results, Try.results91, go_sem, k0, k1, k2, k3, k4]) rfl
            (by
              have HF := entry_end w wr blk w1.heap.size w.heap.size l.length (t3.drop q.toNat) (.string (BA t3)) (.string (BA (t3.take q.toNat))) (.int .i64 x.r) (.int .i64 x.n) (.int .i64 a.toNat) (.string (BA (t3.take q.toNat))) (.slice av l.length cv) (.slice av l.length cv) (idCells l) ⟨_, r1⟩ r2 (GW.out _ GR.out) hb rfl zw hown
              rw [HE.out]
              exact ⟨_, rfl, HF.1, HF.2⟩)
    | succ m =>
      obtain ⟨lv, hcl, hown⟩ := hR.cl
      obtain ⟨av, cv, rfl⟩ := own_form hown
      have r1 := hR.s
      have r2 := hR.f
      have r3 : blk < wr.heap.size := by have := hR.gr.size; have := HZ.out; omega
      cases h2 : rdId t' with
      | error d =>
        have HE : Hid (rdTail x a.toNat (rdIds n.toNat t) = .error d) := by show _ = _; rw [hT.out, rdApp_err h2]; rfl
        have GR := Lib.hid hR.gr
        go_wp2_with fail
        refine wp_region_any (by kernel_rfl) (any_good (Good6 blk w1.heap.size) ?_ ?_ ?_ _ _ _ ?_)
        · rintro ls ac ⟨b0, b1, b2, b6, -, h, -⟩
          cases b0 <;> cases b1 <;> cases b2 <;> cases b6 <;> simp at h
        · rintro f ls ac ⟨b0, b1, b2, b6, rfl, -⟩
          cases b0 <;> cases b1 <;> cases b2 <;> cases b6 <;> decide +kernel
        · rintro f ls ac i ⟨b0, b1, b2, b6, rfl, hf, hd, hsz, e0, e3, e18, e1, e20⟩ hi
          have hi2 : (i = 0 ∧ b0 = false) ∨ (i = 1 ∧ b0 = true ∧ b1 = false) ∨ (i = 2 ∧ b2 = false) ∨ (i = 3 ∧ b2 = true) ∨ (i = 6 ∧ b6 = false) := by
            clear hf hd hsz e0 e3 e18 e20
            cases b0 <;> cases b1 <;> first | (exact absurd (e1 rfl) (by decide)) | (clear e1; cases b2 <;> cases b6 <;> (revert i; decide +kernel))
          rcases hi2 with ⟨rfl, rfl⟩ | ⟨rfl, rfl, rfl⟩ | ⟨rfl, rfl⟩ | ⟨rfl, rfl⟩ | ⟨rfl, rfl⟩
          · refine .inl ?_
            have G : Good6 blk w1.heap.size f #[true, b1, b2, false, false, false, b6, false] (ac.put (some 18) (.pointer (some ⟨w1.heap.size, 4, none⟩))) := by
              refine ⟨true, b1, b2, b6, rfl, by simp at hf ⊢; omega, by rw [put_defers]; exact hd, by rw [put_size]; exact hsz, ?_, ?_, fun _ => ?_, fun _ => rfl, fun h => ?_⟩
              all_goals rw [put_get _ _ _ _ (by omega)]
              · exact e0
              · exact e3
              · rfl
              · exact e20 h
            simp [Oper.wp, execOp, Act.eval, go_sem, e3]
            exact G
          · refine .inl ?_
            have G : Good6 blk w1.heap.size f #[true, true, b2, false, false, false, b6, false] (ac.put (some 19) (.slice av l.length cv)) := by
              refine ⟨true, true, b2, b6, rfl, by simp at hf ⊢; omega, by rw [put_defers]; exact hd, by rw [put_size]; exact hsz, ?_, ?_, fun _ => ?_, fun _ => rfl, fun h => ?_⟩
              all_goals rw [put_get _ _ _ _ (by omega)]
              · exact e0
              · exact e3
              · exact e18 rfl
              · exact e20 h
            have e18' := e18 rfl
            simp [Oper.wp, execOp, Act.eval, go_sem, e18', hcl]
            exact G
          · refine .inl ?_
            have G : Good6 blk w1.heap.size f #[b0, b1, true, false, false, false, b6, false] (ac.put (some 20) (.pointer (some ⟨blk, 0, none⟩))) := by
              refine ⟨b0, b1, true, b6, rfl, by simp at hf ⊢; omega, by rw [put_defers]; exact hd, by rw [put_size]; exact hsz, ?_, ?_, fun h => ?_, e1, fun _ => ?_⟩
              all_goals rw [put_get _ _ _ _ (by omega)]
              · exact e0
              · exact e3
              · exact e18 h
              · rfl
            simp [Oper.wp, execOp, Act.eval, go_sem, e0]
            exact G
          · refine .inl ?_
            have e20' := e20 rfl
            simp [Oper.wp, execOp, Act.eval, go_sem, e20']
            refine (id_read t' blk _ (by simpa using r1) (by simpa using r2) (by simpa using r3)).mono ?_
            intro e w3 h
            rw [h2] at h
            obtain ⟨rfl, hg3⟩ := h
            refine ⟨hd, ?_⟩
            show RdE blk w (rdTail x a.toNat (rdIds n.toNat t)) _ _
            rw [HE.out]
            exact ⟨rfl, GW.out _ (grown_trans GR.out (grown_drew hg3))⟩
          · refine .inl ?_
            have G : Good6 blk w1.heap.size f #[b0, b1, b2, false, false, false, true, false] (ac.put (some 24) (.pointer (some ⟨w1.heap.size, 4, none⟩))) := by
              refine ⟨b0, b1, b2, true, rfl, by simp at hf ⊢; omega, by rw [put_defers]; exact hd, by rw [put_size]; exact hsz, ?_, ?_, fun h => ?_, e1, fun h => ?_⟩
              all_goals rw [put_get _ _ _ _ (by omega)]
              · exact e0
              · exact e3
              · exact e18 h
              · exact e20 h
            simp [Oper.wp, execOp, Act.eval, go_sem, e3]
            exact G
        · exact ⟨false, false, false, false, rfl, by simp, rfl, rfl, rfl, rfl, (fun h => by cases h), (fun h => by cases h), (fun h => by cases h)⟩
      | ok v =>
        obtain ⟨y, t2⟩ := v
        have GR := Lib.hid hR.gr
        have f4 := hR.fe 4
        have zb := hR.zb
        have z0 := hR.z0
        have hne3 : w1.heap.size ≠ blk := by have := HZ.out; omega
        go_wp2_with fail
        have hnb : Value.ownBlock (.slice av l.length cv) = none ∨ Value.ownBlock (.slice av l.length cv) ≠ some blk := .inr (fun e => by have := (hown.lt blk e).1; have := HZ.out; omega)
        obtain ⟨i0, hi, hz0, hz1, hz2⟩ := info_parts infoId
        go_region_law (first
            | (refine step_append_lies _ (by rfl) _ _ _ (by rfl) (w1.heap.size + 1) 41 i0 _ 2 16 undIds hi hz0 hz1 hz2 rfl (by omega) _ l.length _ (by rfl) (hown3.alloc _) ⟨w3.heap.size, 0, none⟩ 1 1 [.int .i64 y.r, .int .i64 y.n] (by rfl) (by rfl) (fun j u h => new_cells (vs := [.int .i64 y.r, .int .i64 y.n]) h) (by simp [Value.oneCell']) (by omega) (by unfold maxLen; omega) (by omega) (by simp; omega) (w3.heap.size + 1) (by simp) ?_; intro gg cap w4 hown4 hgrow hat hlt; have hfe4 := (frozen_blk (o := 4) (grown_block hown3 (Nat.lt_succ_self _) zb3 hgrow)).trans hfe3; have hc4 := (cell_blk (o := 4) (grown_block hown3 (Nat.lt_succ_self _) zb3 hgrow)).trans hc3)
            | (go_simp; go_at_call 96; refine (id_read t' blk _ (by simp [go_sem, r1]) (by simp [go_sem, r2]) (by simpa using r3)).mono ?_; intro e w3 h; rw [h2] at h; obtain ⟨rfl, hg3, hs3, hf3⟩ := h; have hc3 := (cell_blk (o := 4) (grown_blk (grown_drew hg3) zb (by simpa using hne3))).trans hcl; have hown3 := hown.kept (grown_drew hg3) hnb; have zb3 := Nat.lt_of_lt_of_le zb (grown_drew hg3).size; have hfe3 := (frozen_blk (o := 4) (grown_blk (grown_drew hg3) zb (by simpa using hne3))).trans f4))
        all_goals
          have RN := RdLoop.next (y := y) hR (grown_drew hg3) hs3 hf3 (by rw [HZ.out]; omega) hown3 hgrow hown4
          have HT2 : Hid (rdIds n.toNat t = rdApp (l ++ [y]) (rdIds m t2)) := by show _ = _; rw [hT.out, rdApp_ok h2]
          clear hown3 hown4 hgrow hfe4 hc4 hfe3 hc3 hs3 hf3 hg3 hR hown hcl r1 r2 f4
          go_wp2
          go_roundw
          case rel => exact ⟨m, l ++ [y], t2, by go_num, by omega, by simp; omega, HT2, RN⟩
          case measure => simp [intOf]
set_option maxHeartbeats 4000000 in
set_option maxRecDepth 100000 in
theorem entry_read (t0 : List UInt8) (blk : Nat) (w : World) (hc : w.cell? ⟨blk, 0, none⟩ = some (.string (BA t0))) (hf : w.frozen? ⟨blk, 0, none⟩ = false) (hb : blk < w.heap.size) :
    Calls Try.prog 91 #[.pointer (some ⟨blk, 0, none⟩)] w (RdE blk w (rdEntry t0)) := by
  have hne : blk ≠ w.heap.size := by omega
  have hne' : w.heap.size ≠ blk := by omega
  cases h1 : rdId t0 with
  | error c =>
    have HE : Hid (rdEntry t0 = .error c) := by show _ = _; simp [rdEntry, h1]
    rw [HE.out]
    go_enter Try.func91, Try.ntmps91
    go_wp2_with fail
    refine (id_read t0 blk _ (by simp [go_sem, hc, hb]) (by simp [go_sem, hf, hb]) (by simp; omega)).mono ?_
    intro e w1 h
    rw [h1] at h
    obtain ⟨rfl, hg⟩ := h
    go_wp2
    exact ⟨rfl, rfl, grown_trans (grown_alloc (grown_refl _ _) _) hg⟩
  | ok v =>
    obtain ⟨x, t⟩ := v
    match t, h1 with
    | a :: n :: t, h1 =>
      have HE : Hid (rdEntry t0 = rdTail x a.toNat (rdIds n.toNat t)) := by show _ = _; simp [rdEntry, h1]
      rw [HE.out]
      exact entry_loop t0 blk w hc hf hb x a n t h1
    | [], h1 =>
      have HE : Hid (rdEntry t0 = .error 5) := by show _ = _; simp [rdEntry, h1]
      rw [HE.out]
      go_enter Try.func91, Try.ntmps91
      go_wp2_with fail
      refine (id_read t0 blk _ (by simp [go_sem, hc, hb]) (by simp [go_sem, hf, hb]) (by simp; omega)).mono ?_
      intro e w1 h
      rw [h1] at h
      obtain ⟨rfl, hg, hs, hfz⟩ := h
      have z3 : blk < w1.heap.size := by have := hg.size; simp at this; omega
      go_wp2_with fail
      refine (one_none blk _ (by simp [go_sem, hs, z3])).mono ?_
      rintro e w2 ⟨rfl, rfl⟩
      go_wp2
      exact ⟨rfl, rfl, grown_alloc (grown_trans (grown_alloc (grown_refl _ _) _) hg) _⟩
    | [a], h1 =>
      have HE : Hid (rdEntry t0 = .error 5) := by show _ = _; simp [rdEntry, h1]
      rw [HE.out]
      go_enter Try.func91, Try.ntmps91
      go_wp2_with fail
      refine (id_read t0 blk _ (by simp [go_sem, hc, hb]) (by simp [go_sem, hf, hb]) (by simp; omega)).mono ?_
      intro e w1 h
      rw [h1] at h
      obtain ⟨rfl, hg, hs, hfz⟩ := h
      have z3 : blk < w1.heap.size := by have := hg.size; simp at this; omega
      have gW := grown_trans (grown_alloc (grown_refl w (some blk)) _) hg
      have z4 : w.heap.size ≤ w1.heap.size := by have := hg.size; simp at this; omega
      go_wp2_with fail
      refine (one_calls a [] blk _ (by simp [go_sem, hs, z3]) (by simp [go_sem, hfz, z3])).mono ?_
      rintro e w2 ⟨rfl, rfl⟩
      go_wp2_with fail
      refine (one_none blk _ (by simp [go_sem, hs, z3])).mono ?_
      rintro e w2 ⟨rfl, rfl⟩
      go_wp2
      exact ⟨rfl, rfl, by (repeat (first | with_reducible exact grown_refl _ _ | with_reducible assumption | with_reducible refine grown_alloc ?_ _ | with_reducible refine grown_setCell ?_ _ | with_reducible refine grown_other ?_ (by first | (simp; done) | (simp; omega) | omega) _))⟩
end Go.Proofs.Ytkibfciheifphaa
