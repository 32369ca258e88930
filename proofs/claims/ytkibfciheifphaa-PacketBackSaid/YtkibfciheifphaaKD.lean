/- Joined texts of this claim: Q8 Q9 E10 D1 D2 D3 M1 M2 S2 S3 Sh S1 G1 M3 D5 D4 D6 D7 D8 D9 D10 G2 D11 G3 M4 D12 D13 D14 D15 G4 G5 D16 S4 S5 S6 S7 T1 T2 T3 T4 T5 T6 T7 PE R1 R2 L7 L8 L10 T8 T9 T10 T11 V1 V2 R3 Open Op1 Op2 Op4 D17 Op5. -/
import Derived.Test.YtkibfciheifphaaKC
import Derived.Test.YtkibfciheifphaaKB
import Derived.Shelf.GgSortFunc.InsertionK
import Derived.Test.YtkibfciheifphaaProg
import Derived.Shelf.RegionOpenPlain
import Derived.WalkKit
import Derived.Deep.LoopGhost
import Derived.Deep.Draws
import Derived.Lib.Walk
import Derived.Sort.WalkB12
import Derived.Lib.SliceRun
import Derived.Lib.SlicesCompact
import Derived.Shelf.SlSortCmp.WholeK
import Derived.Shelf.SlLaysF0
import Derived.KernelRfl
import Derived.Shelf.SlSortCmp.Insertion
import Derived.Shelf.SlSortCmp.NoneTotal
import Derived.Deep.RegionLaw
import Derived.Lib.SlicesDelete
import Derived.Shelf.Spec.SlicesInsert
import Derived.ArgAppend
import Derived.Shelf.Spec.SlicesInsertGrow
import Derived.ProofKit
import Derived.OpenShut
import Derived.Carry
import Derived.SizedLaws
set_option linter.unusedSimpArgs false
set_option linter.unusedVariables false
set_option linter.unusedSectionVars false
/- packet.Decode, as a contract. -/
namespace Go.Proofs.Ytkibfciheifphaa
open Go.RowKit
section
variable {P : Program} {x : Cx} {nt n : Nat} {st : St} {C : Conc} {H : List AObj} {w : World}
def Obj.noCells (o : Obj) : Prop := ∀ cs T f, o ≠ .cells cs T f
theorem cell_none {L : Nat} {o : Obj} (h : w.heap[L]? = some o) (ho : Obj.noCells o) (j : Nat) : w.cell? ⟨L, j, none⟩ = none := by
  unfold World.cell?
  simp only [h]
  cases o <;> first | rfl | exact (ho _ _ _ rfl).elim
theorem HR.put (hr : HR x C H w) {L : Nat} {r r' : Obj} (h : w.heap[L]? = some r) (hn : Obj.noCells r) (hn' : Obj.noCells r') (h0 : x.w0.heap.size ≤ L) :
    HR x C H (w.putObj L r') ∧ ∀ p v, RepV (Stab x C H w) w C p v → RepV (Stab x C H (w.putObj L r')) (w.putObj L r') C p v := by
  have hlt : L < w.heap.size := (Array.getElem?_eq_some_iff.1 h).1
  have hsz : (w.putObj L r').heap.size = w.heap.size := World.putObj_size
  have hnew : (w.putObj L r').heap[L]? = some r' := World.putObj_heap_same hlt
  have hold : ∀ b, b ≠ L → (w.putObj L r').heap[b]? = w.heap[b]? := fun b hb => World.putObj_heap_other hb
  have hcell : ∀ b o, (w.putObj L r').cell? ⟨b, o, none⟩ = w.cell? ⟨b, o, none⟩ := fun b o => by
    by_cases e : b = L
    · subst e
      rw [cell_none hnew hn', cell_none h hn]
    · exact cell_eq (hold b e)
  have hS : ∀ b o, Stab x C H w b o → Stab x C H (w.putObj L r') b o := fun b o h => ⟨h.1, by rw [hsz]; exact h.2.1, h.2.2⟩
  have hm : ∀ p v, RepV (Stab x C H w) w C p v → RepV (Stab x C H (w.putObj L r')) (w.putObj L r') C p v := fun p v h => h.mono hS (fun b o _ => hcell b o) (Nat.le_refl _) (fun i _ => rfl) (fun i _ => .inl ⟨rfl, rfl⟩)
  have hne : ∀ (i : Nat) ob, H[i]? = some ob → ∀ b, ob.holds C i b → b ≠ L := fun i ob hi b hb e => by
    subst e
    exact hr.notHeld (fun cs T f e => by rw [h] at e; exact hn _ _ _ (Option.some.inj e)) hi hb
  refine ⟨⟨hr.n, fun i ob h => (hr.obj i ob h).mono hm (fun p v h => h.mono hS (fun b o _ => hcell b o)) (fun b hb => hold b (hne i ob h b hb)) rfl rfl rfl, hr.apart, hr.mine, fun b o h => ?_, by rw [hsz]; exact hr.size, hr.os, hr.tape, hr.output, fun b hb h => ?_, hr.len, hr.ids, hr.vers⟩, hm⟩
  · obtain ⟨h1, h2, h3⟩ := hr.s0 b o h
    exact ⟨h1, h2, (hcell b o).trans h3⟩
  · exact (hold b (by omega)).trans (hr.frame b hb h)
theorem plain_list {ops : Array Oper} {Q : Exit → Act → World → Prop} {K : St → Prop} : ∀ (os : List Oper) (lops : List LOper) (st : St) (a : Act) (w : World), lowerList P nt ops os = some lops → (lops.all fun o => o.op.plain && o.guard.isNone) = true → WOps P lops K st → Rel x nt st { a with defers := [] } w →
    (∀ st' a' w', K st' → Rel x nt st' { a' with defers := [] } w' → a'.defers = a.defers → Q .normal a' w') → wpListIn Fence.wide n P ops Q os a w
  | [], lops, st, a, w, hl, _, h, hrel, hk => by
    simp only [lowerList, Option.some.injEq] at hl; subst hl
    exact hk st a w h hrel rfl
  | o :: os, lops, st, a, w, hl, hp, h, hrel, hk => by
    simp only [lowerList] at hl
    split at hl <;> try (cases hl; done)
    rename_i lo r h1 h2
    cases hl
    obtain ⟨d, lop, g, so⟩ := lo
    simp only [List.all_cons, Bool.and_eq_true] at hp
    obtain ⟨⟨hp1, hp2⟩, hp3⟩ := hp
    cases g with
    | some g => cases hp2
    | none =>
      obtain ⟨e1, e2, e3⟩ := lowerOper_none h1
      rw [ops_plain' hp1] at h
      cases hv : evalOp st lop with
      | none => rw [hv] at h; exact h.elim
      | some vH =>
        obtain ⟨v, H'⟩ := vH
        rw [hv] at h
        have h : WOps P r K (st.put d v H') := h
        have hdl : ∀ t, o.dst = some t → t < nt := by
          intro t e
          unfold lowerOper at h1
          split at h1 <;> try (cases h1; done)
          split at h1 <;> try (cases h1; done)
          rename_i hd
          rw [e] at hd
          simpa [dstOK] using hd
        obtain ⟨⟨C, hr1, he⟩, hdf, hsz⟩ := hrel
        have hsz : a.tmps.size = nt := hsz
        have he : ∀ t, RepV (Stab x C st.heap w) w C (st.env t) (a.tmps.getD t Go.undef) := he
        obtain ⟨vv, w', C', hres, g2, g3, g4⟩ := sim (P := P) (a := a) hr1 he e2 hv
        refine op_step e3 ⟨fun f _ => trivial, ?_⟩
        rw [show Fence.wide.round = none from rfl, Oper.semAt_none]
        have hgo : wpListIn Fence.wide n P ops Q os (a.put o.dst vv) w' := by
          refine plain_list os r (st.put d v H') _ w' h2 hp3 h ?_ fun st' a' w' k1 k2 k3 => hk st' a' w' k1 k2 (k3.trans ?_)
          · have := rel_put (a := { a with defers := [] }) hsz rfl g2 he g3 g4 (d := o.dst) hdl
            rw [e1] at this ⊢
            cases d <;> exact this
          · cases o.dst <;> rfl
        rcases hres with hq | ⟨hq, rfl⟩ <;> rw [hq] <;> exact hgo
theorem ends_run {fn : Func} {lrs : List LRes} {r : PV} {Hs' : List AObj} {a : Act} (hres : lowerRes P fn.results.toList = some lrs) (hq : retQ x nt lrs r Hs' .ret st) (hrel : Rel x nt st a w) : ∃ v, (results fn a.tmps).run P w = .ok v w ∧ ∃ C', HR x C' Hs' w ∧ RepV (Stab x C' Hs' w) w C' r v := by
  obtain ⟨st', keep, hwk, ps, h1, h2, h3, h4, h5, h6⟩ := hq
  replace hrel := hwk a w hrel
  obtain ⟨⟨C, hr1, he⟩, hdf, hsz⟩ := hrel
  obtain ⟨us, k1, k2⟩ := evalRes_run hr1 he hres h1
  refine ⟨if h : us.toArray.size = 1 then us.toArray[0] else .tuple us.toArray, ?_, C.sub (List.range x.H0.length ++ keep), ?_⟩
  · have hm : (fn.results.mapM (resVal a.tmps)).run P w = .ok us.toArray w := by
      rw [Array.mapM_eq_mapM_toList]
      simp [k1]
    have hq : results fn a.tmps = (do let vs ← fn.results.mapM (resVal a.tmps); pure (if h : vs.size = 1 then vs[0] else .tuple vs)) := rfl
    rw [hq, Sem.run_bind, hm, Result.andThen_ok, Sem.run_pure]
  · have hlen : (List.range x.H0.length ++ keep).Nodup := by
      refine List.nodup_append.2 ⟨List.nodup_range, h2, fun a ha b hb e => ?_⟩
      have := List.mem_range.1 ha
      have := (h3 b hb).1
      omega
    obtain ⟨q1, q2⟩ := hr1.restrict (ks := List.range x.H0.length ++ keep) hlen (fun k hk => by
        rcases List.mem_append.1 hk with h | h
        · have := List.mem_range.1 h; omega
        · exact (h3 k h).2) (fun i hi => by rw [List.getElem?_append_left (by simpa using hi), List.getElem?_range hi])
    subst h5
    subst h6
    exact ⟨q1, renT_rep q2 (tupOf_rep k2)⟩
end
end Go.Proofs.Ytkibfciheifphaa
/- packet.Decode, as a contract. -/
namespace Go.Proofs.Ytkibfciheifphaa
set_option linter.unusedSimpArgs false
set_option linter.unusedVariables false
open Go.RowKit
theorem pkEntries_calls (s : ByteArray) (w : World) : Calls Try.prog 28 #[.string s] w fun e w' => e = .returned (.func (.func 52) #[] #[.pointer (some ⟨w.heap.size, 0, none⟩)]) ∧ w' = w.alloc (.cells #[.string s] 9) := by
  go_enter Try.func28, Try.ntmps28
  go_wp2
  go_ret
  exact ⟨rfl, rfl⟩
theorem pkEntries_meets (s : ByteArray) : Meets Try.prog 28 [.str s] [] (.clo 52 [.ptr 0 0]) [.box [.str s]] := by
  intro x vs hx hr hp
  obtain ⟨hlen, hp0⟩ := hp
  have hvs : vs = #[.string s] := by
    cases vs with
    | mk l =>
      match l, hlen with
      | [v], _ =>
        have := hp0 0 _ v rfl rfl
        rw [this.str_inv]
  subst hvs
  refine (pkEntries_calls s x.w0).mono ?_
  rintro e w' ⟨rfl, rfl⟩
  obtain ⟨vv, w2, C', h1, h2, h3, h4⟩ := OpRes.box (r := .ok (.value (.pointer (some ⟨x.w0.heap.size, 0, none⟩))) (x.w0.alloc (.cells #[.string s] 9))) hr (cs := #[.string s]) (cells := [.str s]) 9 rfl (fun j p v hp hv => by
    match j, hp, hv with
    | 0, hp, hv => simp at hp hv; subst hp; subst hv; exact ⟨rfl, .pure (.str s)⟩
    | j + 1, hp, hv => simp at hp) rfl
  rcases h1 with h1 | ⟨h1, -⟩
  · simp only [Result.ok.injEq, Next.value.injEq] at h1
    obtain ⟨e1, e2⟩ := h1
    subst e1; subst e2
    refine ⟨_, C', rfl, h2, ?_⟩
    refine .clo 52 [.ptr 0 0] [.pointer (some ⟨x.w0.heap.size, 0, none⟩)] rfl fun j p v hp hv => ?_
    match j, hp, hv with
    | 0, hp, hv => simp at hp hv; subst hp; subst hv; exact h4
    | j + 1, hp, hv => simp at hp
  · simp at h1
def lc0 : LC := .reg none [⟨some 2, .alloc [.nilsl], none, true⟩, ⟨some 3, .alloc [.int .i64 0], none, true⟩]
def lc1 : LC := .reg none [⟨some 4, .alloc [.nilsl], none, true⟩]
def lc2 : LC := .reg none [⟨some 7, .mv (.tmp 0), none, true⟩, ⟨some 8, .call 28 [.tmp 7] 0, none, true⟩]
def lc3 : List LOper := [⟨some 22, .load 1 false (.tmp 4), none, true⟩, ⟨none, .store 1 (.tmp 2) (.tmp 22), none, true⟩, ⟨none, .store 1 (.tmp 3) (.val (.int .i64 0)), none, true⟩]
theorem pk_shape : ∃ (c0 c1 c2 cA cB c3 : Code), Try.f8.body = some (.seq c0 (.seq c1 (.seq (.seq c2 (.block 0 (.rangeFunc (.tmp 8) #[9, 10] cA cB))) (.seq c3 .ret)))) ∧ lowerCode Try.prog 23 c0 = some lc0 ∧ lowerCode Try.prog 23 c1 = some lc1 ∧ lowerCode Try.prog 23 c2 = some lc2 ∧
    lowerCode Try.prog 23 cA = some lcA ∧ lowerCode Try.prog 23 cB = some lcB ∧ lowerCode Try.prog 23 c3 = some (.reg none lc3) :=
  ⟨_, _, _, _, _, _, rfl, by kernel_rfl, by kernel_rfl, by kernel_rfl, by kernel_rfl, by kernel_rfl, by kernel_rfl⟩
theorem pk_res : lowerRes Try.prog Try.f8.results.toList = some [.cell 2 1 false, .cell 3 1 false] := by kernel_rfl
section
variable {x : Cx} {n : Nat} {B : Nat → Nat} {L D fn : Nat} {tm : Array Value}
theorem reg_go {P : Program} {nt : Nat} {c : Code} {lops : List LOper} {st : St} {K : St → Prop} {Q : Exit → Act → World → Prop} {a : Act} {w : World} (hl : lowerCode P nt c = some (.reg none lops)) (h : WOps P lops K st) (hrel : Rel x nt st a w)
    (hk : ∀ st' a' w', K st' → Rel x nt st' a' w' → Q .normal a' w') : c.wpIn Fence.wide n P Q a w := by
  refine wpIn_mono (WI_reg (n := n) (Φ := fun _ => True) (Q := fun e a w => e = .normal ∧ Q .normal a w) h hrel (fun _ _ _ _ _ => trivial) trivial (fun st' a' w' g1 g2 _ => ⟨rfl, hk st' a' w' g1 g2⟩) c hl) fun e a w hq => ?_
  cases e <;> simp only [postI] at hq
  case normal => exact hq.2
  all_goals first | exact hq.elim | (obtain ⟨h, _⟩ := hq; cases h)
theorem rel23 {C : Conc} {H : List AObj} {w : World} {c : List Deferred} (hr : HR x C H w) (hn : 2 ≤ C.n) (h2 : tm.getD 2 Go.undef = .pointer (some ⟨C.blk 0, 0, none⟩)) (h3 : tm.getD 3 Go.undef = .pointer (some ⟨C.blk 1, 0, none⟩)) (hsz : tm.size = 23) : Rel x 23 ⟨mkE .top [(3, .ptr 1 0), (2, .ptr 0 0)], H⟩ { tmps := tm, defers := [] } w := by
  refine ⟨⟨C, hr, fun t => ?_⟩, rfl, hsz⟩
  simp only [mkE]
  by_cases t3 : 3 = t
  · rw [if_pos t3, ← t3, h3]; exact .ptr 1 0 (by omega)
  · rw [if_neg t3]
    by_cases t2 : 2 = t
    · rw [if_pos t2, ← t2, h2]; exact .ptr 0 0 (by omega)
    · rw [if_neg t2]; exact .any
theorem pk_leave {C : Conc} {H : List AObj} {w : World} {r : PV} (hr : HR x C H w) (hn : 2 ≤ C.n) (h2 : tm.getD 2 Go.undef = .pointer (some ⟨C.blk 0, 0, none⟩)) (h3 : tm.getD 3 Go.undef = .pointer (some ⟨C.blk 1, 0, none⟩)) (hsz : tm.size = 23)
    (hD : w.heap[D]? = some (.deferred (some []))) (hD0 : x.w0.heap.size ≤ D) (hq : retQ x 23 [.cell 2 1 false, .cell 3 1 false] r [] .ret ⟨mkE .top [(3, .ptr 1 0), (2, .ptr 0 0)], H⟩) :
    LeavesInM Fence.wide n Try.prog Try.f8 tm (fun e w' => ∃ v C', e = .returned v ∧ HR x C' [] w' ∧ RepV (Stab x C' [] w') w' C' r v) [{ target := .collected D, args := #[] }] .returning w := by
  obtain ⟨hr2, -⟩ := hr.put (r' := .deferred none) hD (fun _ _ _ h => by cases h) (fun _ _ _ h => by cases h) hD0
  obtain ⟨v, g1, C', g2, g3⟩ := ends_run (P := Try.prog) (fn := Try.f8) pk_res hq (rel23 (c := []) hr2 hn h2 h3 hsz)
  exact ⟨by simp, .inl ⟨D, _, rfl, run_takeDeferred hD, ⟨v, g1, v, C', rfl, g2, g3⟩⟩⟩
set_option maxHeartbeats 2000000 in
theorem packetDecode_meets (t : List UInt8) (ht : t.length ≤ maxLen) : Meets Try.prog 8 [.str (BA t)] [] (.tup [.list ((pkOut t.length t []).1.map cE), .int .i64 (pkOut t.length t []).2]) [] := by
  intro x vs hx hr hp
  obtain ⟨hlen, hp0⟩ := hp
  have hvs : vs = #[.string (BA t)] := by
    cases vs with
    | mk l =>
      match l, hlen with
      | [v], _ =>
        have := hp0 0 _ v rfl rfl
        rw [this.str_inv]
  subst hvs
  obtain ⟨c0, c1, c2, cA, cB, c3, hbody, l0, l1, l2, lA, lB, l3⟩ := pk_shape
  refine callsIn_wide.1 (callsIn_of_wp_marks (n := 0) Try.func8 hbody trivial ?_ rfl)
  have hrel0 : Rel x 23 ⟨mkE .top [(0, .str (BA t))], []⟩ { tmps := #[.string (BA t)] ++ Array.replicate (Try.f8.ntmps - 1) Go.undef, defers := [] } x.w0 := by
    refine ⟨⟨x.C0, hr, fun u => ?_⟩, rfl, by simp [Try.ntmps8]⟩
    simp only [mkE]
    by_cases h : 0 = u
    · rw [if_pos h, ← h, show (#[Value.string (BA t)] ++ Array.replicate (Try.f8.ntmps - 1) Go.undef).getD 0 Go.undef = .string (BA t) by simp]; exact .pure (.str _)
    · rw [if_neg h]; exact .any
  show Code.wpIn Fence.wide 0 Try.prog _ _ { tmps := #[.string (BA t)] ++ Array.replicate (Try.f8.ntmps - 1) Go.undef, defers := [] } x.w0
  generalize ({ tmps := #[.string (BA t)] ++ Array.replicate (Try.f8.ntmps - 1) Go.undef, defers := [] } : Act) = a0 at *
  refine wpIn_seq (reg_go (K := fun st => st = ⟨mkE .top [(3, .ptr 1 0), (2, .ptr 0 0), (0, .str (BA t))], [.box [.nilsl], .box [.int .i64 0]]⟩) l0 (by simp only [go_sem, Nat.reduceLT, Nat.reduceAdd, Nat.reduceEqDiff, Nat.reduceLeDiff, Nat.reduceSub, Nat.reduceMul, Int.reduceEq, eq_self, reduceIte]) hrel0 ?_)
  intro st1 a1 w1 hst1 hrel1
  subst hst1
  refine wpIn_seq (reg_go (K := fun st => st = ⟨mkE .top [(4, .ptr 2 0), (3, .ptr 1 0), (2, .ptr 0 0), (0, .str (BA t))], [.box [.nilsl], .box [.int .i64 0], .box [.nilsl]]⟩) l1 (by simp only [go_sem, Nat.reduceLT, Nat.reduceAdd, Nat.reduceEqDiff, Nat.reduceLeDiff, Nat.reduceSub, Nat.reduceMul, Int.reduceEq, eq_self, reduceIte]) hrel1 ?_)
  intro st2 a2 w2 hst2 hrel2
  subst hst2
  refine wpIn_seq (wpIn_seq (reg_go (K := fun st => st = ⟨mkE .top [(8, .clo 52 [.ptr 3 0]), (7, .str (BA t)), (4, .ptr 2 0), (3, .ptr 1 0), (2, .ptr 0 0), (0, .str (BA t))], [.box [.nilsl], .box [.int .i64 0], .box [.nilsl], .box [.str (BA t)]]⟩) l2 ?_ hrel2 ?_))
  · simp only [go_sem, Nat.reduceLT, Nat.reduceAdd, Nat.reduceEqDiff, Nat.reduceLeDiff, Nat.reduceSub, Nat.reduceMul, Int.reduceEq, eq_self, reduceIte]
    refine ops_call (.heapE [] (r' := .clo 52 [.ptr 3 0]) (H' := [.box [.nilsl], .box [.int .i64 0], .box [.nilsl], .box [.str (BA t)]]) (pkEntries_meets (BA t)) (by simp) (by simp) (by simp [go_sem, Nat.reduceLT, Nat.reduceAdd, Nat.reduceEqDiff, Nat.reduceLeDiff, Nat.reduceSub, Nat.reduceMul, Int.reduceEq, eq_self, reduceIte]) rfl rfl rfl) ?_
    simp only [go_sem, Nat.reduceLT, Nat.reduceAdd, Nat.reduceEqDiff, Nat.reduceLeDiff, Nat.reduceSub, Nat.reduceMul, Int.reduceEq, eq_self, reduceIte]
  intro st3 a3 w3 hst3 hrel3
  subst hst3
  have hrel3 : Rel x 23 ⟨mkE .top [(8, .clo 52 [.ptr 3 0]), (7, .str (BA t)), (4, .ptr 2 0), (3, .ptr 1 0), (2, .ptr 0 0), (0, .str (BA t))], hP 0 0 t []⟩ a3 w3 := by
    have := weak_ownc (cells := [.nilsl]) 2 0 0 44 5 true false rfl rfl (by omega) a3 w3 hrel3
    exact this
  obtain ⟨⟨C, hr3, he3⟩, hdf3, hsz3⟩ := hrel3
  have hn3 : C.n = 5 := hr3.n
  have h2 : a3.tmps.getD 2 Go.undef = .pointer (some ⟨C.blk 0, 0, none⟩) := (he3 2).ptr_inv.1
  have h3 : a3.tmps.getD 3 Go.undef = .pointer (some ⟨C.blk 1, 0, none⟩) := (he3 3).ptr_inv.1
  have h4 : a3.tmps.getD 4 Go.undef = .pointer (some ⟨C.blk 2, 0, none⟩) := (he3 4).ptr_inv.1
  have h8 : a3.tmps.getD 8 Go.undef = .func (.func 52) #[] #[.pointer (some ⟨C.blk 3, 0, none⟩)] := by
    obtain ⟨vs, e1, e2, e3⟩ := (he3 8).clo_inv
    match vs, e2, e3 with
    | [u], _, e3 =>
      have := (e3 0 _ u rfl rfl).ptr_inv.1
      rw [e1, this]
  show Code.wpIn Fence.wide 0 Try.prog (.block 0 (.rangeFunc (.tmp 8) #[9, 10] cA cB)) _ a3 w3
  refine wpIn_block (wpIn_rangeFunc fun fn hfn => ?_)
  obtain ⟨W1, hW1⟩ : ∃ W1, (w3.alloc (.deferred (some []))).alloc (.loop (rcOf fn a3.tmps cA cB w3.heap.size .ready none)) = W1 := ⟨_, rfl⟩
  have hL1 : W1.heap[w3.heap.size + 1]? = some (.loop (rcOf fn a3.tmps cA cB w3.heap.size .ready none)) := by
    rw [← hW1]; have := World.alloc_heap_new (w3.alloc (.deferred (some []))) (.loop (rcOf fn a3.tmps cA cB w3.heap.size .ready none)); rwa [World.size_alloc] at this
  have hD1 : W1.heap[w3.heap.size]? = some (.deferred (some [])) := by
    rw [← hW1]; exact (Below.heap_alloc _ _ _ (by simp)).trans (World.alloc_heap_new w3 _)
  have hstep : Step w3 W1 fun _ => False := by
    rw [← hW1]
    refine ⟨by simp; omega, rfl, rfl, rfl, fun b hb _ => ?_⟩
    exact (Below.heap_alloc _ _ b (by simp; omega)).trans (Below.heap_alloc _ _ b hb)
  obtain ⟨hr4, -, -⟩ := hr3.grow hstep
  have hx0 := hr3.size
  have hit := iter_in (n := 0 - 1) (fn := fn) (L := w3.heap.size + 1) (D := w3.heap.size) (B := C.blk) hx lA lB hsz3 h2 h3 h4 (by omega) ht ⟨by simp, ⟨C, 0, hr4, fun _ _ => rfl⟩, hL1, hD1⟩
  refine ⟨w3.heap.size + 1, [{ target := .collected w3.heap.size, args := #[] }], W1, { target := .fn (.func 52) #[.pointer (some ⟨C.blk 3, 0, none⟩)], args := #[.func (.yield (w3.heap.size + 1)) #[] #[]] }, W1, 52, #[.func (.yield (w3.heap.size + 1)) #[] #[], .pointer (some ⟨C.blk 3, 0, none⟩)], W1, ?_, ?_, fun _ _ => trivial, ?_, (fun e => by cases e), hit.mono ?_⟩
  · rw [← hW1]; exact run_enterLoop_outer _ _ _ _ _
  · have hev : a3.eval (.tmp 8) = .func (.func 52) #[] #[.pointer (some ⟨C.blk 3, 0, none⟩)] := h8
    simp only [resolve, hev]
    simp [go_sem]
  · simp [invoke, go_sem]
  rintro en w4 ⟨⟨u, rfl⟩, (⟨es', hpk, ⟨hle, ⟨C4, v4, hr5, hb5⟩, hL4, hD4⟩⟩ | ⟨c, r', es', hc, hpk, ⟨hle, ⟨C4, v4, hr5, hb5⟩, hL4, hD4⟩⟩)⟩
  · refine ⟨none, _, run_endLoop hL4 (by simp [rcOf]), ?_⟩
    have hn4 : C4.n = 5 := hr5.n
    obtain ⟨hr6, -⟩ := hr5.loop (r' := { rcOf fn a3.tmps cA cB w3.heap.size .ready none with state := .exhausted }) hL4 (by omega)
    have hD5 : (w4.putObj (w3.heap.size + 1) (.loop { rcOf fn a3.tmps cA cB w3.heap.size .ready none with state := .exhausted })).heap[w3.heap.size]? = some (.deferred (some [])) := (World.putObj_heap_other (by omega)).trans hD4
    show Code.wpIn Fence.wide 0 Try.prog (.seq c3 .ret) _ { tmps := a3.tmps, defers := [{ target := .collected w3.heap.size, args := #[] }] ++ a3.defers } (w4.putObj (w3.heap.size + 1) (.loop { rcOf fn a3.tmps cA cB w3.heap.size .ready none with state := .exhausted }))
    generalize w4.putObj (w3.heap.size + 1) (.loop { rcOf fn a3.tmps cA cB w3.heap.size .ready none with state := .exhausted }) = w5 at *
    rw [hdf3, List.append_nil]
    have hlt : w3.heap.size < w5.heap.size := (Array.getElem?_eq_some_iff.1 hD5).1
    obtain ⟨hr7, -⟩ := hr6.root
    have hrel7 : Rel (rootCx x C4 (hP 0 v4 [] es') w5) 23 ⟨mkE .top [(4, .ptr 2 0), (3, .ptr 1 0), (2, .ptr 0 0)], hP 0 v4 [] es'⟩ { tmps := a3.tmps, defers := [] } w5 := by
      refine ⟨⟨C4, hr7, fun t => ?_⟩, rfl, hsz3⟩
      simp only [mkE]
      by_cases t4 : 4 = t
      · rw [if_pos t4, ← t4, h4, ← hb5 2 (by omega)]; exact .ptr 2 0 (by omega)
      · rw [if_neg t4]
        by_cases t3 : 3 = t
        · rw [if_pos t3, ← t3, h3, ← hb5 1 (by omega)]; exact .ptr 1 0 (by omega)
        · rw [if_neg t3]
          by_cases t2 : 2 = t
          · rw [if_pos t2, ← t2, h2, ← hb5 0 (by omega)]; exact .ptr 0 0 (by omega)
          · rw [if_neg t2]; exact .any
    refine wpIn_seq (wpIn_mono (WI_list (n := 0) (lops := lc3) (Q := fun e a w => e = .normal ∧ a.defers = [{ target := .collected w3.heap.size, args := #[] }] ∧ ∃ st', st' = (⟨mkE .top [(22, .arr 4 v4), (4, .ptr 2 0), (3, .ptr 1 0), (2, .ptr 0 0)], [.box [.arr 4 v4], .box [.int .i64 0], .box [.arr 4 v4], .box [.str (BA [])], .arr v4 true false 44 5 (es'.map cE)]⟩ : St) ∧ Rel (rootCx x C4 (hP 0 v4 [] es') w5) 23 st' { a with defers := [] } w)
      (fun ops os hl => plain_list (K := fun st' => st' = (⟨mkE .top [(22, .arr 4 v4), (4, .ptr 2 0), (3, .ptr 1 0), (2, .ptr 0 0)], [.box [.arr 4 v4], .box [.int .i64 0], .box [.arr 4 v4], .box [.str (BA [])], .arr v4 true false 44 5 (es'.map cE)]⟩ : St)) os lc3 _ ({ tmps := a3.tmps, defers := [{ target := .collected w3.heap.size, args := #[] }] } : Act) w5 hl rfl ?_ hrel7 (fun st' a' w' k1 k2 k3 => ⟨rfl, rfl, k3, st', k1, k2⟩)) c3 l3) ?_)
    · unfold lc3
      simp only [go_sem, Nat.reduceLT, Nat.reduceAdd, Nat.reduceEqDiff, Nat.reduceLeDiff, Nat.reduceSub, Nat.reduceMul, Int.reduceEq, eq_self, reduceIte, hP]
    · intro e a8 w8 hq
      cases e <;> simp only [postI] at hq
      case normal =>
        obtain ⟨-, hd8, st8, rfl, ⟨C8, hr8, he8⟩, -, hsz8⟩ := hq
        have hn8 : C8.n = 5 := hr8.n
        obtain ⟨hr9, -, hf9⟩ := hr6.unroot hr8
        have hD8 : w8.heap[w3.heap.size]? = some (.deferred (some [])) := (hf9 _ hlt fun i ob hi => hr6.notHeld (fun cs T f h => by rw [hD5] at h; cases h) hi).trans hD5
        refine wpIn_ret ?_
        show LeavesInM Fence.wide 0 Try.prog Try.f8 a8.tmps _ a8.defers .returning w8
        rw [hd8, hpk]
        refine pk_leave hr9 (by omega) (he8 2).ptr_inv.1 (he8 3).ptr_inv.1 hsz8 hD8 (by omega) (ret_weak (weak_shut 4 rfl) (ret_pure hx ?_))
        simp [go_sem, Nat.reduceLT, Nat.reduceAdd, Nat.reduceEqDiff, Nat.reduceLeDiff, Nat.reduceSub, Nat.reduceMul, Int.reduceEq, eq_self, reduceIte, frzAt, pos, frz]
      all_goals first | exact hq.elim | (obtain ⟨h, _⟩ := hq; cases h)
  · refine ⟨some .ret, _, run_endLoop hL4 (by simp [rcOf]), ?_⟩
    have hn4 : C4.n = 5 := hr5.n
    obtain ⟨hr6, -⟩ := hr5.loop (r' := { rcOf fn a3.tmps cA cB w3.heap.size .done (some .ret) with state := .exhausted }) hL4 (by omega)
    refine wpIn_ret ?_
    show LeavesInM Fence.wide 0 Try.prog Try.f8 a3.tmps _ ([{ target := .collected w3.heap.size, args := #[] }] ++ a3.defers) .returning _
    rw [hdf3, List.append_nil, hpk]
    refine pk_leave hr6 (by omega) (by rw [h2, hb5 0 (by omega)]) (by rw [h3, hb5 1 (by omega)]) hsz3 ((World.putObj_heap_other (by omega)).trans hD4) (by omega) (ret_pure hx ?_)
    simp [go_sem, Nat.reduceLT, Nat.reduceAdd, Nat.reduceEqDiff, Nat.reduceLeDiff, Nat.reduceSub, Nat.reduceMul, Int.reduceEq, eq_self, reduceIte, hP]
end
end Go.Proofs.Ytkibfciheifphaa
/- Encode, by its hand walk: a contract. -/
namespace Go.Proofs.Ytkibfciheifphaa
open Go.RowKit
theorem rep_ids {T : Nat → Nat → Prop} {w : World} {v : Value} {l : List Id} (hT : ∀ b o, T b o → b < w.heap.size) (h : RepP T w (.list (l.map cId)) v) : IdsIn (fun _ => True) w v l := by
  generalize hr : l.map cId = rows at h
  cases h with
  | list rows a c sz x hc hm hsz hz hl hx =>
    subst hr
    have hlen : (l.map cId).length = l.length := by simp
    refine ⟨a, c, by rw [hlen], by simpa using hc, hm, fun k hk => ?_⟩
    have hrow : (l.map cId)[k]? = some (cId (nth l k)) := by simp [nth_get? l k hk]
    have h2 : sz = 2 := by have := hz (cId (nth l k)) (List.mem_of_getElem? hrow); simp [cId] at this; omega
    subst h2
    obtain ⟨b, o, e1, e2, e3⟩ := hl k _ 0 (.int .i64 (nth l k).r) hrow rfl
    obtain ⟨b', o', f1, f2, f3⟩ := hl k _ 1 (.int .i64 (nth l k).n) hrow rfl
    rw [e1] at f1; cases f1
    have g0 := hx k _ 0 (.int .i64 (nth l k).r) hrow rfl
    have g1 := hx k _ 1 (.int .i64 (nth l k).n) hrow rfl
    refine ⟨b, o, e1, trivial, hT _ _ e2, ?_, ?_⟩
    · rw [show o + k * 2 = o + k * 2 + 0 by omega, e3, (RepV.pure (C := ⟨0, fun _ => 0, fun _ => Go.undef, fun _ => 0⟩) g0).int_inv]
    · rw [f3, (RepV.pure (C := ⟨0, fun _ => 0, fun _ => Go.undef, fun _ => 0⟩) g1).int_inv]
end Go.Proofs.Ytkibfciheifphaa
/- Slices asked by a function: contracts of slices.IndexFunc, ContainsFunc, Index, Contains at entries, ids. -/
namespace Go.Proofs.Ytkibfciheifphaa
set_option linter.unusedSimpArgs false
set_option linter.unusedVariables false
open Go.RowKit
def idxF {α : Type} (p : α → Bool) : List α → Nat → Int
  | [], _ => -1
  | x :: l, k => if p x = true then (k : Int) else idxF p l (k + 1)
theorem idxF_drop {α : Type} [Inhabited α] (p : α → Bool) (l : List α) (k : Nat) (h : k < l.length) : idxF p (l.drop k) k = if p (nth l k) = true then (k : Int) else idxF p (l.drop (k + 1)) (k + 1) := by
  rw [List.drop_eq_getElem_cons h, idxF, nth_eq _ _ h]
instance : Inhabited Entry := ⟨⟨default, 0, ⟨#[]⟩, []⟩⟩
theorem idxF_ge {α : Type} (p : α → Bool) : ∀ (l : List α) (k : Nat), idxF p l k = -1 ∧ l.any p = false ∨ (k : Int) ≤ idxF p l k ∧ l.any p = true
  | [], k => .inl ⟨rfl, rfl⟩
  | x :: l, k => by
    simp only [idxF, List.any_cons]
    cases hx : p x
    · rcases idxF_ge p l (k + 1) with ⟨h1, h2⟩ | ⟨h1, h2⟩
      · exact .inl ⟨by simpa using h1, by simp [h2]⟩
      · exact .inr ⟨by simp; omega, by simp [h2]⟩
    · exact .inr ⟨by simp, by simp⟩
theorem idxF_any {α : Type} (p : α → Bool) (l : List α) : decide (0 ≤ idxF p l 0) = l.any p := by
  rcases idxF_ge p l 0 with ⟨h1, h2⟩ | ⟨h1, h2⟩
  · rw [h1, h2]; rfl
  · rw [h2]; simp; omega
theorem indexE_meets (l : List Entry) (g : Nat) (caps : List PV) (Hs : List AObj) (p : Entry → Bool) (hg : hasBody Try.prog g = true) (hl : l.length ≤ 9223372036854775806) (hc : ClosedH Hs caps)
    (hp : ∀ e ∈ l, Meets Try.prog g (.agg (cE e) :: caps) Hs (.bool (p e)) Hs) :
    Meets Try.prog 65 [.list (l.map cE), .clo g caps] Hs (.int .i64 (idxF p l 0)) Hs := by
  refine Meets.of_walk Try.func65 Try.ntmps65 low65 res65 (by simp) fun x hx => ?_
  simp only [go_sem, Nat.reduceLT, Nat.reduceAdd, Nat.reduceEqDiff, Nat.reduceLeDiff, Nat.reduceSub, Nat.reduceMul, Int.reduceEq, eq_self, reduceIte, L65, R65]
  refine loop_keep [0, 1, 7, 8] (fun n st => ∃ k : Nat, k + n = l.length ∧ idxF p (l.drop k) k = idxF p l 0 ∧
    st = ⟨mkE .top [(0, .list (l.map cE)), (1, .clo g caps), (7, .int .i64 l.length), (8, .int .i64 k)], Hs⟩) l.length ?_ ?_
  · refine ⟨0, by omega, by simp, ?_⟩
    simp [keep_mk, go_sem, Nat.reduceLT, Nat.reduceAdd, Nat.reduceEqDiff, Nat.reduceLeDiff, Nat.reduceSub, Nat.reduceMul, Int.reduceEq, eq_self, reduceIte]
  · rintro n st ⟨k, hk, hi, rfl⟩
    by_cases hlt : k < l.length
    · have hgt : l[k]? = some (nth l k) := nth_get? _ _ hlt
      have wk := i64_up (k := k) (by omega)
      rw [idxF_drop p l k hlt] at hi
      simp only [go_sem, Nat.reduceLT, Nat.reduceAdd, Nat.reduceEqDiff, Nat.reduceLeDiff, Nat.reduceSub, Nat.reduceMul, Int.reduceEq, eq_self, reduceIte, hlt, hgt, cE, cId]
      refine ops_callv rfl hg (.whole (hp (nth l k) (by rw [nth_eq _ _ hlt]; exact List.getElem_mem hlt)) rfl ?_ hc.sub hc.back) ?_
      · simp only [go_sem, Nat.reduceLT, Nat.reduceAdd, Nat.reduceEqDiff, Nat.reduceLeDiff, Nat.reduceSub, Nat.reduceMul, Int.reduceEq, eq_self, reduceIte, cE, cId]
        rw [hc.caps]
      cases hpk : p (nth l k)
      · rw [if_neg (by simp [hpk])] at hi
        simp only [go_sem, Nat.reduceLT, Nat.reduceAdd, Nat.reduceEqDiff, Nat.reduceLeDiff, Nat.reduceSub, Nat.reduceMul, Int.reduceEq, eq_self, reduceIte, wk]
        exact ⟨n - 1, by omega, k + 1, by omega, hi, by simp [keep_mk, go_sem, Nat.reduceLT, Nat.reduceAdd, Nat.reduceEqDiff, Nat.reduceLeDiff, Nat.reduceSub, Nat.reduceMul, Int.reduceEq, eq_self, reduceIte]⟩
      · rw [if_pos hpk] at hi
        simp only [go_sem, Nat.reduceLT, Nat.reduceAdd, Nat.reduceEqDiff, Nat.reduceLeDiff, Nat.reduceSub, Nat.reduceMul, Int.reduceEq, eq_self, reduceIte]
        refine ret_scal hx rfl hc.kept ?_
        simp [go_sem, Nat.reduceLT, Nat.reduceAdd, Nat.reduceEqDiff, Nat.reduceLeDiff, Nat.reduceSub, Nat.reduceMul, Int.reduceEq, eq_self, reduceIte, L65, R65, hi]
    · have : l.drop k = [] := List.drop_eq_nil_of_le (by omega)
      rw [this] at hi
      simp only [go_sem, Nat.reduceLT, Nat.reduceAdd, Nat.reduceEqDiff, Nat.reduceLeDiff, Nat.reduceSub, Nat.reduceMul, Int.reduceEq, eq_self, reduceIte, hlt]
      refine ret_scal hx rfl hc.kept ?_
      simp [go_sem, Nat.reduceLT, Nat.reduceAdd, Nat.reduceEqDiff, Nat.reduceLeDiff, Nat.reduceSub, Nat.reduceMul, Int.reduceEq, eq_self, reduceIte, L65, R65, ← hi, idxF]
theorem indexI_meets (l : List Id) (g : Nat) (caps : List PV) (Hs : List AObj) (p : Id → Bool) (hg : hasBody Try.prog g = true) (hl : l.length ≤ 9223372036854775806) (hc : ClosedH Hs caps)
    (hp : ∀ e ∈ l, Meets Try.prog g (.agg (cId e) :: caps) Hs (.bool (p e)) Hs) :
    Meets Try.prog 84 [.list (l.map cId), .clo g caps] Hs (.int .i64 (idxF p l 0)) Hs := by
  refine Meets.of_walk Try.func84 Try.ntmps84 low84 res84 (by simp) fun x hx => ?_
  simp only [go_sem, Nat.reduceLT, Nat.reduceAdd, Nat.reduceEqDiff, Nat.reduceLeDiff, Nat.reduceSub, Nat.reduceMul, Int.reduceEq, eq_self, reduceIte, L84, R84]
  refine loop_keep [0, 1, 7, 8] (fun n st => ∃ k : Nat, k + n = l.length ∧ idxF p (l.drop k) k = idxF p l 0 ∧
    st = ⟨mkE .top [(0, .list (l.map cId)), (1, .clo g caps), (7, .int .i64 l.length), (8, .int .i64 k)], Hs⟩) l.length ?_ ?_
  · refine ⟨0, by omega, by simp, ?_⟩
    simp [keep_mk, go_sem, Nat.reduceLT, Nat.reduceAdd, Nat.reduceEqDiff, Nat.reduceLeDiff, Nat.reduceSub, Nat.reduceMul, Int.reduceEq, eq_self, reduceIte]
  · rintro n st ⟨k, hk, hi, rfl⟩
    by_cases hlt : k < l.length
    · have hgt : l[k]? = some (nth l k) := nth_get? _ _ hlt
      have wk := i64_up (k := k) (by omega)
      rw [idxF_drop p l k hlt] at hi
      simp only [go_sem, Nat.reduceLT, Nat.reduceAdd, Nat.reduceEqDiff, Nat.reduceLeDiff, Nat.reduceSub, Nat.reduceMul, Int.reduceEq, eq_self, reduceIte, hlt, hgt, cId, cId]
      refine ops_callv rfl hg (.whole (hp (nth l k) (by rw [nth_eq _ _ hlt]; exact List.getElem_mem hlt)) rfl ?_ hc.sub hc.back) ?_
      · simp only [go_sem, Nat.reduceLT, Nat.reduceAdd, Nat.reduceEqDiff, Nat.reduceLeDiff, Nat.reduceSub, Nat.reduceMul, Int.reduceEq, eq_self, reduceIte, cId, cId]
        rw [hc.caps]
      cases hpk : p (nth l k)
      · rw [if_neg (by simp [hpk])] at hi
        simp only [go_sem, Nat.reduceLT, Nat.reduceAdd, Nat.reduceEqDiff, Nat.reduceLeDiff, Nat.reduceSub, Nat.reduceMul, Int.reduceEq, eq_self, reduceIte, wk]
        exact ⟨n - 1, by omega, k + 1, by omega, hi, by simp [keep_mk, go_sem, Nat.reduceLT, Nat.reduceAdd, Nat.reduceEqDiff, Nat.reduceLeDiff, Nat.reduceSub, Nat.reduceMul, Int.reduceEq, eq_self, reduceIte]⟩
      · rw [if_pos hpk] at hi
        simp only [go_sem, Nat.reduceLT, Nat.reduceAdd, Nat.reduceEqDiff, Nat.reduceLeDiff, Nat.reduceSub, Nat.reduceMul, Int.reduceEq, eq_self, reduceIte]
        refine ret_scal hx rfl hc.kept ?_
        simp [go_sem, Nat.reduceLT, Nat.reduceAdd, Nat.reduceEqDiff, Nat.reduceLeDiff, Nat.reduceSub, Nat.reduceMul, Int.reduceEq, eq_self, reduceIte, L84, R84, hi]
    · have : l.drop k = [] := List.drop_eq_nil_of_le (by omega)
      rw [this] at hi
      simp only [go_sem, Nat.reduceLT, Nat.reduceAdd, Nat.reduceEqDiff, Nat.reduceLeDiff, Nat.reduceSub, Nat.reduceMul, Int.reduceEq, eq_self, reduceIte, hlt]
      refine ret_scal hx rfl hc.kept ?_
      simp [go_sem, Nat.reduceLT, Nat.reduceAdd, Nat.reduceEqDiff, Nat.reduceLeDiff, Nat.reduceSub, Nat.reduceMul, Int.reduceEq, eq_self, reduceIte, L84, R84, ← hi, idxF]
theorem contFI_meets (l : List Id) (g : Nat) (caps : List PV) (Hs : List AObj) (p : Id → Bool) (hg : hasBody Try.prog g = true) (hl : l.length ≤ 9223372036854775806) (hc : ClosedH Hs caps)
    (hp : ∀ e ∈ l, Meets Try.prog g (.agg (cId e) :: caps) Hs (.bool (p e)) Hs) :
    Meets Try.prog 67 [.list (l.map cId), .clo g caps] Hs (.bool (l.any p)) Hs := by
  refine Meets.of_walk Try.func67 Try.ntmps67 low67 res67 (by simp) fun x hx => ?_
  simp only [go_sem, Nat.reduceLT, Nat.reduceAdd, Nat.reduceEqDiff, Nat.reduceLeDiff, Nat.reduceSub, Nat.reduceMul, Int.reduceEq, eq_self, reduceIte, L67, R67]
  refine ops_call (.whole (indexI_meets l g caps Hs p hg hl hc hp) rfl ?_ hc.sub hc.back) ?_
  · simp only [go_sem, Nat.reduceLT, Nat.reduceAdd, Nat.reduceEqDiff, Nat.reduceLeDiff, Nat.reduceSub, Nat.reduceMul, Int.reduceEq, eq_self, reduceIte]
    rw [hc.leaf]
  simp only [go_sem, Nat.reduceLT, Nat.reduceAdd, Nat.reduceEqDiff, Nat.reduceLeDiff, Nat.reduceSub, Nat.reduceMul, Int.reduceEq, eq_self, reduceIte]
  refine ret_scal hx rfl hc.kept ?_
  simp [go_sem, Nat.reduceLT, Nat.reduceAdd, Nat.reduceEqDiff, Nat.reduceLeDiff, Nat.reduceSub, Nat.reduceMul, Int.reduceEq, eq_self, reduceIte, L67, R67, idxF_any]
end Go.Proofs.Ytkibfciheifphaa
/- Logs: finding, counting, being ready, being right: contracts. -/
namespace Go.Proofs.Ytkibfciheifphaa
set_option linter.unusedSimpArgs false
set_option linter.unusedVariables false
open Go.RowKit
def findE (l : List Entry) (x : Id) : Int := idxF (fun e => decide (e.id = x)) l 0
theorem cE_row (l : List Entry) : ∀ row ∈ l.map cE, row.length = 5 := by simp [cE]
theorem closed1 (cells : List PV) (h : cells.map (renCell false (pos [0]) (frzAt false [.box cells])) = cells) (h2 : cells.map (renCell false (pos [0]) (frzAt true [.box cells])) = cells) (h3 : cells.map (renCell false (backF 1 [0]) noFz) = cells) :
    ClosedH [.box cells] [.ptr 0 0] := by
  refine ⟨?_, ?_, ?_, ?_, ?_⟩
  · simp [renLeaf, pos, List.range_succ]
  · simp [ren, renCell, renLeaf, pos, List.range_succ]
  · simp only [List.length_cons, List.length_nil, List.range_succ, List.range_zero, List.nil_append, subHeap, List.map_cons, List.map_nil, List.getElem?_cons_zero, Option.getD_some, renObj, h]
  · simp only [List.length_cons, List.length_nil, List.range_succ, List.range_zero, List.nil_append, merge, List.map_cons, List.map_nil, mergeObj, callId, Nat.zero_add, Nat.sub_self, Nat.add_zero]
    simp [pos, renObj, h3]
  · simp only [List.length_cons, List.length_nil, List.range_succ, List.range_zero, List.nil_append, subHeap, List.map_cons, List.map_nil, List.getElem?_cons_zero, Option.getD_some, renObj, h2]
theorem find1_meets (x : Id) (e : Entry) : Meets Try.prog 66 [.agg (cE e), .ptr 0 0] [.box (cId x)] (.bool (decide (e.id = x))) [.box (cId x)] := by
  refine Meets.of_walk Try.func66 Try.ntmps66 low66 res66 (by simp) fun xx hx => ?_
  simp only [go_sem, Nat.reduceLT, Nat.reduceAdd, Nat.reduceEqDiff, Nat.reduceLeDiff, Nat.reduceSub, Nat.reduceMul, Int.reduceEq, eq_self, reduceIte, L66, R66, cE, cId, beqId]
  refine ret_keep [] (by simp) (by simp) (by simp [hx]) ?_ ?_
  · simp [go_sem, Nat.reduceLT, Nat.reduceAdd, Nat.reduceEqDiff, Nat.reduceLeDiff, Nat.reduceSub, Nat.reduceMul, Int.reduceEq, eq_self, reduceIte, L66, R66, hx]
  · simp [subHeap, renObj, hx, go_sem, Nat.reduceLT, Nat.reduceAdd, Nat.reduceEqDiff, Nat.reduceLeDiff, Nat.reduceSub, Nat.reduceMul, Int.reduceEq, eq_self, reduceIte]
theorem closedId (x : Id) : ClosedH [.box (cId x)] [.ptr 0 0] := closed1 _ (by simp [cId, renCell, renLeaf]) (by simp [cId, renCell, renLeaf]) (by simp [cId, renCell, renLeaf])
theorem find_meets (l : List Entry) (x : Id) (hl : l.length ≤ 9223372036854775806) : Meets Try.prog 45 [.list (l.map cE), .agg (cId x)] [] (.int .i64 (findE l x)) [] := by
  refine Meets.of_walk Try.func45 Try.ntmps45 low45 res45 (by simp) fun xx hx => ?_
  simp only [go_sem, Nat.reduceLT, Nat.reduceAdd, Nat.reduceEqDiff, Nat.reduceLeDiff, Nat.reduceSub, Nat.reduceMul, Int.reduceEq, eq_self, reduceIte, L45, R45, cId]
  refine ops_call (.heapE [0] (r' := .int .i64 (findE l x)) (H' := [.box (cId x)]) (indexE_meets l 66 [.ptr 0 0] [.box (cId x)] (fun e => decide (e.id = x)) (by kernel_rfl) hl (closedId x) (fun e _ => find1_meets x e)) (by simp) (by simp) (by simp [go_sem, Nat.reduceLT, Nat.reduceAdd, Nat.reduceEqDiff, Nat.reduceLeDiff, Nat.reduceSub, Nat.reduceMul, Int.reduceEq, eq_self, reduceIte, pos]) (by simp [subHeap, renObj, go_sem, Nat.reduceLT, Nat.reduceAdd, Nat.reduceEqDiff, Nat.reduceLeDiff, Nat.reduceSub, Nat.reduceMul, Int.reduceEq, eq_self, reduceIte, cId]) rfl (by simp [merge, mergeObj, callId, renObj, pos, go_sem, Nat.reduceLT, Nat.reduceAdd, Nat.reduceEqDiff, Nat.reduceLeDiff, Nat.reduceSub, Nat.reduceMul, Int.reduceEq, eq_self, reduceIte, List.range_succ, cId])) ?_
  simp only [go_sem, Nat.reduceLT, Nat.reduceAdd, Nat.reduceEqDiff, Nat.reduceLeDiff, Nat.reduceSub, Nat.reduceMul, Int.reduceEq, eq_self, reduceIte]
  refine ret_pure hx ?_
  simp [go_sem, Nat.reduceLT, Nat.reduceAdd, Nat.reduceEqDiff, Nat.reduceLeDiff, Nat.reduceSub, Nat.reduceMul, Int.reduceEq, eq_self, reduceIte, L45, R45]
def cntR (l : List Entry) (r : Int) : Nat := l.countP fun e => decide (e.id.r = r)
theorem cntR_take (l : List Entry) (k : Nat) (r : Int) (h : k < l.length) : cntR (l.take (k + 1)) r = cntR (l.take k) r + if (nth l k).id.r = r then 1 else 0 := by
  rw [List.take_succ_eq_append_getElem h, nth_eq _ _ h]
  simp only [cntR, List.countP_append, List.countP_cons, List.countP_nil, decide_eq_true_eq]
  omega
theorem cntR_le (l : List Entry) (r : Int) : cntR l r ≤ l.length := List.countP_le_length
def okReg (l : List Entry) : Prop := ∀ e ∈ l, e.id.r = 0 ∨ e.id.r = 1
theorem many_meets (l : List Entry) (h : okReg l) (hl : l.length ≤ 1000000000000000) : Meets Try.prog 42 [.list (l.map cE)] [] (.agg [.int .i64 (cntR l 0), .int .i64 (cntR l 1)]) [] := by
  refine Meets.of_walk Try.func42 Try.ntmps42 low42 res42 (by simp) fun x hx => ?_
  simp only [go_sem, Nat.reduceLT, Nat.reduceAdd, Nat.reduceEqDiff, Nat.reduceLeDiff, Nat.reduceSub, Nat.reduceMul, Int.reduceEq, eq_self, reduceIte, L42, R42]
  refine loop_inv [2, 3, 6, 7, 8] 2 (fun n st => ∃ k : Nat, k + n = l.length ∧
    st = ⟨mkE .top [(2, .ptr 0 0), (3, .ptr 1 0), (6, .list (l.map cE)), (7, .int .i64 l.length), (8, .int .i64 k)], [.box [.int .i64 0, .int .i64 0], .box [.int .i64 (cntR (l.take k) 0), .int .i64 (cntR (l.take k) 1)]]⟩) l.length (by simp [hx]) (by simp) ?_ ?_
  · refine ⟨0, by omega, ?_⟩
    simp [trim_mk, go_sem, Nat.reduceLT, Nat.reduceAdd, Nat.reduceEqDiff, Nat.reduceLeDiff, Nat.reduceSub, Nat.reduceMul, Int.reduceEq, eq_self, reduceIte, subHeap, renObj, pos, List.range_succ, cntR]
  · rintro n st ⟨k, hk, rfl⟩
    by_cases hlt : k < l.length
    · have hg : l[k]? = some (nth l k) := nth_get? _ _ hlt
      have wk := i64_up (k := k) (by omega)
      have hle : ∀ r, cntR (l.take k) r ≤ 1000000000000000 := fun r => by have := cntR_le (l.take k) r; rw [List.length_take] at this; omega
      have w0 := i64_up (k := cntR (l.take k) 0) (by have := hle 0; omega)
      have w1 := i64_up (k := cntR (l.take k) 1) (by have := hle 1; omega)
      have c0 := cntR_take l k 0 hlt
      have c1 := cntR_take l k 1 hlt
      rcases h (nth l k) (by rw [nth_eq _ _ hlt]; exact List.getElem_mem hlt) with hr | hr
      · rw [hr] at c0 c1
        simp only [go_sem, Nat.reduceLT, Nat.reduceAdd, Nat.reduceEqDiff, Nat.reduceLeDiff, Nat.reduceSub, Nat.reduceMul, Int.reduceEq, eq_self, reduceIte, hlt, hg, cE, hr, w0, w1, wk, Int.reduceLE, Int.reduceLT, Int.reduceToNat, Int.cast_ofNat_Int, Int.ofNat_zero, Int.toNat_zero, Int.le_refl]
        refine ⟨by simp, n - 1, by omega, k + 1, by omega, ?_⟩
        simp [trim_mk, go_sem, Nat.reduceLT, Nat.reduceAdd, Nat.reduceEqDiff, Nat.reduceLeDiff, Nat.reduceSub, Nat.reduceMul, Int.reduceEq, eq_self, reduceIte, subHeap, renObj, pos, List.range_succ, c0, c1]
      · rw [hr] at c0 c1
        simp only [go_sem, Nat.reduceLT, Nat.reduceAdd, Nat.reduceEqDiff, Nat.reduceLeDiff, Nat.reduceSub, Nat.reduceMul, Int.reduceEq, eq_self, reduceIte, hlt, hg, cE, hr, w0, w1, wk, Int.reduceLE, Int.reduceLT, Int.reduceToNat, Int.cast_ofNat_Int, Int.ofNat_zero, Int.toNat_zero, Int.le_refl]
        refine ⟨by simp, n - 1, by omega, k + 1, by omega, ?_⟩
        simp [trim_mk, go_sem, Nat.reduceLT, Nat.reduceAdd, Nat.reduceEqDiff, Nat.reduceLeDiff, Nat.reduceSub, Nat.reduceMul, Int.reduceEq, eq_self, reduceIte, subHeap, renObj, pos, List.range_succ, c0, c1]
    · have : l.take k = l := List.take_of_length_le (by omega)
      simp only [go_sem, Nat.reduceLT, Nat.reduceAdd, Nat.reduceEqDiff, Nat.reduceLeDiff, Nat.reduceSub, Nat.reduceMul, Int.reduceEq, eq_self, reduceIte, hlt]
      refine ret_pure hx ?_
      simp [go_sem, Nat.reduceLT, Nat.reduceAdd, Nat.reduceEqDiff, Nat.reduceLeDiff, Nat.reduceSub, Nat.reduceMul, Int.reduceEq, eq_self, reduceIte, L42, R42, this]
end Go.Proofs.Ytkibfciheifphaa
/- Logs: being ready, being right: contracts. -/
namespace Go.Proofs.Ytkibfciheifphaa
set_option linter.unusedSimpArgs false
set_option linter.unusedVariables false
open Go.RowKit
def readyB (l : List Entry) (e : Entry) : Bool := decide ((cntR l e.id.r : Int) + 1 = e.id.n) && !(e.ls.any fun x => decide (findE l x < 0))
theorem ready1_meets (l : List Entry) (x : Id) (hl : l.length ≤ 9223372036854775806) : Meets Try.prog 68 [.agg (cId x), .ptr 0 0] [.box [.list (l.map cE)]] (.bool (decide (findE l x < 0))) [.box [.list (l.map cE)]] := by
  refine Meets.of_walk Try.func68 Try.ntmps68 low68 res68 (by simp) fun xx hx => ?_
  simp only [go_sem, Nat.reduceLT, Nat.reduceAdd, Nat.reduceEqDiff, Nat.reduceLeDiff, Nat.reduceSub, Nat.reduceMul, Int.reduceEq, eq_self, reduceIte, L68, R68, cId]
  refine ops_call (.pureE (find_meets l x hl) (by simp [go_sem, Nat.reduceLT, Nat.reduceAdd, Nat.reduceEqDiff, Nat.reduceLeDiff, Nat.reduceSub, Nat.reduceMul, Int.reduceEq, eq_self, reduceIte, cId])) ?_
  simp only [go_sem, Nat.reduceLT, Nat.reduceAdd, Nat.reduceEqDiff, Nat.reduceLeDiff, Nat.reduceSub, Nat.reduceMul, Int.reduceEq, eq_self, reduceIte]
  refine ret_keep [] (by simp) (by simp) (by simp [hx]) ?_ ?_
  · simp [go_sem, Nat.reduceLT, Nat.reduceAdd, Nat.reduceEqDiff, Nat.reduceLeDiff, Nat.reduceSub, Nat.reduceMul, Int.reduceEq, eq_self, reduceIte, L68, R68, hx]
  · simp [subHeap, renObj, hx, go_sem, Nat.reduceLT, Nat.reduceAdd, Nat.reduceEqDiff, Nat.reduceLeDiff, Nat.reduceSub, Nat.reduceMul, Int.reduceEq, eq_self, reduceIte]
theorem closedL (l : List Entry) : ClosedH [.box [.list (l.map cE)]] [.ptr 0 0] := closed1 _ (by simp [renCell, renLeaf]) (by simp [renCell, renLeaf]) (by simp [renCell, renLeaf])
theorem ready_meets (l : List Entry) (e : Entry) (h : okReg l) (hl : l.length ≤ 1000000000000000) (he : e.id.r = 0 ∨ e.id.r = 1) (hls : e.ls.length ≤ 9223372036854775806) :
    Meets Try.prog 46 [.list (l.map cE), .agg (cE e)] [] (.bool (readyB l e)) [] := by
  refine Meets.of_walk Try.func46 Try.ntmps46 low46 res46 (by simp) fun x hx => ?_
  have hw : IntKind.i64.wrap ((cntR l e.id.r : Int) + 1) = (cntR l e.id.r : Int) + 1 := by have := cntR_le l e.id.r; rw [IntWalk.i64_in _ (by omega)]
  simp only [go_sem, Nat.reduceLT, Nat.reduceAdd, Nat.reduceEqDiff, Nat.reduceLeDiff, Nat.reduceSub, Nat.reduceMul, Int.reduceEq, eq_self, reduceIte, L46, R46, cE]
  refine ops_call (.pure (many_meets l h hl)) ?_
  have hany := contFI_meets e.ls 68 [.ptr 0 0] [.box [.list (l.map cE)]] (fun x => decide (findE l x < 0)) (by kernel_rfl) hls (closedL l) (fun y _ => ready1_meets l y (by omega))
  rcases he with hr | hr
  all_goals
    rw [hr] at hw
    by_cases hc : (cntR l e.id.r : Int) + 1 = e.id.n
    · have hc' := hc
      rw [hr] at hc'
      have dc := decide_eq_true hc'
      simp only [go_sem, Nat.reduceLT, Nat.reduceAdd, Nat.reduceEqDiff, Nat.reduceLeDiff, Nat.reduceSub, Nat.reduceMul, Int.reduceEq, eq_self, reduceIte, hr, hw, dc, Int.reduceLE, Int.reduceLT, Int.reduceToNat, Int.cast_ofNat_Int, Int.ofNat_zero, Int.toNat_zero, Int.le_refl]
      refine ops_call (.heapE [0] (r' := .bool (e.ls.any fun x => decide (findE l x < 0))) (H' := [.box [.list (l.map cE)], .box (cE e)]) hany (by simp) (by simp) (by simp [go_sem, Nat.reduceLT, Nat.reduceAdd, Nat.reduceEqDiff, Nat.reduceLeDiff, Nat.reduceSub, Nat.reduceMul, Int.reduceEq, eq_self, reduceIte, pos]) (by simp [subHeap, renObj, go_sem, Nat.reduceLT, Nat.reduceAdd, Nat.reduceEqDiff, Nat.reduceLeDiff, Nat.reduceSub, Nat.reduceMul, Int.reduceEq, eq_self, reduceIte]) rfl (by simp [merge, mergeObj, callId, renObj, pos, go_sem, Nat.reduceLT, Nat.reduceAdd, Nat.reduceEqDiff, Nat.reduceLeDiff, Nat.reduceSub, Nat.reduceMul, Int.reduceEq, eq_self, reduceIte, List.range_succ, cE, hr])) ?_
      simp only [go_sem, Nat.reduceLT, Nat.reduceAdd, Nat.reduceEqDiff, Nat.reduceLeDiff, Nat.reduceSub, Nat.reduceMul, Int.reduceEq, eq_self, reduceIte]
      refine ret_pure hx ?_
      simp [go_sem, Nat.reduceLT, Nat.reduceAdd, Nat.reduceEqDiff, Nat.reduceLeDiff, Nat.reduceSub, Nat.reduceMul, Int.reduceEq, eq_self, reduceIte, L46, R46, readyB, hc]
    · have hc' := hc
      rw [hr] at hc'
      simp only [go_sem, Nat.reduceLT, Nat.reduceAdd, Nat.reduceEqDiff, Nat.reduceLeDiff, Nat.reduceSub, Nat.reduceMul, Int.reduceEq, eq_self, reduceIte, hr, hw, hc', Int.reduceLE, Int.reduceLT, Int.reduceToNat, Int.cast_ofNat_Int, Int.ofNat_zero, Int.toNat_zero, Int.le_refl]
      refine ret_pure hx ?_
      simp [go_sem, Nat.reduceLT, Nat.reduceAdd, Nat.reduceEqDiff, Nat.reduceLeDiff, Nat.reduceSub, Nat.reduceMul, Int.reduceEq, eq_self, reduceIte, L46, R46, readyB, hc]
def logErr (l : List Entry) (k : Nat) : Int :=
  if checkEntry (nth l k) ≠ 0 then checkEntry (nth l k) else if 0 ≤ findE (l.take k) (nth l k).id then 6
  else if (cntR (l.take k) (nth l k).id.r : Int) + 1 ≠ (nth l k).id.n then 4 else if readyB (l.take k) (nth l k) = false then 5 else 0
def checkLog (l : List Entry) : Int := if 40 < l.length then 2 else firstNZ (logErr l) l.length
theorem reg_of_check {e : Entry} (h : checkEntry e = 0) : e.id.r = 0 ∨ e.id.r = 1 := by
  have := (check_ok_bounds h).1
  simp only [okId, Bool.and_eq_true, wthn_iff] at this
  omega
theorem okReg_take {l : List Entry} {k : Nat} (h : firstNZ (logErr l) k = 0) (hk : k ≤ l.length) : okReg (l.take k) := by
  intro e he
  obtain ⟨j, hj, rfl⟩ := List.getElem_of_mem he
  rw [List.length_take] at hj
  have h0 := firstNZ_zero.1 h j (by omega)
  have hc : checkEntry (nth l j) = 0 := by
    unfold logErr at h0
    split at h0
    · exact h0
    · rename_i h; simpa using h
  rw [List.getElem_take, ← nth_eq l j (by omega)]
  exact reg_of_check hc
theorem dagCheck_meets (l : List Entry) (hm : l.length ≤ 9223372036854775806) : Meets Try.prog 23 [.list (l.map cE)] [] (.int .i64 (checkLog l)) [] := by
  refine Meets.of_walk Try.func23 Try.ntmps23 low23 res23 (by simp) fun x hx => ?_
  by_cases h40 : 40 < l.length
  · have d40 : decide ((40 : Int) < (l.length : Nat)) = true := by simp; omega
    simp only [go_sem, Nat.reduceLT, Nat.reduceAdd, Nat.reduceEqDiff, Nat.reduceLeDiff, Nat.reduceSub, Nat.reduceMul, Int.reduceEq, eq_self, reduceIte, L23, R23, d40]
    refine ret_pure hx ?_
    simp [go_sem, Nat.reduceLT, Nat.reduceAdd, Nat.reduceEqDiff, Nat.reduceLeDiff, Nat.reduceSub, Nat.reduceMul, Int.reduceEq, eq_self, reduceIte, L23, R23, checkLog, h40]
  have d40 : decide ((40 : Int) < (l.length : Nat)) = false := by simp; omega
  have hcl : checkLog l = firstNZ (logErr l) l.length := by simp [checkLog, h40]
  simp only [go_sem, Nat.reduceLT, Nat.reduceAdd, Nat.reduceEqDiff, Nat.reduceLeDiff, Nat.reduceSub, Nat.reduceMul, Int.reduceEq, eq_self, reduceIte, L23, R23, d40, hcl]
  refine loop_inv [0, 9, 10, 11] 0 (fun n st => ∃ k : Nat, k + n = l.length ∧ firstNZ (logErr l) k = 0 ∧
    st = ⟨mkE .top [(0, .list (l.map cE)), (9, .list (l.map cE)), (10, .int .i64 l.length), (11, .int .i64 k)], []⟩) l.length (by simp [hx]) (by simp) ?_ ?_
  · refine ⟨0, by omega, rfl, ?_⟩
    simp [trim_mk, go_sem, Nat.reduceLT, Nat.reduceAdd, Nat.reduceEqDiff, Nat.reduceLeDiff, Nat.reduceSub, Nat.reduceMul, Int.reduceEq, eq_self, reduceIte, subHeap, renObj, pos]
  · rintro n st ⟨k, hk, hz, rfl⟩
    by_cases hlt : k < l.length
    · have hg : l[k]? = some (nth l k) := nth_get? _ _ hlt
      have wk := i64_up (k := k) (by omega)
      have hle : k ≤ l.length := by omega
      have hrow : (∀ row ∈ List.map cE l, row.length = 5) = True := eq_true (cE_row l)
      have htk : List.take k (List.map cE l) = List.map cE (List.take k l) := List.map_take.symm
      have hlk : (l.take k).length ≤ 40 := by rw [List.length_take]; omega
      have hreg := okReg_take hz hle
      have fin : ∀ r : Int, logErr l k = r → r ≠ 0 → firstNZ (logErr l) l.length = r := fun r h1 h2 => by rw [firstNZ_hit hz (by rw [h1]; exact h2) hlt, h1]
      simp only [go_sem, Nat.reduceLT, Nat.reduceAdd, Nat.reduceEqDiff, Nat.reduceLeDiff, Nat.reduceSub, Nat.reduceMul, Int.reduceEq, eq_self, reduceIte, hlt, hg, cE]
      refine ops_call (.pureE (check_meets (nth l k)) (by simp [go_sem, Nat.reduceLT, Nat.reduceAdd, Nat.reduceEqDiff, Nat.reduceLeDiff, Nat.reduceSub, Nat.reduceMul, Int.reduceEq, eq_self, reduceIte, cE])) ?_
      by_cases h1 : checkEntry (nth l k) = 0
      · have hr := reg_of_check h1
        simp only [go_sem, Nat.reduceLT, Nat.reduceAdd, Nat.reduceEqDiff, Nat.reduceLeDiff, Nat.reduceSub, Nat.reduceMul, Int.reduceEq, eq_self, reduceIte, h1, hle, hrow, htk, Int.le_refl, Int.sub_zero, Int.toNat_zero, Int.natCast_nonneg, cE]
        refine ops_call (.pureE (find_meets (l.take k) (nth l k).id (by omega)) (by simp [go_sem, Nat.reduceLT, Nat.reduceAdd, Nat.reduceEqDiff, Nat.reduceLeDiff, Nat.reduceSub, Nat.reduceMul, Int.reduceEq, eq_self, reduceIte, cId])) ?_
        by_cases h2 : 0 ≤ findE (l.take k) (nth l k).id
        · simp only [go_sem, Nat.reduceLT, Nat.reduceAdd, Nat.reduceEqDiff, Nat.reduceLeDiff, Nat.reduceSub, Nat.reduceMul, Int.reduceEq, eq_self, reduceIte, h2]
          refine ret_pure hx ?_
          have : logErr l k = 6 := by simp [logErr, h1, h2]
          simp [go_sem, Nat.reduceLT, Nat.reduceAdd, Nat.reduceEqDiff, Nat.reduceLeDiff, Nat.reduceSub, Nat.reduceMul, Int.reduceEq, eq_self, reduceIte, L23, R23, fin _ this (by decide)]
        simp only [go_sem, Nat.reduceLT, Nat.reduceAdd, Nat.reduceEqDiff, Nat.reduceLeDiff, Nat.reduceSub, Nat.reduceMul, Int.reduceEq, eq_self, reduceIte, h2, hle, hrow, htk, Int.le_refl, Int.sub_zero, Int.toNat_zero, Int.natCast_nonneg, cE]
        refine ops_call (.pureE (many_meets (l.take k) hreg (by omega)) (by simp [go_sem, Nat.reduceLT, Nat.reduceAdd, Nat.reduceEqDiff, Nat.reduceLeDiff, Nat.reduceSub, Nat.reduceMul, Int.reduceEq, eq_self, reduceIte])) ?_
        have hw : ∀ r, IntKind.i64.wrap ((cntR (l.take k) r : Int) + 1) = (cntR (l.take k) r : Int) + 1 := fun r => by have := cntR_le (l.take k) r; rw [IntWalk.i64_in _ (by omega)]
        by_cases h3 : (cntR (l.take k) (nth l k).id.r : Int) + 1 = (nth l k).id.n
        · have h3e : logErr l k = if readyB (l.take k) (nth l k) = false then 5 else 0 := by simp [logErr, h1, h2, h3]
          rcases hr with hr | hr
          all_goals
            have h3' := h3
            rw [hr] at h3'
            have dc := decide_eq_true h3'
            simp only [go_sem, Nat.reduceLT, Nat.reduceAdd, Nat.reduceEqDiff, Nat.reduceLeDiff, Nat.reduceSub, Nat.reduceMul, Int.reduceEq, eq_self, reduceIte, hr, hw, dc, hle, hrow, htk, Int.sub_zero, Int.natCast_nonneg, cE, Int.reduceLE, Int.reduceLT, Int.reduceToNat, Int.cast_ofNat_Int, Int.ofNat_zero, Int.toNat_zero, Int.le_refl]
            refine ops_call (.pureE (ready_meets (l.take k) (nth l k) hreg (by omega) (by omega) (by have := (check_ok_bounds h1).2.2.2.1; omega)) (by simp [go_sem, Nat.reduceLT, Nat.reduceAdd, Nat.reduceEqDiff, Nat.reduceLeDiff, Nat.reduceSub, Nat.reduceMul, Int.reduceEq, eq_self, reduceIte, cE, hr])) ?_
            cases h4 : readyB (l.take k) (nth l k)
            · simp only [go_sem, Nat.reduceLT, Nat.reduceAdd, Nat.reduceEqDiff, Nat.reduceLeDiff, Nat.reduceSub, Nat.reduceMul, Int.reduceEq, eq_self, reduceIte]
              refine ret_pure hx ?_
              have : logErr l k = 5 := by rw [h3e, if_pos h4]
              simp [go_sem, Nat.reduceLT, Nat.reduceAdd, Nat.reduceEqDiff, Nat.reduceLeDiff, Nat.reduceSub, Nat.reduceMul, Int.reduceEq, eq_self, reduceIte, L23, R23, fin _ this (by decide)]
            · simp only [go_sem, Nat.reduceLT, Nat.reduceAdd, Nat.reduceEqDiff, Nat.reduceLeDiff, Nat.reduceSub, Nat.reduceMul, Int.reduceEq, eq_self, reduceIte, wk]
              refine ⟨by simp, n - 1, by omega, k + 1, by omega, firstNZ_succ hz (by rw [h3e, if_neg (by simp [h4])]), ?_⟩
              simp [trim_mk, go_sem, Nat.reduceLT, Nat.reduceAdd, Nat.reduceEqDiff, Nat.reduceLeDiff, Nat.reduceSub, Nat.reduceMul, Int.reduceEq, eq_self, reduceIte, subHeap, renObj, pos]
        · rcases hr with hr | hr
          all_goals
            have h3' := h3
            rw [hr] at h3'
            have dc := decide_eq_false h3'
            simp only [go_sem, Nat.reduceLT, Nat.reduceAdd, Nat.reduceEqDiff, Nat.reduceLeDiff, Nat.reduceSub, Nat.reduceMul, Int.reduceEq, eq_self, reduceIte, hr, hw, dc, Int.reduceLE, Int.reduceLT, Int.reduceToNat, Int.cast_ofNat_Int, Int.ofNat_zero, Int.toNat_zero, Int.le_refl]
            refine ret_pure hx ?_
            have : logErr l k = 4 := by simp [logErr, h1, h2, h3]
            simp [go_sem, Nat.reduceLT, Nat.reduceAdd, Nat.reduceEqDiff, Nat.reduceLeDiff, Nat.reduceSub, Nat.reduceMul, Int.reduceEq, eq_self, reduceIte, L23, R23, fin _ this (by decide)]
      · simp only [go_sem, Nat.reduceLT, Nat.reduceAdd, Nat.reduceEqDiff, Nat.reduceLeDiff, Nat.reduceSub, Nat.reduceMul, Int.reduceEq, eq_self, reduceIte, h1]
        refine ret_pure hx ?_
        have : logErr l k = checkEntry (nth l k) := by simp [logErr, h1]
        simp [go_sem, Nat.reduceLT, Nat.reduceAdd, Nat.reduceEqDiff, Nat.reduceLeDiff, Nat.reduceSub, Nat.reduceMul, Int.reduceEq, eq_self, reduceIte, L23, R23, fin _ this h1]
    · have hke : k = l.length := by omega
      subst hke
      simp only [go_sem, Nat.reduceLT, Nat.reduceAdd, Nat.reduceEqDiff, Nat.reduceLeDiff, Nat.reduceSub, Nat.reduceMul, Int.reduceEq, eq_self, reduceIte, Nat.lt_irrefl, hz]
      refine ret_pure hx ?_
      simp [go_sem, Nat.reduceLT, Nat.reduceAdd, Nat.reduceEqDiff, Nat.reduceLeDiff, Nat.reduceSub, Nat.reduceMul, Int.reduceEq, eq_self, reduceIte, L23, R23, hz]
end Go.Proofs.Ytkibfciheifphaa
/- Array objects and the rows of cells where they lie: what holds in memory of an array, and what may be said when its cells were laid anew. -/
namespace Go.Proofs.Ytkibfciheifphaa
open Go.RowKit
section
variable {x : Cx} {C : Conc} {H : List AObj} {w w' : World}
theorem HR.row (hr : HR x C H w) {id v T sz : Nat} {sto : Bool} {rows : List (List PV)} {u : Value} (hid : H[id]? = some (.arr v sto false T sz rows)) (hu : RepV (Stab x C H w) w C (.arr id v) u) :
    u = C.sv id ∧ (∀ row ∈ rows, row.length = sz) ∧ (u = .slice none 0 0 ∧ rows = [] ∨ ∃ (g cap : Nat) (cur : Array Value), u = .slice (some ⟨g, 0, none⟩) rows.length cap ∧ w.heap[g]? = some (.cells cur T (0, 0)) ∧ rows.length ≤ cap ∧ cap ≤ maxLen ∧ cur.size = cap * sz ∧
      ∀ (k : Nat) row (j : Nat) p, rows[k]? = some row → row[j]? = some p → ∃ y, cur[k * sz + j]? = some y ∧ y.oneCell' = true ∧ RepP (Stab x C H w) w p y) := by
  obtain ⟨o1, o2, o3, xs, o4, o5⟩ := hr.obj id _ hid
  obtain ⟨e, hi⟩ := hu.arr_inv o1
  refine ⟨e, o3, ?_⟩
  rcases o4.2 with ⟨g1, g2⟩ | ⟨g, cap, cur, g1, -, g2, g3, g4, g5, g6⟩
  · exact .inl ⟨e.trans g1, List.length_eq_zero_iff.1 g2⟩
  · refine .inr ⟨g, cap, cur, e.trans g1, g2, g3, g4, g5, fun k row j p a b => ?_⟩
    have hk : k < rows.length := (List.getElem?_eq_some_iff.1 a).1
    have hj : j < sz := by rw [← o3 row (List.mem_of_getElem? a)]; exact (List.getElem?_eq_some_iff.1 b).1
    have hkl : k * sz + j < rows.length * sz := by
      have : (k + 1) * sz ≤ rows.length * sz := Nat.mul_le_mul_right _ hk
      rw [Nat.add_mul] at this; omega
    have hcl : rows.length * sz ≤ cap * sz := Nat.mul_le_mul_right _ g3
    have hlt : k * sz + j < cur.size := by omega
    have hx : xs[k * sz + j]? = some cur[k * sz + j] := by rw [← g6, List.getElem?_take, if_pos hkl, Array.getElem?_toList, Array.getElem?_eq_getElem hlt]
    have := o5 k row j p _ a b hx
    simp only [Bool.false_eq_true, if_false] at this
    exact ⟨_, Array.getElem?_eq_getElem hlt, this⟩
theorem HR.drop (hr : HR x C H w) {id v T sz g cap' : Nat} {rows rows' : List (List PV)} {cur' : Array Value} {fr : Nat × Nat}
    (hid : H[id]? = some (.arr v true false T sz rows)) (hs : Step w w' fun b => (C.sv id).ownBlock = some b) (hg : (C.sv id).ownBlock = some g)
    (hc : w'.heap[g]? = some (.cells cur' T fr)) (hn : rows'.length ≤ cap') (hm : cap' ≤ maxLen) (hz : cur'.size = cap' * sz) (hrow : ∀ row ∈ rows', row.length = sz)
    (hrep : ∀ (k : Nat) row (j : Nat) p u, rows'[k]? = some row → row[j]? = some p → cur'[k * sz + j]? = some u → RepP (Stab x C H w) w p u) :
    HR x C (H.set id .gone) w' ∧ (∀ p u, RepV (Stab x C H w) w C p u → RepV (Stab x C (H.set id .gone) w') w' C p u) ∧
      RepP (Stab x C (H.set id .gone) w') w' (.list rows') (.slice (some ⟨g, 0, none⟩) rows'.length cap') := by
  obtain ⟨o1, o2, o3, xs, o4, o5⟩ := hr.obj id _ hid
  have hlt : id < H.length := (List.getElem?_eq_some_iff.1 hid).1
  have hgb : g < w'.heap.size := (Array.getElem?_eq_some_iff.1 hc).1
  have hmp : ∀ p v, RepP (Stab x C H w) w p v → RepP (Stab x C (H.set id .gone) w') w' p v := by
    intro p v h
    refine h.mono (fun b o h => ⟨h.1, Nat.lt_of_lt_of_le h.2.1 hs.size, fun i ob1 hi => ?_⟩) fun b o h => cell_eq (hs.blk b h.2.1 fun hb => ?_)
    · by_cases e : i = id
      · subst e; rw [List.getElem?_set_self hlt] at hi; cases hi; trivial
      · rw [List.getElem?_set_ne (Ne.symm e)] at hi; exact h.2.2 i ob1 hi
    · have := h.2.2 id _ hid hb; simp at this
  obtain ⟨k1, k2⟩ := hr.change (C' := C) hid (ob' := .gone) hs rfl (fun _ => rfl) (fun _ _ => ⟨rfl, rfl⟩) (.inl ⟨rfl, rfl⟩)
    (fun b o hb hf => trivial) (fun b o hb hf => by have := hf hb; simp at this) (fun b hb => hb.elim) (fun _ _ => trivial)
  refine ⟨k1, k2, ?_⟩
  refine .list rows' _ cap' sz (fun k j => cur'[k * sz + j]!) hn hm o2 hrow (fun k row j p a b => ⟨g, 0, rfl, ?_, ?_⟩) fun k row j p a b => ?_
  · refine ⟨?_, hgb, fun i ob1 hi => ?_⟩
    · rcases hr.mine id _ g hid hg with h | h
      · exact .inr (.inl h)
      · exact .inr (.inr h)
    · by_cases e : i = id
      · subst e; rw [List.getElem?_set_self hlt] at hi; cases hi; trivial
      · rw [List.getElem?_set_ne (Ne.symm e)] at hi
        exact AObj.free_of_not (fun hb => e (hr.apart i id ob1 _ g hi hid hb hg)) _
  all_goals
    have hk : k < rows'.length := (List.getElem?_eq_some_iff.1 a).1
    have hj : j < sz := by rw [← hrow row (List.mem_of_getElem? a)]; exact (List.getElem?_eq_some_iff.1 b).1
    have hkl : k * sz + j < cur'.size := by
      have h1 : (k + 1) * sz ≤ rows'.length * sz := Nat.mul_le_mul_right _ hk
      have h2 : rows'.length * sz ≤ cap' * sz := Nat.mul_le_mul_right _ hn
      rw [Nat.add_mul] at h1; omega
  · simp [World.cell?, hc, hkl]
  · exact hmp _ _ (hrep k row j p _ a b (by simp [hkl]))
end
end Go.Proofs.Ytkibfciheifphaa
/- Rows of plain cells: the kit's words on rows, and arrays of the calculus. -/
namespace Go.Proofs.Ytkibfciheifphaa
open Go.RowKit
open Go.Sort (flatK putRowK HoldsK size_flatK get_flatK putCells mapBlock onCells)
structure Flat {α : Type} (pv : α → List PV) (enc : α → List Value) (k : Nat) : Prop where
  k0 : 0 < k
  len : ∀ a, (enc a).length = k
  lenp : ∀ a, (pv a).length = k
  one : ∀ a, ∀ v ∈ enc a, v.oneCell' = true
  fit : ∀ S w a (j : Nat) p, (pv a)[j]? = some p → RepP S w p ((enc a)[j]!)
  back : ∀ S w a (j : Nat) p u, (pv a)[j]? = some p → RepP S w p u → u = (enc a)[j]!
section
variable {α : Type} [Inhabited α] {pv : α → List PV} {enc : α → List Value} {k : Nat}
end
end Go.Proofs.Ytkibfciheifphaa
/- slices.Compact at ids: in memory. -/
namespace Go.Proofs.Ytkibfciheifphaa
open Go.RowKit Go.Lib Go.Sort
open Go.Shelf
end Go.Proofs.Ytkibfciheifphaa
/- slices.Compact at ids: as a contract: an array becomes a list. -/
namespace Go.Proofs.Ytkibfciheifphaa
open Go.RowKit
open Go.Sort (flatK putRowK HoldsK size_flatK get_flatK putCells mapBlock onCells)
section
variable {x : Cx} {C : Conc} {H : List AObj} {w w' : World}
end
def compI (l : List Id) : List Id := Lib.compact l
end Go.Proofs.Ytkibfciheifphaa
/- Library functions of this seat, told apart by number (what the guide's shelf says of them is used by name). -/
namespace Go.Proofs.Ytkibfciheifphaa
open Go.Shelf Go.Proofs
end Go.Proofs.Ytkibfciheifphaa
/- slices.SortFunc at ids by entry.Order: an array of ids is put in order. -/
namespace Go.Proofs.Ytkibfciheifphaa
open Go.RowKit
def sortI (l : List Id) : List Id := l.mergeSort fun x y => !(ltOf ordI) y x
end Go.Proofs.Ytkibfciheifphaa
/- Plain laws of logs: ids in order, what a right log has, pasts. No program in sight. -/
namespace Go.Proofs.Ytkibfciheifphaa
/-! ids in order -/
theorem rise_len : ∀ (l : List Int) (a b : Int), l.Pairwise (· < ·) → (∀ x ∈ l, a ≤ x ∧ x < b) → a ≤ b → (l.length : Int) ≤ b - a
  | [], a, b, _, _, h => by simp; omega
  | x :: l, a, b, hp, hm, h => by
    have hp' := List.pairwise_cons.1 hp
    have hx := hm x (by simp)
    have := rise_len l (x + 1) b hp'.2 (fun y hy => ⟨hp'.1 y hy, (hm y (by simp [hy])).2⟩) (by omega)
    simp only [List.length_cons]; omega
def setI (l : List Id) : List Id := compI (sortI l)
/-! finding -/
theorem idxF_spec {α : Type} [Inhabited α] (p : α → Bool) : ∀ (l : List α) (i : Nat), 0 ≤ idxF p l i → ∃ k : Nat, idxF p l i = i + k ∧ k < l.length ∧ p (nth l k) = true
  | [], i, h => by simp [idxF] at h
  | x :: l, i, h => by
    simp only [idxF] at h ⊢
    split
    · rename_i hx
      exact ⟨0, by simp, by simp, by simpa [nth] using hx⟩
    · rename_i hx
      rw [if_neg hx] at h
      obtain ⟨k, h1, h2, h3⟩ := idxF_spec p l (i + 1) h
      exact ⟨k + 1, by omega, by simp; omega, by simpa [nth] using h3⟩
theorem findE_spec {l : List Entry} {x : Id} (h : 0 ≤ findE l x) : ∃ k : Nat, findE l x = k ∧ k < l.length ∧ (nth l k).id = x := by
  obtain ⟨k, h1, h2, h3⟩ := idxF_spec _ l 0 h
  exact ⟨k, by rw [findE, h1]; simp, h2, by simpa using h3⟩
theorem findE_neg {l : List Entry} {x : Id} : findE l x < 0 ↔ ∀ e ∈ l, e.id ≠ x := by
  rcases idxF_ge (fun e : Entry => decide (e.id = x)) l 0 with ⟨h1, h2⟩ | ⟨h1, h2⟩
  · rw [findE, h1]
    rw [List.any_eq_false] at h2
    exact ⟨fun _ e he => by simpa using h2 e he, fun _ => by omega⟩
  · rw [List.any_eq_true] at h2
    obtain ⟨e, he, hx⟩ := h2
    exact ⟨fun h => by rw [findE] at h; omega, fun h => (h e he (by simpa using hx)).elim⟩
/-! right logs -/
structure LogOk (l : List Entry) : Prop where
  len : l.length ≤ 40
  chk : ∀ k, k < l.length → checkEntry (nth l k) = 0
  new : ∀ k, k < l.length → findE (l.take k) (nth l k).id < 0
  num : ∀ k, k < l.length → (cntR (l.take k) (nth l k).id.r : Int) + 1 = (nth l k).id.n
  lnk : ∀ k, k < l.length → ∀ x ∈ (nth l k).ls, 0 ≤ findE (l.take k) x
theorem log_ok {l : List Entry} : checkLog l = 0 ↔ LogOk l := by
  have key : ∀ k, logErr l k = 0 ↔ checkEntry (nth l k) = 0 ∧ findE (l.take k) (nth l k).id < 0 ∧ (cntR (l.take k) (nth l k).id.r : Int) + 1 = (nth l k).id.n ∧ ∀ x ∈ (nth l k).ls, 0 ≤ findE (l.take k) x := by
    intro k
    unfold logErr
    split
    · rename_i h; exact ⟨fun e => (h e).elim, fun e => (h e.1).elim⟩
    · rename_i h0
      have h0' : checkEntry (nth l k) = 0 := by simpa using h0
      split
      · rename_i h; exact ⟨fun e => (by cases e), fun e => by omega⟩
      · rename_i h1
        split
        · rename_i h; exact ⟨fun e => (by cases e), fun e => (h e.2.2.1).elim⟩
        · rename_i h2
          have h2' : (cntR (l.take k) (nth l k).id.r : Int) + 1 = (nth l k).id.n := by simpa using h2
          have hr : readyB (l.take k) (nth l k) = true ↔ ∀ x ∈ (nth l k).ls, 0 ≤ findE (l.take k) x := by
            simp only [readyB, h2', decide_true, Bool.true_and, Bool.not_eq_true', List.any_eq_false, decide_eq_true_eq]
            exact ⟨fun h x hx => by have := h x hx; omega, fun h x hx => by have := h x hx; omega⟩
          rw [← hr]
          split
          · rename_i h; exact ⟨fun e => (by cases e), fun e => by rw [h] at e; simp at e⟩
          · rename_i h; exact ⟨fun _ => ⟨h0', by omega, h2', by simpa using h⟩, fun _ => rfl⟩
  unfold checkLog
  split
  · rename_i h; exact ⟨fun e => (by cases e), fun e => by have := e.len; omega⟩
  · rename_i h
    rw [firstNZ_zero]
    exact ⟨fun e => ⟨by omega, fun k hk => ((key k).1 (e k hk)).1, fun k hk => ((key k).1 (e k hk)).2.1, fun k hk => ((key k).1 (e k hk)).2.2.1, fun k hk => ((key k).1 (e k hk)).2.2.2⟩,
      fun e k hk => (key k).2 ⟨e.chk k hk, e.new k hk, e.num k hk, e.lnk k hk⟩⟩
theorem LogOk.id_ok {l : List Entry} (h : LogOk l) {k : Nat} (hk : k < l.length) : okId (nth l k).id = true := (check_ok_bounds (h.chk k hk)).1
theorem LogOk.link_ok {l : List Entry} (h : LogOk l) {k : Nat} (hk : k < l.length) {x : Id} (hx : x ∈ (nth l k).ls) : okId x = true := by
  obtain ⟨j, h1, h2, h3⟩ := findE_spec (h.lnk k hk x hx)
  rw [List.length_take] at h2
  have : nth (l.take k) j = nth l j := by rw [nth_eq _ _ (by rw [List.length_take]; omega), nth_eq _ _ (by omega), List.getElem_take]
  rw [← h3, this]
  exact h.id_ok (by omega)
theorem LogOk.links {l : List Entry} (h : LogOk l) {k : Nat} (hk : k < l.length) : (nth l k).ls.length ≤ 6 := (check_ok_bounds (h.chk k hk)).2.2.2.1
theorem LogOk.inj {l : List Entry} (h : LogOk l) {i k : Nat} (hi : i < l.length) (hk : k < l.length) (e : (nth l i).id = (nth l k).id) : i = k := by
  have aux : ∀ i k, i < k → k < l.length → (nth l i).id = (nth l k).id → False := fun i k hik hk e => by
    have := findE_neg.1 (h.new k hk) (nth l i) (by rw [List.mem_take_iff_getElem]; exact ⟨i, by omega, by rw [nth_eq _ _ (by omega)]⟩)
    exact this e
  rcases Nat.lt_trichotomy i k with h1 | h1 | h1
  · exact (aux i k h1 hk e).elim
  · exact h1
  · exact (aux k i h1 hi e.symm).elim
theorem LogOk.find {l : List Entry} (h : LogOk l) {k : Nat} (hk : k < l.length) : findE l (nth l k).id = k := by
  have h0 : ¬ findE l (nth l k).id < 0 := fun hn => findE_neg.1 hn (nth l k) (by rw [nth_eq _ _ hk]; exact List.getElem_mem hk) rfl
  obtain ⟨j, h1, h2, h3⟩ := findE_spec (by omega : 0 ≤ findE l (nth l k).id)
  rw [h1, h.inj h2 hk h3]
/-! pasts -/
def pastAt (ps : List (List Id)) (l : List Entry) (x : Id) : List Id := nth ps (findE l x).toNat
def allOf (ps : List (List Id)) (l : List Entry) (ls : List Id) : List Id := ls.flatMap fun x => x :: pastAt ps l x
def pastsTo (l : List Entry) : Nat → List (List Id)
  | 0 => []
  | k + 1 => pastsTo l k ++ [setI (allOf (pastsTo l k) l (nth l k).ls)]
def pasts (l : List Entry) : List (List Id) := pastsTo l l.length
@[simp] theorem pastsTo_length (l : List Entry) : ∀ k, (pastsTo l k).length = k
  | 0 => rfl
  | k + 1 => by simp [pastsTo, pastsTo_length l k]
theorem pastsTo_nth (l : List Entry) {i k : Nat} (h : i < k) : nth (pastsTo l k) i = nth (pastsTo l (i + 1)) i := by
  induction k with
  | zero => omega
  | succ k ih =>
    by_cases e : i = k
    · rw [e]
    · rw [← ih (by omega), nth_eq _ _ (by simp; omega), nth_eq _ _ (by simp; omega)]
      simp only [pastsTo]
      rw [List.getElem_append_left]
end Go.Proofs.Ytkibfciheifphaa
/- A struct that nobody writes any more: its pointer shows its cells, and its object is let go. -/
namespace Go.Proofs.Ytkibfciheifphaa
open Go.RowKit
end Go.Proofs.Ytkibfciheifphaa
/- Pasts: contracts. -/
namespace Go.Proofs.Ytkibfciheifphaa
set_option linter.unusedSimpArgs false
set_option linter.unusedVariables false
open Go.RowKit
end Go.Proofs.Ytkibfciheifphaa
/- Logs, in the law text's words: counting, finding, being right; colors; ids among others: contracts. -/
namespace Go.Proofs.Ytkibfciheifphaa
set_option linter.unusedSimpArgs false
set_option linter.unusedVariables false
open Go.RowKit
end Go.Proofs.Ytkibfciheifphaa
/- Pasts, heads, counts: contracts. -/
namespace Go.Proofs.Ytkibfciheifphaa
set_option linter.unusedSimpArgs false
set_option linter.unusedVariables false
open Go.RowKit
def hasI (l : List Id) (y : Id) : Bool := l.any fun x => decide (y = x)
def bitB (c : Int) (i : Nat) : Bool := decide (c / 2 ^ i % 2 = 1)
def meetB (a b : Int) : Bool := (bitB a 0 && bitB b 0) || (bitB a 1 && bitB b 1) || (bitB a 2 && bitB b 2)
def withC (l : List Entry) (c : Int) : List Entry := l.filter fun e => meetB e.c c
theorem LogOk.col {l : List Entry} (h : LogOk l) {k : Nat} (hk : k < l.length) : wthn (nth l k).c 1 7 = true := (check_ok_bounds (h.chk k hk)).2.1
end Go.Proofs.Ytkibfciheifphaa
/- dag.Past, dag.Heads, dag.Count: contracts. -/
namespace Go.Proofs.Ytkibfciheifphaa
set_option linter.unusedSimpArgs false
set_option linter.unusedVariables false
open Go.RowKit
/-! the same in the law text's words -/
end Go.Proofs.Ytkibfciheifphaa
/- Pasts and heads in the law text's words: contracts. -/
namespace Go.Proofs.Ytkibfciheifphaa
set_option linter.unusedSimpArgs false
set_option linter.unusedVariables false
open Go.RowKit
def markL (l : List Entry) (ls : List Id) (M : List Bool) : List Bool := ls.foldl (fun M x => M.set (findE l x).toNat true) M
def markS (l : List Entry) (a i : Nat) (M : List Bool) : List Bool := if i = a ∨ nth M i = true then markL l (nth l i).ls M else M
def marks (l : List Entry) (a : Nat) : Nat → List Bool
  | 0 => List.replicate l.length false
  | s + 1 => markS l a (a - s) (marks l a s)
end Go.Proofs.Ytkibfciheifphaa
/- Ids that are told, rising: a contract. -/
namespace Go.Proofs.Ytkibfciheifphaa
set_option linter.unusedSimpArgs false
set_option linter.unusedVariables false
open Go.RowKit
end Go.Proofs.Ytkibfciheifphaa
/- Heads in the law text's words: a contract. -/
namespace Go.Proofs.Ytkibfciheifphaa
set_option linter.unusedSimpArgs false
set_option linter.unusedVariables false
open Go.RowKit
end Go.Proofs.Ytkibfciheifphaa
/- Plain laws of pasts and heads: what the marks tell. No program in sight. -/
namespace Go.Proofs.Ytkibfciheifphaa
end Go.Proofs.Ytkibfciheifphaa
/- Players of a log: contracts. -/
namespace Go.Proofs.Ytkibfciheifphaa
set_option linter.unusedSimpArgs false
set_option linter.unusedVariables false
open Go.RowKit
theorem cloneI_meets (l : List Id) (hb : l.length ≤ 1000000000) : Meets Try.prog 77 [.list (l.map cId)] [] (.list (l.map cId)) [] := by
  refine Meets.of_walk Try.func77 Try.ntmps77 low77 res77 (by simp) fun x hx => ?_
  simp only [go_sem, Nat.reduceLT, Nat.reduceAdd, Nat.reduceEqDiff, Nat.reduceLeDiff, Nat.reduceSub, Nat.reduceMul, Int.reduceEq, eq_self, reduceIte, L77, R77]
  refine ops_isnil rfl fun b hb' => ?_
  cases b
  · simp only [go_sem, Nat.reduceLT, Nat.reduceAdd, Nat.reduceEqDiff, Nat.reduceLeDiff, Nat.reduceSub, Nat.reduceMul, Int.reduceEq, eq_self, reduceIte]
    rw [app_arr rfl rfl (by simp [cId]) (by simp; omega)]
    simp only [go_sem, Nat.reduceLT, Nat.reduceAdd, Nat.reduceEqDiff, Nat.reduceLeDiff, Nat.reduceSub, Nat.reduceMul, Int.reduceEq, eq_self, reduceIte]
    refine ret_pure hx ?_
    simp [go_sem, Nat.reduceLT, Nat.reduceAdd, Nat.reduceEqDiff, Nat.reduceLeDiff, Nat.reduceSub, Nat.reduceMul, Int.reduceEq, eq_self, reduceIte, L77, R77, pos, frzAt]
  · simp only [go_sem, Nat.reduceLT, Nat.reduceAdd, Nat.reduceEqDiff, Nat.reduceLeDiff, Nat.reduceSub, Nat.reduceMul, Int.reduceEq, eq_self, reduceIte]
    have : l = [] := by simpa using hb' rfl
    subst this
    refine ret_pure hx ?_
    simp [go_sem, Nat.reduceLT, Nat.reduceAdd, Nat.reduceEqDiff, Nat.reduceLeDiff, Nat.reduceSub, Nat.reduceMul, Int.reduceEq, eq_self, reduceIte, L77, R77]
def blkB (l : List Entry) (out : List Id) (y : Id) (e : Entry) : Bool := hasI (pastAt (pasts l) l y) e.id && !hasI out e.id
def mayB (l : List Entry) (c : Int) (out : List Id) (y : Id) : Bool := !(withC l c).any (blkB l out y)
end Go.Proofs.Ytkibfciheifphaa
/- Plain laws of orders: what comes next, and what comes at all. No program in sight. -/
namespace Go.Proofs.Ytkibfciheifphaa
end Go.Proofs.Ytkibfciheifphaa
/- A loop whose objects change places: what stays is chosen anew in each round. -/
namespace Go.Proofs.Ytkibfciheifphaa
open Go.RowKit
section
variable {P : Program} {x : Cx} {nt : Nat} {st : St}
end
end Go.Proofs.Ytkibfciheifphaa
/- Orders: contracts. -/
namespace Go.Proofs.Ytkibfciheifphaa
set_option linter.unusedSimpArgs false
set_option linter.unusedVariables false
open Go.RowKit
structure SomeOk (l : List Entry) (ids : List Id) : Prop where
  there : ∀ x ∈ ids, 0 ≤ findE l x
  once : ids.Nodup
end Go.Proofs.Ytkibfciheifphaa
/- order.Begun, Is, More, First: contracts. -/
namespace Go.Proofs.Ytkibfciheifphaa
set_option linter.unusedSimpArgs false
set_option linter.unusedVariables false
open Go.RowKit
end Go.Proofs.Ytkibfciheifphaa
/- Orders in the law text's words: contracts. -/
namespace Go.Proofs.Ytkibfciheifphaa
set_option linter.unusedSimpArgs false
set_option linter.unusedVariables false
open Go.RowKit
theorem nthM {α : Type} [Inhabited α] {l : List α} {k : Nat} (h : k < l.length) : nth l k ∈ l := by rw [nth_eq _ _ h]; exact List.getElem_mem h
end Go.Proofs.Ytkibfciheifphaa
/- All that comes, in the law text's words: a contract. -/
namespace Go.Proofs.Ytkibfciheifphaa
set_option linter.unusedSimpArgs false
set_option linter.unusedVariables false
open Go.RowKit
end Go.Proofs.Ytkibfciheifphaa
/- Plain laws of orders: what is begun, and how it goes on. No program in sight. -/
namespace Go.Proofs.Ytkibfciheifphaa
structure Good (l : List Entry) (c : Int) (out : List Id) : Prop where
  once : out.Nodup
  col : ∀ x ∈ out, ∃ k, k < l.length ∧ (nth l k).id = x ∧ meetB (nth l k).c c = true
  may : ∀ x ∈ out, mayB l c out x = true
  ord : ∀ i k, i < k → k < out.length → hasI (pastAt (pasts l) l (nth out i)) (nth out k) = false
theorem Good.there {l : List Entry} (h : LogOk l) {c : Int} {out : List Id} (g : Good l c out) : ∀ x ∈ out, 0 ≤ findE l x := fun x hx => by
  obtain ⟨k, k1, rfl, -⟩ := g.col x hx
  rw [h.find k1]; omega
end Go.Proofs.Ytkibfciheifphaa
/- Plain laws of what a vector has of a log. No program in sight. -/
namespace Go.Proofs.Ytkibfciheifphaa
def vAt (v0 v1 r : Int) : Int := if r = 0 then v0 else v1
def inB (v0 v1 : Int) (x : Id) : Bool := decide (x.n ≤ vAt v0 v1 x.r)
end Go.Proofs.Ytkibfciheifphaa
/- Vectors, readers of a log: contracts. -/
namespace Go.Proofs.Ytkibfciheifphaa
set_option linter.unusedSimpArgs false
set_option linter.unusedVariables false
open Go.RowKit
def vErr (v0 v1 : Int) : Int := if wthn v0 0 20 = true ∧ wthn v1 0 20 = true then 0 else 3
theorem vErr_ok {v0 v1 : Int} : vErr v0 v1 = 0 ↔ wthn v0 0 20 = true ∧ wthn v1 0 20 = true := by
  unfold vErr; split <;> simp_all
theorem vecCheck_meets (v0 v1 : Int) : Meets Try.prog 29 [.agg [.int .i64 v0, .int .i64 v1]] [] (.int .i64 (vErr v0 v1)) [] := by
  refine Meets.of_walk Try.func29 Try.ntmps29 low29 res29 (by simp) fun x hx => ?_
  simp only [go_sem, Nat.reduceLT, Nat.reduceAdd, Nat.reduceEqDiff, Nat.reduceLeDiff, Nat.reduceSub, Nat.reduceMul, Int.reduceEq, eq_self, reduceIte, L29, R29]
  refine loop_inv [5, 6] 0 (fun n st => ∃ k : Int, ((n = 2 ∧ k = 0) ∨ (n = 1 ∧ k = 1 ∧ wthn v0 0 20 = true) ∨ (n = 0 ∧ k = 2 ∧ wthn v0 0 20 = true ∧ wthn v1 0 20 = true)) ∧
    st = ⟨mkE .top [(5, .agg [.int .i64 v0, .int .i64 v1]), (6, .int .i64 k)], []⟩) 2 (by simp [hx]) (by simp) ?_ ?_
  · refine ⟨0, .inl ⟨rfl, rfl⟩, ?_⟩
    simp [trim_mk, go_sem, Nat.reduceLT, Nat.reduceAdd, Nat.reduceEqDiff, Nat.reduceLeDiff, Nat.reduceSub, Nat.reduceMul, Int.reduceEq, eq_self, reduceIte, subHeap, renObj, pos]
  · have wr : ∀ k : Int, 0 ≤ k → k ≤ 5 → IntKind.i64.wrap (k + 1) = k + 1 := fun k h1 h2 => IntWalk.i64_in _ (by omega)
    rintro n st ⟨k, hk, rfl⟩
    rcases hk with ⟨rfl, rfl⟩ | ⟨rfl, rfl, h0⟩ | ⟨rfl, rfl, h0, h1⟩
    · by_cases a : v0 < 0
      · simp only [go_sem, Nat.reduceLT, Nat.reduceAdd, Nat.reduceEqDiff, Nat.reduceLeDiff, Nat.reduceSub, Nat.reduceMul, Int.reduceEq, eq_self, reduceIte, a, Int.reduceLT, Int.reduceLE, Int.reduceToNat, Int.toNat_zero, Int.cast_ofNat_Int, Int.le_refl]
        refine ret_pure hx ?_
        have : vErr v0 v1 = 3 := by unfold vErr; rw [if_neg (by rw [wthn_iff]; omega)]
        simp [go_sem, Nat.reduceLT, Nat.reduceAdd, Nat.reduceEqDiff, Nat.reduceLeDiff, Nat.reduceSub, Nat.reduceMul, Int.reduceEq, eq_self, reduceIte, L29, R29, this]
      · by_cases b : 20 < v0
        · simp only [go_sem, Nat.reduceLT, Nat.reduceAdd, Nat.reduceEqDiff, Nat.reduceLeDiff, Nat.reduceSub, Nat.reduceMul, Int.reduceEq, eq_self, reduceIte, a, b, Int.reduceLT, Int.reduceLE, Int.reduceToNat, Int.toNat_zero, Int.cast_ofNat_Int, Int.le_refl]
          refine ret_pure hx ?_
          have : vErr v0 v1 = 3 := by unfold vErr; rw [if_neg (by rw [wthn_iff]; omega)]
          simp [go_sem, Nat.reduceLT, Nat.reduceAdd, Nat.reduceEqDiff, Nat.reduceLeDiff, Nat.reduceSub, Nat.reduceMul, Int.reduceEq, eq_self, reduceIte, L29, R29, this]
        · have w1 := wr 0 (by omega) (by omega)
          simp only [go_sem, Nat.reduceLT, Nat.reduceAdd, Nat.reduceEqDiff, Nat.reduceLeDiff, Nat.reduceSub, Nat.reduceMul, Int.reduceEq, eq_self, reduceIte, a, b, w1, Int.reduceLT, Int.reduceLE, Int.reduceToNat, Int.toNat_zero, Int.cast_ofNat_Int, Int.le_refl]
          refine ⟨by simp, 1, by omega, 1, .inr (.inl ⟨rfl, rfl, by rw [wthn_iff]; omega⟩), ?_⟩
          simp [trim_mk, go_sem, Nat.reduceLT, Nat.reduceAdd, Nat.reduceEqDiff, Nat.reduceLeDiff, Nat.reduceSub, Nat.reduceMul, Int.reduceEq, eq_self, reduceIte, subHeap, renObj, pos]
    · by_cases a : v1 < 0
      · simp only [go_sem, Nat.reduceLT, Nat.reduceAdd, Nat.reduceEqDiff, Nat.reduceLeDiff, Nat.reduceSub, Nat.reduceMul, Int.reduceEq, eq_self, reduceIte, a, Int.reduceLT, Int.reduceLE, Int.reduceToNat, Int.toNat_one, Int.cast_ofNat_Int, Int.le_refl]
        refine ret_pure hx ?_
        have : vErr v0 v1 = 3 := by unfold vErr; rw [if_neg (by rw [wthn_iff, wthn_iff]; omega)]
        simp [go_sem, Nat.reduceLT, Nat.reduceAdd, Nat.reduceEqDiff, Nat.reduceLeDiff, Nat.reduceSub, Nat.reduceMul, Int.reduceEq, eq_self, reduceIte, L29, R29, this]
      · by_cases b : 20 < v1
        · simp only [go_sem, Nat.reduceLT, Nat.reduceAdd, Nat.reduceEqDiff, Nat.reduceLeDiff, Nat.reduceSub, Nat.reduceMul, Int.reduceEq, eq_self, reduceIte, a, b, Int.reduceLT, Int.reduceLE, Int.reduceToNat, Int.toNat_one, Int.cast_ofNat_Int, Int.le_refl]
          refine ret_pure hx ?_
          have : vErr v0 v1 = 3 := by unfold vErr; rw [if_neg (by rw [wthn_iff, wthn_iff]; omega)]
          simp [go_sem, Nat.reduceLT, Nat.reduceAdd, Nat.reduceEqDiff, Nat.reduceLeDiff, Nat.reduceSub, Nat.reduceMul, Int.reduceEq, eq_self, reduceIte, L29, R29, this]
        · have w1 := wr 1 (by omega) (by omega)
          simp only [go_sem, Nat.reduceLT, Nat.reduceAdd, Nat.reduceEqDiff, Nat.reduceLeDiff, Nat.reduceSub, Nat.reduceMul, Int.reduceEq, eq_self, reduceIte, a, b, w1, Int.reduceLT, Int.reduceLE, Int.reduceToNat, Int.toNat_one, Int.cast_ofNat_Int, Int.le_refl]
          refine ⟨by simp, 0, by omega, 2, .inr (.inr ⟨rfl, rfl, h0, by rw [wthn_iff]; omega⟩), ?_⟩
          simp [trim_mk, go_sem, Nat.reduceLT, Nat.reduceAdd, Nat.reduceEqDiff, Nat.reduceLeDiff, Nat.reduceSub, Nat.reduceMul, Int.reduceEq, eq_self, reduceIte, subHeap, renObj, pos]
    · simp only [go_sem, Nat.reduceLT, Nat.reduceAdd, Nat.reduceEqDiff, Nat.reduceLeDiff, Nat.reduceSub, Nat.reduceMul, Int.reduceEq, eq_self, reduceIte, Int.reduceLT]
      refine ret_pure hx ?_
      simp [go_sem, Nat.reduceLT, Nat.reduceAdd, Nat.reduceEqDiff, Nat.reduceLeDiff, Nat.reduceSub, Nat.reduceMul, Int.reduceEq, eq_self, reduceIte, L29, R29, vErr_ok.2 ⟨h0, h1⟩]
theorem holds_meets (v0 v1 : Int) (y : Id) (hr : y.r = 0 ∨ y.r = 1) : Meets Try.prog 55 [.agg [.int .i64 v0, .int .i64 v1], .agg (cId y)] [] (.bool (inB v0 v1 y)) [] := by
  refine Meets.of_walk Try.func55 Try.ntmps55 low55 res55 (by simp) fun x hx => ?_
  rcases hr with hr | hr
  all_goals
    simp only [go_sem, Nat.reduceLT, Nat.reduceAdd, Nat.reduceEqDiff, Nat.reduceLeDiff, Nat.reduceSub, Nat.reduceMul, Int.reduceEq, eq_self, reduceIte, L55, R55, cId, hr, Int.reduceLT, Int.reduceLE, Int.reduceToNat, Int.toNat_zero, Int.toNat_one, Int.cast_ofNat_Int, Int.le_refl]
    refine ret_pure hx ?_
    simp [go_sem, Nat.reduceLT, Nat.reduceAdd, Nat.reduceEqDiff, Nat.reduceLeDiff, Nat.reduceSub, Nat.reduceMul, Int.reduceEq, eq_self, reduceIte, L55, R55, inB, vAt, hr]
/-! method values asked by a function -/
end Go.Proofs.Ytkibfciheifphaa
/- slices.Delete of one element of k cells: in memory, and as a contract. -/
namespace Go.Proofs.Ytkibfciheifphaa
open Go.RowKit Go.Lib Go.Sort
open Go.Shelf
end Go.Proofs.Ytkibfciheifphaa
/- slices.Insert of one element of k cells: in memory. -/
namespace Go.Proofs.Ytkibfciheifphaa
open Go.RowKit Go.Lib Go.Sort
open Go.Shelf
end Go.Proofs.Ytkibfciheifphaa
/- slices.Insert of one element of k cells where there is no room: in memory. -/
namespace Go.Proofs.Ytkibfciheifphaa
open Go.RowKit Go.Lib Go.Sort
open Go.Shelf
end Go.Proofs.Ytkibfciheifphaa
/- slices.Insert of one element of k cells, as a contract. -/
namespace Go.Proofs.Ytkibfciheifphaa
open Go.RowKit Go.Lib Go.Sort
open Go.Shelf
end Go.Proofs.Ytkibfciheifphaa
/- Sites: copies of one's own, those that wait and are ready: contracts. -/
namespace Go.Proofs.Ytkibfciheifphaa
set_option linter.unusedSimpArgs false
set_option linter.unusedVariables false
open Go.RowKit
def fitE (l : List Entry) : Prop := ∀ e ∈ l, (e.id.r = 0 ∨ e.id.r = 1) ∧ e.ls.length ≤ 1000000
theorem entOwn_meets (e : Entry) (hb : e.ls.length ≤ 1000000) : Meets Try.prog 56 [.agg (cE e)] [] (.agg (cE e)) [] := by
  refine Meets.of_walk Try.func56 Try.ntmps56 low56 res56 (by simp) fun x hx => ?_
  simp only [go_sem, Nat.reduceLT, Nat.reduceAdd, Nat.reduceEqDiff, Nat.reduceLeDiff, Nat.reduceSub, Nat.reduceMul, Int.reduceEq, eq_self, reduceIte, L56, R56, cE]
  refine ops_call (.pureE (cloneI_meets e.ls (by omega)) (by simp [go_sem, Nat.reduceLT, Nat.reduceAdd, Nat.reduceEqDiff, Nat.reduceLeDiff, Nat.reduceSub, Nat.reduceMul, Int.reduceEq, eq_self, reduceIte])) ?_
  simp only [go_sem, Nat.reduceLT, Nat.reduceAdd, Nat.reduceEqDiff, Nat.reduceLeDiff, Nat.reduceSub, Nat.reduceMul, Int.reduceEq, eq_self, reduceIte, cE]
  refine ret_pure hx ?_
  simp [go_sem, Nat.reduceLT, Nat.reduceAdd, Nat.reduceEqDiff, Nat.reduceLeDiff, Nat.reduceSub, Nat.reduceMul, Int.reduceEq, eq_self, reduceIte, L56, R56, cE]
theorem end_keep {x : Cx} {nt : Nat} {lrs : List LRes} {r : PV} {Hs' : List AObj} {st : St} (keep : List Nat) (hnd : keep.Nodup) (hlt : ∀ k ∈ keep, x.H0.length ≤ k ∧ k < st.heap.length) (hle : x.H0.length ≤ st.heap.length)
    (h : (evalRes st lrs).map (fun ps => renT true (pos (List.range x.H0.length ++ keep)) (frzAt true st.heap) (tupOf ps)) = some r)
    (h2 : subHeap (pos (List.range x.H0.length ++ keep)) (frzAt true st.heap) st.heap (List.range x.H0.length ++ keep) = Hs') : retQ x nt lrs r Hs' .normal st := by
  obtain ⟨ps, g1, g2⟩ := Option.map_eq_some_iff.1 h
  exact ⟨st, keep, Weak.refl _ _ _, ps, g1, hnd, hlt, hle, g2.symm, h2.symm⟩
end Go.Proofs.Ytkibfciheifphaa
/- Sites: New, Check: contracts. -/
namespace Go.Proofs.Ytkibfciheifphaa
set_option linter.unusedSimpArgs false
set_option linter.unusedVariables false
open Go.RowKit
def siBad (r : Int) (lg ws : List Entry) (k : Nat) : Bool := (decide (0 < k) && !lessB (nth ws (k - 1)).id (nth ws k).id) || decide ((nth ws k).id.r = r) || decide (0 ≤ findE lg (nth ws k).id) || readyB lg (nth ws k)
def siWait (r : Int) (lg ws : List Entry) (k : Nat) : Int := if checkEntry (nth ws k) ≠ 0 then checkEntry (nth ws k) else if siBad r lg ws k = true then 4 else 0
def siErr (r : Int) (lg ws : List Entry) : Int := if ¬ (r = 0 ∨ r = 1) then 3 else if checkLog lg ≠ 0 then checkLog lg else if 20 < ws.length then 2 else firstNZ (siWait r lg ws) ws.length
theorem check_fit {e : Entry} (h : checkEntry e = 0) : (e.id.r = 0 ∨ e.id.r = 1) ∧ e.ls.length ≤ 1000000 := by
  have := (check_ok_bounds h).2.2.2.1
  exact ⟨reg_of_check h, by omega⟩
theorem log_fit {lg : List Entry} (h : LogOk lg) : fitE lg := fun e he => by
  obtain ⟨k, hk, rfl⟩ := List.getElem_of_mem he
  rw [← nth_eq _ _ hk]
  exact check_fit (h.chk k hk)
end Go.Proofs.Ytkibfciheifphaa
/- Sites: Append: contracts. -/
namespace Go.Proofs.Ytkibfciheifphaa
set_option linter.unusedSimpArgs false
set_option linter.unusedVariables false
open Go.RowKit
end Go.Proofs.Ytkibfciheifphaa
/- Sites: Receive: contracts. -/
namespace Go.Proofs.Ytkibfciheifphaa
set_option linter.unusedSimpArgs false
set_option linter.unusedVariables false
open Go.RowKit
def upE (ws : List Entry) : Prop := ∀ i j, i < j → j < ws.length → lessB (nth ws i).id (nth ws j).id = true
end Go.Proofs.Ytkibfciheifphaa
/- Sites, in the law text's words: IsReady, CheckSite, Settled: contracts. -/
namespace Go.Proofs.Ytkibfciheifphaa
set_option linter.unusedSimpArgs false
set_option linter.unusedVariables false
open Go.RowKit
end Go.Proofs.Ytkibfciheifphaa
/- Sites, in the law text's words: AppendOf, ReceiveOf, SameLog and SameSite at one thing twice, siteIs: contracts. -/
namespace Go.Proofs.Ytkibfciheifphaa
set_option linter.unusedSimpArgs false
set_option linter.unusedVariables false
open Go.RowKit
theorem sameLog_meets (l : List Entry) (hl : l.length ≤ 9223372036854775806) : Meets Try.prog 18 [.list (l.map cE), .list (l.map cE)] [] (.bool true) [] := by
  refine Meets.of_walk Try.func18 Try.ntmps18 low18 res18 (by simp) fun x hx => ?_
  simp only [go_sem, Nat.reduceLT, Nat.reduceAdd, Nat.reduceEqDiff, Nat.reduceLeDiff, Nat.reduceSub, Nat.reduceMul, Int.reduceEq, eq_self, reduceIte, L18, R18]
  refine loop_inv [0, 1, 5] 0 (fun n st => ∃ k : Nat, k + n = l.length ∧
    st = ⟨mkE .top [(0, .list (l.map cE)), (1, .list (l.map cE)), (5, .int .i64 k)], []⟩) l.length (by simp [hx]) (by simp) ?_ ?_
  · refine ⟨0, by omega, ?_⟩
    simp [trim_mk, go_sem, Nat.reduceLT, Nat.reduceAdd, Nat.reduceEqDiff, Nat.reduceLeDiff, Nat.reduceSub, Nat.reduceMul, Int.reduceEq, eq_self, reduceIte, subHeap, renObj, pos]
  · rintro n st ⟨k, hk, rfl⟩
    by_cases hlt : k < l.length
    · have hg : l[k]? = some (nth l k) := nth_get? _ _ hlt
      have wk := i64_up (k := k) (by omega)
      have hs : sameE (nth l k) (nth l k) = true := by simp [sameE]
      simp only [go_sem, Nat.reduceLT, Nat.reduceAdd, Nat.reduceEqDiff, Nat.reduceLeDiff, Nat.reduceSub, Nat.reduceMul, Int.reduceEq, eq_self, reduceIte, hlt, hg, cE]
      refine ops_call (.pureE (sameEntry_meets (nth l k) (nth l k)) (by simp [go_sem, Nat.reduceLT, Nat.reduceAdd, Nat.reduceEqDiff, Nat.reduceLeDiff, Nat.reduceSub, Nat.reduceMul, Int.reduceEq, eq_self, reduceIte, cE])) ?_
      rw [hs]
      simp only [go_sem, Nat.reduceLT, Nat.reduceAdd, Nat.reduceEqDiff, Nat.reduceLeDiff, Nat.reduceSub, Nat.reduceMul, Int.reduceEq, eq_self, reduceIte, wk]
      repeat refine ⟨rfl, ?_⟩
      refine ⟨by simp, n - 1, by omega, k + 1, by omega, ?_⟩
      simp [trim_mk, go_sem, Nat.reduceLT, Nat.reduceAdd, Nat.reduceEqDiff, Nat.reduceLeDiff, Nat.reduceSub, Nat.reduceMul, Int.reduceEq, eq_self, reduceIte, subHeap, renObj, pos]
    · simp only [go_sem, Nat.reduceLT, Nat.reduceAdd, Nat.reduceEqDiff, Nat.reduceLeDiff, Nat.reduceSub, Nat.reduceMul, Int.reduceEq, eq_self, reduceIte, hlt]
      refine ret_pure hx ?_
      simp [go_sem, Nat.reduceLT, Nat.reduceAdd, Nat.reduceEqDiff, Nat.reduceLeDiff, Nat.reduceSub, Nat.reduceMul, Int.reduceEq, eq_self, reduceIte, L18, R18]
end Go.Proofs.Ytkibfciheifphaa
/- Sites, in the law text's words: ReceiveOf: a contract. -/
namespace Go.Proofs.Ytkibfciheifphaa
set_option linter.unusedSimpArgs false
set_option linter.unusedVariables false
open Go.RowKit
theorem takeE_succ {l : List Entry} {k : Nat} (h : k < l.length) : l.take (k + 1) = l.take k ++ [nth l k] := by rw [List.take_succ_eq_append_getElem h, nth_eq _ _ h]
end Go.Proofs.Ytkibfciheifphaa
/- Bytes of entries: what is written is read as it was, and what is read is written as it was. No program in sight. -/
namespace Go.Proofs.Ytkibfciheifphaa
open Go.RowKit
theorem bytV_toNat {n : Int} (h0 : 0 ≤ n) (h1 : n < 256) : ((byt n).toNat : Int) = n := by
  have e : n % 256 = n := Int.emod_eq_of_lt h0 h1
  simp only [byt, e, UInt8.toNat_ofNat']
  omega
theorem bytV_nat (a : UInt8) : byt (a.toNat : Int) = a := by
  have := a.toNat_lt
  have e : ((a.toNat : Int) % 256).toNat = a.toNat := by omega
  simp [byt, e]
theorem bytV_small {n : Int} (h0 : 0 ≤ n) (h1 : n ≤ 1) : ¬ 1 < byt n := by
  rw [UInt8.lt_iff_toNat_lt]
  have := bytV_toNat h0 (show n < 256 by omega)
  have e : (1 : UInt8).toNat = 1 := rfl
  omega
theorem okId_bounds {x : Id} (h : okId x = true) : 0 ≤ x.r ∧ x.r ≤ 1 ∧ 1 ≤ x.n ∧ x.n ≤ 20 := by
  simp only [okId, Bool.and_eq_true, wthn_iff] at h
  omega
theorem rdId_idL {x : Id} (h : okId x = true) (r : List UInt8) : rdId (idL x ++ r) = .ok (x, r) := by
  obtain ⟨h1, h2, h3, h4⟩ := okId_bounds h
  simp only [idL, List.cons_append, List.nil_append, rdId, bytV_small h1 h2, if_false, bytV_toNat h1 (show x.r < 256 by omega), bytV_toNat (show 0 ≤ x.n by omega) (show x.n < 256 by omega)]
theorem rdIds_flat : ∀ {l : List Id}, (∀ x ∈ l, okId x = true) → ∀ r, rdIds l.length (l.flatMap idL ++ r) = .ok (l, r)
  | [], _, r => rfl
  | x :: l, h, r => by
    simp only [List.flatMap_cons, List.length_cons, rdIds, List.append_assoc]
    have ih := rdIds_flat (l := l) (fun y hy => h y (by simp [hy])) r
    simp only [rdId_idL (h x (by simp)), ih]
theorem link_ok {e : Id} {ls : List Id} (h : firstNZ (linkErr e ls) ls.length = 0) : ∀ x ∈ ls, okId x = true := by
  intro x hx
  obtain ⟨k, hk, rfl⟩ := List.getElem_of_mem hx
  have := firstNZ_zero.1 h k hk
  rw [← nth_eq ls k hk]
  cases h5 : okId (nth ls k) with
  | true => rfl
  | false => simp [linkErr, h5] at this
theorem rdEntry_enc {e : Entry} (h : checkEntry e = 0) (s : List UInt8) : rdEntry (encL e ++ s) = .ok (e, s) := by
  obtain ⟨h1, h2, h3, h4, h5⟩ := check_ok_bounds h
  obtain ⟨b1, b2, b3, b4⟩ := okId_bounds h1
  rw [wthn_iff] at h2
  have e1 : encL e ++ s = idL e.id ++ (byt e.c :: byt e.ls.length :: (e.ls.flatMap idL ++ (byt e.t.size :: (e.t.data.toList ++ s)))) := by simp [encL, headL, idL]
  rw [e1, rdEntry, rdId_idL h1]
  have e2 : (byt e.ls.length).toNat = e.ls.length := by have := bytV_toNat (show (0 : Int) ≤ (e.ls.length : Int) by omega) (by omega); omega
  have e3 : (byt e.t.size).toNat = e.t.size := by have := bytV_toNat (show (0 : Int) ≤ (e.t.size : Int) by omega) (by omega); omega
  have e4 : e.t.size = e.t.data.toList.length := by show e.t.data.size = _; simp
  simp only [e2, rdIds_flat (link_ok h5), rdTail, e3, bytV_toNat (show 0 ≤ e.c by omega) (show e.c < 256 by omega)]
  rw [if_neg (by rw [e4]; simp), e4, List.take_left, List.drop_left, BA_data]
theorem encL_len (e : Entry) : (encL e).length = 5 + 2 * e.ls.length + e.t.size := by
  have : encL e = preL e e.ls.length ++ (byt e.t.size :: e.t.data.toList) := by simp [encL, preL]
  rw [this, List.length_append, preL_len e _ (Nat.le_refl _)]
  have e4 : e.t.size = e.t.data.toList.length := by show e.t.data.size = _; simp
  rw [List.length_cons, ← e4]; omega
theorem decOut_enc {e : Entry} (h : checkEntry e = 0) (s : List UInt8) : decOut (encL e ++ s) = (e, ((encL e).length : Int), 0) := by
  simp only [decOut, toldOut, rdEntry_enc h, h, if_true, List.length_append]
  simp
theorem rdId_inv {t : List UInt8} {x : Id} {r : List UInt8} (h : rdId t = .ok (x, r)) : t = idL x ++ r := by
  match t, h with
  | [], h => cases h
  | [a], h => simp only [rdId] at h; split at h <;> cases h
  | a :: b :: t, h =>
    simp only [rdId] at h
    split at h
    · cases h
    · cases h; simp [idL, bytV_nat]
theorem rdIds_inv : ∀ {n : Nat} {t : List UInt8} {l : List Id} {r : List UInt8}, rdIds n t = .ok (l, r) → t = l.flatMap idL ++ r ∧ l.length = n
  | 0, t, l, r, h => by cases h; simp
  | n + 1, t, l, r, h => by
    rw [rdIds] at h
    cases h1 : rdId t with
    | error c => rw [h1] at h; cases h
    | ok v =>
      obtain ⟨x, t1⟩ := v
      rw [h1] at h
      simp only at h
      cases h2 : rdIds n t1 with
      | error c => rw [h2] at h; cases h
      | ok u =>
        obtain ⟨l1, t2⟩ := u
        rw [h2] at h
        cases h
        obtain ⟨g1, g2⟩ := rdIds_inv h2
        rw [rdId_inv h1, g1]
        simp [g2]
theorem rdEntry_inv {t : List UInt8} {x : Entry} {r : List UInt8} (h : rdEntry t = .ok (x, r)) : t = encL x ++ r := by
  unfold rdEntry at h
  split at h
  · cases h
  · cases h
  · cases h
  · rename_i y c n u hx
    unfold rdTail at h
    split at h
    · cases h
    · cases h
    · rename_i l m t1 hl
      split at h
      · cases h
      · rename_i hlt
        cases h
        obtain ⟨g1, g2⟩ := rdIds_inv hl
        have e1 : byt ((l.length : Nat) : Int) = n := by rw [g2, bytV_nat]
        have e2 : byt (((BA (t1.take m.toNat)).size : Nat) : Int) = m := by
          rw [BA_size, List.length_take, Nat.min_eq_left (by omega), bytV_nat]
        have e3 : (BA (t1.take m.toNat)).data.toList = t1.take m.toNat := by simp [BA]
        rw [rdId_inv hx, g1]
        simp only [encL, headL, e1, e2, e3, bytV_nat, idL]
        simp
theorem decOut_back {t : List UInt8} (h : (decOut t).2.2 = 0) : checkEntry (decOut t).1 = 0 ∧ ∃ n : Nat, (decOut t).2.1 = n ∧ n ≤ t.length ∧ encL (decOut t).1 = t.take n := by
  unfold decOut at *
  split at h
  · rename_i hz
    rw [if_pos hz]
    simp only
    unfold toldOut at *
    cases hr : rdEntry t with
    | error c =>
      rw [hr] at hz
      simp only at hz
      subst hz
      exfalso
      revert hr
      unfold rdEntry
      split
      · rename_i d hd
        intro e; cases e
        revert hd; unfold rdId
        split
        · simp
        · split
          · simp
          · split <;> simp
      · simp
      · simp
      · rename_i x0 c0 n0 u0 _
        unfold rdTail
        split
        · rename_i d hd
          intro e; cases e
          have key : ∀ (n : Nat) (u : List UInt8), rdIds n u ≠ .error 0 := by
            intro n
            induction n with
            | zero => intro u hu; cases hu
            | succ n ih =>
              intro u hu
              rw [rdIds] at hu
              cases h1 : rdId u with
              | error c =>
                rw [h1] at hu
                cases hu
                revert h1; unfold rdId
                split
                · simp
                · split
                  · simp
                  · split <;> simp
              | ok v =>
                obtain ⟨x, t1⟩ := v
                rw [h1] at hu
                simp only at hu
                cases h2 : rdIds n t1 with
                | error c => rw [h2] at hu; cases hu; exact ih _ h2
                | ok w => rw [h2] at hu; cases hu
          exact key _ _ hd
        · simp
        · split <;> simp
    | ok v =>
      obtain ⟨x, r⟩ := v
      rw [hr] at hz
      simp only at hz ⊢
      have e := rdEntry_inv hr
      refine ⟨hz, (encL x).length, ?_, ?_, ?_⟩
      · rw [e]; simp
      · rw [e]; simp
      · rw [e]; simp
  · rename_i hz; exact (hz h).elim
end Go.Proofs.Ytkibfciheifphaa
/- Packets: Encode, CheckEntries, PacketBytes, PacketOf, logIs: contracts. -/
namespace Go.Proofs.Ytkibfciheifphaa
set_option linter.unusedSimpArgs false
set_option linter.unusedVariables false
open Go.RowKit
def pkErr (l : List Entry) : Int := if 40 < l.length then 2 else firstNZ (fun k => checkEntry (nth l k)) l.length
def pkB (l : List Entry) : List UInt8 := l.flatMap encL
theorem pkB_take {l : List Entry} {k : Nat} (h : k < l.length) : pkB (l.take (k + 1)) = pkB (l.take k) ++ encL (nth l k) := by
  rw [takeE_succ h]; simp [pkB]
theorem encL_le {e : Entry} (h : checkEntry e = 0) : (encL e).length ≤ 29 := by
  rw [encL_len]
  have := check_ok_bounds h
  omega
theorem pkB_len (l : List Entry) (h : ∀ e ∈ l, checkEntry e = 0) : (pkB l).length ≤ 29 * l.length := by
  induction l with
  | nil => simp [pkB]
  | cons e l ih =>
    have h1 := encL_le (h e List.mem_cons_self)
    have h2 := ih fun x hx => h x (List.mem_cons_of_mem _ hx)
    simp only [pkB, List.flatMap_cons, List.length_append, List.length_cons] at h2 ⊢
    omega
theorem pk_chk {l : List Entry} {k : Nat} (hk : k ≤ l.length) (hz : firstNZ (fun k => checkEntry (nth l k)) k = 0) : ∀ e ∈ l.take k, checkEntry e = 0 := fun e he => by
  rw [List.mem_take_iff_getElem] at he
  obtain ⟨j, hj, rfl⟩ := he
  have := firstNZ_zero.1 hz j (by omega)
  rwa [nth_eq _ _ (by omega)] at this
theorem entBytes_meets (e : Entry) (ht : e.t.size ≤ 12) (h6 : e.ls.length ≤ 6) : Meets Try.prog 27 [.agg (cE e)] [] (.str (BA (encL e))) [] := by
  intro x vs hx hr hp
  obtain ⟨hlen, hp0⟩ := hp
  obtain ⟨v, rfl, hv⟩ : ∃ v, vs = #[v] ∧ RepV (Stab x x.C0 [] x.w0) x.w0 x.C0 (.agg (cE e)) v := by
    cases vs with
    | mk l =>
      match l, hlen with
      | [v], _ => exact ⟨v, rfl, hp0 0 _ v rfl rfl⟩
  obtain ⟨us, rfl, h1, -, h2⟩ := hv.agg_inv
  match us, h1 with
  | [a, b, c, d, lv], _ =>
    have ea := (h2 0 _ a rfl rfl).int_inv
    have eb := (h2 1 _ b rfl rfl).int_inv
    have ec := (h2 2 _ c rfl rfl).int_inv
    have ed := (h2 3 _ d rfl rfl).str_inv
    subst ea; subst eb; subst ec; subst ed
    have hl := rep_ids (fun b o h => h.2.1) (h2 4 _ lv rfl rfl).list_inv
    refine (bytes_calls _ e lv x.w0 hl ht h6).mono fun en w' ⟨he, hb⟩ => ?_
    subst he
    have hstep : Step x.w0 w' fun _ => False := ⟨hb.size, hb.os, hb.tape, hb.output, fun b h _ => hb.block b h⟩
    obtain ⟨k1, -, -⟩ := hr.grow hstep
    exact ⟨_, x.C0, rfl, k1, .pure (.str _)⟩
set_option maxHeartbeats 1000000 in
theorem pkEncode_meets (l : List Entry) (hl : l.length ≤ 1000000000000000) : Meets Try.prog 7 [.list (l.map cE)] [] (.tup [.str (BA (if pkErr l = 0 then pkB l else [])), .int .i64 (pkErr l)]) [] := by
  refine Meets.of_walk Try.func7 Try.ntmps7 low7 res7 (by simp) fun x hx => ?_
  by_cases h40 : (40 : Int) < (l.length : Int)
  · have e : pkErr l = 2 := by rw [pkErr, if_pos (by omega)]
    simp only [go_sem, Nat.reduceLT, Nat.reduceAdd, Nat.reduceEqDiff, Nat.reduceLeDiff, Nat.reduceSub, Nat.reduceMul, Int.reduceEq, eq_self, reduceIte, L7, R7, h40]
    refine ret_pure hx ?_
    simp [go_sem, Nat.reduceLT, Nat.reduceAdd, Nat.reduceEqDiff, Nat.reduceLeDiff, Nat.reduceSub, Nat.reduceMul, Int.reduceEq, eq_self, reduceIte, L7, R7, e, BA]
  · have e : pkErr l = firstNZ (fun k => checkEntry (nth l k)) l.length := by rw [pkErr, if_neg (by omega)]
    simp only [go_sem, Nat.reduceLT, Nat.reduceAdd, Nat.reduceEqDiff, Nat.reduceLeDiff, Nat.reduceSub, Nat.reduceMul, Int.reduceEq, eq_self, reduceIte, L7, R7, h40]
    refine loop_inv [4, 11, 12, 13] 0 (fun m st => ∃ k : Nat, k + m = l.length ∧ firstNZ (fun k => checkEntry (nth l k)) k = 0 ∧
      st = ⟨mkE .top [(4, .str (BA (pkB (l.take k)))), (11, .list (l.map cE)), (12, .int .i64 l.length), (13, .int .i64 k)], []⟩) l.length (by simp [hx]) (by simp) ?_ ?_
    · refine ⟨0, by omega, rfl, ?_⟩
      simp [trim_mk, go_sem, Nat.reduceLT, Nat.reduceAdd, Nat.reduceEqDiff, Nat.reduceLeDiff, Nat.reduceSub, Nat.reduceMul, Int.reduceEq, eq_self, reduceIte, subHeap, renObj, pos, List.range_succ, pkB, BA]
    · rintro m st ⟨k, hk, hz, rfl⟩
      by_cases hlt : k < l.length
      · have hg : l[k]? = some (nth l k) := nth_get? _ _ hlt
        have wk := i64_up (k := k) (by omega)
        simp only [go_sem, Nat.reduceLT, Nat.reduceAdd, Nat.reduceEqDiff, Nat.reduceLeDiff, Nat.reduceSub, Nat.reduceMul, Int.reduceEq, eq_self, reduceIte, hlt, hg, cE]
        refine ops_call (.pureE (check_meets (nth l k)) (by simp [go_sem, Nat.reduceLT, Nat.reduceAdd, Nat.reduceEqDiff, Nat.reduceLeDiff, Nat.reduceSub, Nat.reduceMul, Int.reduceEq, eq_self, reduceIte, cE])) ?_
        by_cases h1 : checkEntry (nth l k) = 0
        · have hb := check_ok_bounds h1
          have hp := pkB_len _ (pk_chk (by omega) hz)
          have hle := encL_le h1
          have htl : (l.take k).length = k := by rw [List.length_take]; omega
          rw [htl] at hp
          have hsz : ((pkB (l.take k)).length + (encL (nth l k)).length ≤ 4611686018427387904) = True := eq_true (by omega)
          simp only [go_sem, Nat.reduceLT, Nat.reduceAdd, Nat.reduceEqDiff, Nat.reduceLeDiff, Nat.reduceSub, Nat.reduceMul, Int.reduceEq, eq_self, reduceIte, h1, cE]
          refine ops_call (.pureE (entBytes_meets (nth l k) (by omega) (by omega)) (by simp [go_sem, Nat.reduceLT, Nat.reduceAdd, Nat.reduceEqDiff, Nat.reduceLeDiff, Nat.reduceSub, Nat.reduceMul, Int.reduceEq, eq_self, reduceIte, cE])) ?_
          simp only [go_sem, Nat.reduceLT, Nat.reduceAdd, Nat.reduceEqDiff, Nat.reduceLeDiff, Nat.reduceSub, Nat.reduceMul, Int.reduceEq, eq_self, reduceIte, BA_app, BA_size, hsz, wk]
          refine ⟨by simp, m - 1, by omega, k + 1, by omega, firstNZ_succ hz h1, ?_⟩
          simp [trim_mk, go_sem, Nat.reduceLT, Nat.reduceAdd, Nat.reduceEqDiff, Nat.reduceLeDiff, Nat.reduceSub, Nat.reduceMul, Int.reduceEq, eq_self, reduceIte, subHeap, renObj, pos, List.range_succ, pkB_take hlt]
        · have e2 : pkErr l = checkEntry (nth l k) := by rw [e, firstNZ_hit hz h1 hlt]
          simp only [go_sem, Nat.reduceLT, Nat.reduceAdd, Nat.reduceEqDiff, Nat.reduceLeDiff, Nat.reduceSub, Nat.reduceMul, Int.reduceEq, eq_self, reduceIte, h1]
          refine ret_pure hx ?_
          simp [go_sem, Nat.reduceLT, Nat.reduceAdd, Nat.reduceEqDiff, Nat.reduceLeDiff, Nat.reduceSub, Nat.reduceMul, Int.reduceEq, eq_self, reduceIte, L7, R7, e2, h1, BA]
      · obtain rfl : k = l.length := by omega
        simp only [go_sem, Nat.reduceLT, Nat.reduceAdd, Nat.reduceEqDiff, Nat.reduceLeDiff, Nat.reduceSub, Nat.reduceMul, Int.reduceEq, eq_self, reduceIte, hlt]
        refine ret_pure hx ?_
        simp [go_sem, Nat.reduceLT, Nat.reduceAdd, Nat.reduceEqDiff, Nat.reduceLeDiff, Nat.reduceSub, Nat.reduceMul, Int.reduceEq, eq_self, reduceIte, L7, R7, e, hz]
end Go.Proofs.Ytkibfciheifphaa
/- Packets: PacketOf, Missing, MissingOf: contracts. -/
namespace Go.Proofs.Ytkibfciheifphaa
set_option linter.unusedSimpArgs false
set_option linter.unusedVariables false
open Go.RowKit
def misL (l : List Entry) (v0 v1 : Int) : List Entry := l.filter fun e => !inB v0 v1 e.id
theorem misL_take {l : List Entry} {v0 v1 : Int} {k : Nat} (h : k < l.length) : misL (l.take (k + 1)) v0 v1 = misL (l.take k) v0 v1 ++ if inB v0 v1 (nth l k).id then [] else [nth l k] := by
  rw [takeE_succ h, misL, List.filter_append]
  cases hb : inB v0 v1 (nth l k).id <;> simp [misL, hb]
theorem misL_len (l : List Entry) (v0 v1 : Int) : (misL l v0 v1).length ≤ l.length := List.length_filter_le _ _
def hM (v0 v1 : Int) (v : Nat) (es : List Entry) : List AObj := [.box [.int .i64 v0, .int .i64 v1], .box [.arr 2 v], .arr v true false 44 5 (es.map cE)]
theorem restF_meets (v0 v1 : Int) (v : Nat) (es : List Entry) (e : Entry) (hr : e.id.r = 0 ∨ e.id.r = 1) (hls : e.ls.length ≤ 1000000) (hl : es.length ≤ 1000000) :
    Meets Try.prog 54 [.agg (cE e), .ptr 0 0, .ptr 1 0] (hM v0 v1 v es) (.tup []) (hM v0 v1 (if inB v0 v1 e.id then v else v + 1) (es ++ if inB v0 v1 e.id then [] else [e])) := by
  refine Meets.of_walk Try.func54 Try.ntmps54 low54 res54 (by simp) fun x hx => ?_
  simp only [go_sem, Nat.reduceLT, Nat.reduceAdd, Nat.reduceEqDiff, Nat.reduceLeDiff, Nat.reduceSub, Nat.reduceMul, Int.reduceEq, eq_self, reduceIte, L54, R54, hM, cE]
  refine ops_call (.pureE (holds_meets v0 v1 e.id hr) (by simp [go_sem, Nat.reduceLT, Nat.reduceAdd, Nat.reduceEqDiff, Nat.reduceLeDiff, Nat.reduceSub, Nat.reduceMul, Int.reduceEq, eq_self, reduceIte, cId])) ?_
  cases hb : inB v0 v1 e.id
  · simp only [go_sem, Nat.reduceLT, Nat.reduceAdd, Nat.reduceEqDiff, Nat.reduceLeDiff, Nat.reduceSub, Nat.reduceMul, Int.reduceEq, eq_self, reduceIte, cE]
    refine ops_call (.pureE (entOwn_meets e hls) (by simp [go_sem, Nat.reduceLT, Nat.reduceAdd, Nat.reduceEqDiff, Nat.reduceLeDiff, Nat.reduceSub, Nat.reduceMul, Int.reduceEq, eq_self, reduceIte, cE])) ?_
    simp only [go_sem, Nat.reduceLT, Nat.reduceAdd, Nat.reduceEqDiff, Nat.reduceLeDiff, Nat.reduceSub, Nat.reduceMul, Int.reduceEq, eq_self, reduceIte, cE]
    rw [app_arr rfl rfl (by simp) (by simp; omega)]
    simp only [go_sem, Nat.reduceLT, Nat.reduceAdd, Nat.reduceEqDiff, Nat.reduceLeDiff, Nat.reduceSub, Nat.reduceMul, Int.reduceEq, eq_self, reduceIte]
    repeat refine ⟨rfl, ?_⟩
    try simp only [go_sem, Nat.reduceLT, Nat.reduceAdd, Nat.reduceEqDiff, Nat.reduceLeDiff, Nat.reduceSub, Nat.reduceMul, Int.reduceEq, eq_self, reduceIte]
    refine end_keep [] (by simp) (by simp) (by simp [hx, hM]) ?_ ?_
    · simp [go_sem, Nat.reduceLT, Nat.reduceAdd, Nat.reduceEqDiff, Nat.reduceLeDiff, Nat.reduceSub, Nat.reduceMul, Int.reduceEq, eq_self, reduceIte, L54, R54, hx, pos, hM]
    · simp [subHeap, renObj, renCell, renLeaf, hx, pos, go_sem, Nat.reduceLT, Nat.reduceAdd, Nat.reduceEqDiff, Nat.reduceLeDiff, Nat.reduceSub, Nat.reduceMul, Int.reduceEq, eq_self, reduceIte, hM, List.range_succ, cE]
  · simp only [go_sem, Nat.reduceLT, Nat.reduceAdd, Nat.reduceEqDiff, Nat.reduceLeDiff, Nat.reduceSub, Nat.reduceMul, Int.reduceEq, eq_self, reduceIte]
    refine end_keep [] (by simp) (by simp) (by simp [hx, hM]) ?_ ?_
    · simp [go_sem, Nat.reduceLT, Nat.reduceAdd, Nat.reduceEqDiff, Nat.reduceLeDiff, Nat.reduceSub, Nat.reduceMul, Int.reduceEq, eq_self, reduceIte, L54, R54, hx, pos, hM]
    · simp [subHeap, renObj, renCell, renLeaf, hx, pos, go_sem, Nat.reduceLT, Nat.reduceAdd, Nat.reduceEqDiff, Nat.reduceLeDiff, Nat.reduceSub, Nat.reduceMul, Int.reduceEq, eq_self, reduceIte, hM, List.range_succ]
set_option maxHeartbeats 1000000 in
theorem rest_meets (l : List Entry) (v0 v1 : Int) (hl : l.length ≤ 1000000) (h : fitE l) : Meets Try.prog 30 [.list (l.map cE), .agg [.int .i64 v0, .int .i64 v1]] [] (.list ((misL l v0 v1).map cE)) [] := by
  refine Meets.of_walk Try.func30 Try.ntmps30 low30 res30 (by simp) fun x hx => ?_
  simp only [go_sem, Nat.reduceLT, Nat.reduceAdd, Nat.reduceEqDiff, Nat.reduceLeDiff, Nat.reduceSub, Nat.reduceMul, Int.reduceEq, eq_self, reduceIte, L30, R30]
  refine W_weak (weak_ownc 1 0 0 44 5 true false rfl rfl (by omega)) ?_
  refine loop_inv [5, 6, 10, 11, 12] 3 (fun m st => ∃ k v : Nat, k + m = l.length ∧
    st = ⟨mkE .top [(5, .ptr 1 0), (6, .clo 54 [.ptr 0 0, .ptr 1 0]), (10, .list (l.map cE)), (11, .int .i64 l.length), (12, .int .i64 k)], hM v0 v1 v (misL (l.take k) v0 v1)⟩) l.length (by simp [hx]) (by simp) ?_ ?_
  · refine ⟨0, 0, by omega, ?_⟩
    simp [trim_mk, go_sem, Nat.reduceLT, Nat.reduceAdd, Nat.reduceEqDiff, Nat.reduceLeDiff, Nat.reduceSub, Nat.reduceMul, Int.reduceEq, eq_self, reduceIte, subHeap, renObj, renCell, renLeaf, pos, List.range_succ, misL, hM, renT, ren]
  · rintro m st ⟨k, v, hk, rfl⟩
    by_cases hlt : k < l.length
    · have hg : l[k]? = some (nth l k) := nth_get? _ _ hlt
      have wk := i64_up (k := k) (by omega)
      have hs := misL_take (v0 := v0) (v1 := v1) hlt
      have hle := misL_len (l.take k) v0 v1
      have htl : (l.take k).length ≤ k := by rw [List.length_take]; omega
      have hf := h _ (nthM hlt)
      have hcall := restF_meets v0 v1 v (misL (l.take k) v0 v1) (nth l k) hf.1 hf.2 (by omega)
      rw [show misL (l.take k) v0 v1 ++ (if inB v0 v1 (nth l k).id then [] else [nth l k]) = misL (l.take (k + 1)) v0 v1 from hs.symm] at hcall
      generalize (if inB v0 v1 (nth l k).id then v else v + 1) = v' at hcall
      simp only [go_sem, Nat.reduceLT, Nat.reduceAdd, Nat.reduceEqDiff, Nat.reduceLeDiff, Nat.reduceSub, Nat.reduceMul, Int.reduceEq, eq_self, reduceIte, hlt, hg, cE, hM]
      refine ops_callv rfl (by kernel_rfl) (.heapE [0, 1, 2] (r' := .tup []) (H' := hM v0 v1 v' (misL (l.take (k + 1)) v0 v1) ++ [.box (cE (nth l k))]) hcall (by simp) (by simp) (by simp [go_sem, Nat.reduceLT, Nat.reduceAdd, Nat.reduceEqDiff, Nat.reduceLeDiff, Nat.reduceSub, Nat.reduceMul, Int.reduceEq, eq_self, reduceIte, pos, cE]) ?_ ?_ ?_) ?_
      · simp [subHeap, renObj, renCell, renLeaf, pos, hM]
      · simp [renT, ren]
      · simp [merge, mergeObj, callId, backF, backId, renObj, renCell, renLeaf, pos, List.range_succ, hM, cE]
      simp only [go_sem, Nat.reduceLT, Nat.reduceAdd, Nat.reduceEqDiff, Nat.reduceLeDiff, Nat.reduceSub, Nat.reduceMul, Int.reduceEq, eq_self, reduceIte, hM, wk, List.cons_append, List.nil_append]
      refine ⟨by simp, m - 1, by omega, k + 1, v', by omega, ?_⟩
      simp [trim_mk, go_sem, Nat.reduceLT, Nat.reduceAdd, Nat.reduceEqDiff, Nat.reduceLeDiff, Nat.reduceSub, Nat.reduceMul, Int.reduceEq, eq_self, reduceIte, subHeap, renObj, renCell, renLeaf, pos, List.range_succ, hM, renT, ren]
    · have htk : l.take k = l := List.take_of_length_le (by omega)
      rw [htk]
      simp only [go_sem, Nat.reduceLT, Nat.reduceAdd, Nat.reduceEqDiff, Nat.reduceLeDiff, Nat.reduceSub, Nat.reduceMul, Int.reduceEq, eq_self, reduceIte, hlt, hM]
      refine ret_weak (weak_shut 2 rfl) ?_
      refine ret_pure hx ?_
      simp [go_sem, Nat.reduceLT, Nat.reduceAdd, Nat.reduceEqDiff, Nat.reduceLeDiff, Nat.reduceSub, Nat.reduceMul, Int.reduceEq, eq_self, reduceIte, L30, R30, frzAt, pos]
def misErr (l : List Entry) (v0 v1 : Int) : Int := if checkLog l = 0 then vErr v0 v1 else checkLog l
theorem missing_meets (l : List Entry) (v0 v1 : Int) (hl : l.length ≤ 1000000000000000) : Meets Try.prog 9 [.list (l.map cE), .agg [.int .i64 v0, .int .i64 v1]] [] (.tup [.list ((if misErr l v0 v1 = 0 then misL l v0 v1 else []).map cE), .int .i64 (misErr l v0 v1)]) [] := by
  refine Meets.of_walk Try.func9 Try.ntmps9 low9 res9 (by simp) fun x hx => ?_
  simp only [go_sem, Nat.reduceLT, Nat.reduceAdd, Nat.reduceEqDiff, Nat.reduceLeDiff, Nat.reduceSub, Nat.reduceMul, Int.reduceEq, eq_self, reduceIte, L9, R9]
  refine ops_call (.pureE (dagCheck_meets l (by omega)) (by simp [go_sem, Nat.reduceLT, Nat.reduceAdd, Nat.reduceEqDiff, Nat.reduceLeDiff, Nat.reduceSub, Nat.reduceMul, Int.reduceEq, eq_self, reduceIte])) ?_
  by_cases h1 : checkLog l = 0
  · have hok := log_ok.1 h1
    have hlen := hok.len
    simp only [go_sem, Nat.reduceLT, Nat.reduceAdd, Nat.reduceEqDiff, Nat.reduceLeDiff, Nat.reduceSub, Nat.reduceMul, Int.reduceEq, eq_self, reduceIte, h1]
    refine ops_call (.pureE (vecCheck_meets v0 v1) (by simp [go_sem, Nat.reduceLT, Nat.reduceAdd, Nat.reduceEqDiff, Nat.reduceLeDiff, Nat.reduceSub, Nat.reduceMul, Int.reduceEq, eq_self, reduceIte])) ?_
    have e : misErr l v0 v1 = vErr v0 v1 := by rw [misErr, if_pos h1]
    by_cases h2 : vErr v0 v1 = 0
    · simp only [go_sem, Nat.reduceLT, Nat.reduceAdd, Nat.reduceEqDiff, Nat.reduceLeDiff, Nat.reduceSub, Nat.reduceMul, Int.reduceEq, eq_self, reduceIte, h2]
      refine ops_call (.pureE (rest_meets l v0 v1 (by omega) (log_fit hok)) (by simp [go_sem, Nat.reduceLT, Nat.reduceAdd, Nat.reduceEqDiff, Nat.reduceLeDiff, Nat.reduceSub, Nat.reduceMul, Int.reduceEq, eq_self, reduceIte])) ?_
      simp only [go_sem, Nat.reduceLT, Nat.reduceAdd, Nat.reduceEqDiff, Nat.reduceLeDiff, Nat.reduceSub, Nat.reduceMul, Int.reduceEq, eq_self, reduceIte]
      refine ret_pure hx ?_
      simp [go_sem, Nat.reduceLT, Nat.reduceAdd, Nat.reduceEqDiff, Nat.reduceLeDiff, Nat.reduceSub, Nat.reduceMul, Int.reduceEq, eq_self, reduceIte, L9, R9, e, h2]
    · simp only [go_sem, Nat.reduceLT, Nat.reduceAdd, Nat.reduceEqDiff, Nat.reduceLeDiff, Nat.reduceSub, Nat.reduceMul, Int.reduceEq, eq_self, reduceIte, h2]
      refine ret_pure hx ?_
      simp [go_sem, Nat.reduceLT, Nat.reduceAdd, Nat.reduceEqDiff, Nat.reduceLeDiff, Nat.reduceSub, Nat.reduceMul, Int.reduceEq, eq_self, reduceIte, L9, R9, e, h2]
  · have e : misErr l v0 v1 = checkLog l := by rw [misErr, if_neg h1]
    simp only [go_sem, Nat.reduceLT, Nat.reduceAdd, Nat.reduceEqDiff, Nat.reduceLeDiff, Nat.reduceSub, Nat.reduceMul, Int.reduceEq, eq_self, reduceIte, h1]
    refine ret_pure hx ?_
    simp [go_sem, Nat.reduceLT, Nat.reduceAdd, Nat.reduceEqDiff, Nat.reduceLeDiff, Nat.reduceSub, Nat.reduceMul, Int.reduceEq, eq_self, reduceIte, L9, R9, e, h1]
end Go.Proofs.Ytkibfciheifphaa
/- What must be in any case of logs; DagTells, as a contract. -/
namespace Go.Proofs.Ytkibfciheifphaa
set_option linter.unusedSimpArgs false
set_option linter.unusedVariables false
open Go.RowKit
end Go.Proofs.Ytkibfciheifphaa
/- DagPast, DagHeads, as contracts. -/
namespace Go.Proofs.Ytkibfciheifphaa
set_option linter.unusedSimpArgs false
set_option linter.unusedVariables false
open Go.RowKit
end Go.Proofs.Ytkibfciheifphaa
/- DagParts, as a contract. -/
namespace Go.Proofs.Ytkibfciheifphaa
set_option linter.unusedSimpArgs false
set_option linter.unusedVariables false
open Go.RowKit
theorem nth_take {α : Type} [Inhabited α] {l : List α} {n i : Nat} (hi : i < n) (hn : n ≤ l.length) : nth (l.take n) i = nth l i := by
  rw [nth_eq _ _ (by rw [List.length_take]; omega), nth_eq _ _ (by omega), List.getElem_take]
theorem LogOk.take {l : List Entry} (h : LogOk l) {n : Nat} (hn : n ≤ l.length) : LogOk (l.take n) where
  len := by rw [List.length_take]; have := h.len; omega
  chk := fun k hk => by
    rw [List.length_take] at hk
    rw [nth_take (by omega) hn]; exact h.chk k (by omega)
  new := fun k hk => by
    rw [List.length_take] at hk
    rw [nth_take (by omega) hn, List.take_take, Nat.min_eq_left (by omega)]; exact h.new k (by omega)
  num := fun k hk => by
    rw [List.length_take] at hk
    rw [nth_take (by omega) hn, List.take_take, Nat.min_eq_left (by omega)]; exact h.num k (by omega)
  lnk := fun k hk => by
    rw [List.length_take] at hk
    rw [nth_take (by omega) hn, List.take_take, Nat.min_eq_left (by omega)]; exact h.lnk k (by omega)
end Go.Proofs.Ytkibfciheifphaa
/- Sites: what is appended and what settles leaves a right log (plain). -/
namespace Go.Proofs.Ytkibfciheifphaa
open Go.RowKit
end Go.Proofs.Ytkibfciheifphaa
/- Sites: what comes, what is appended and what settles leaves a right site (plain). -/
namespace Go.Proofs.Ytkibfciheifphaa
open Go.RowKit
structure WaitOk (q : Int) (lg ws : List Entry) : Prop where
  up : upE ws
  chk : ∀ e ∈ ws, checkEntry e = 0
  other : ∀ e ∈ ws, e.id.r ≠ q
  new : ∀ e ∈ ws, findE lg e.id < 0
theorem memE {ws : List Entry} {e : Entry} : e ∈ ws ↔ ∃ k, k < ws.length ∧ nth ws k = e := by
  constructor
  · intro h
    obtain ⟨k, hk, rfl⟩ := List.getElem_of_mem h
    exact ⟨k, hk, nth_eq _ _ hk⟩
  · rintro ⟨k, hk, rfl⟩
    exact nthM hk
theorem upE_iff {ws : List Entry} : upE ws ↔ ws.Pairwise fun a b => lessB a.id b.id = true := by
  rw [List.pairwise_iff_getElem]
  constructor
  · intro h i j hi hj hij
    have := h i j hij hj
    rwa [nth_eq _ _ hi, nth_eq _ _ hj] at this
  · intro h i j hij hj
    have := h i j (by omega) hj hij
    rwa [← nth_eq, ← nth_eq] at this
end Go.Proofs.Ytkibfciheifphaa
/- Sites: in whatever order two come, the same is left (plain). -/
namespace Go.Proofs.Ytkibfciheifphaa
open Go.RowKit
def EId (W : List Entry) : Prop := W.Pairwise fun a b => a.id ≠ b.id
theorem EId.inj {W : List Entry} (h : EId W) {a b : Entry} (ha : a ∈ W) (hb : b ∈ W) (e : a.id = b.id) : a = b := by
  obtain ⟨i, hi, rfl⟩ := List.getElem_of_mem ha
  obtain ⟨j, hj, rfl⟩ := List.getElem_of_mem hb
  have h2 := List.pairwise_iff_getElem.1 h
  rcases Nat.lt_trichotomy i j with q | q | q
  · exact (h2 i j hi hj q e).elim
  · subst q; rfl
  · exact (h2 j i hj hi q e.symm).elim
theorem EId.perm {W V : List Entry} (h : EId W) (hp : V.Perm W) : EId V := (hp.pairwise_iff fun {a b} q r => q r.symm).2 h
structure Settles (lg W A WA u : List Entry) : Prop where
  eq : A = lg ++ u
  perm : (u ++ WA).Perm W
  rdy : ∀ i, i < u.length → readyB (lg ++ u.take i) (nth u i) = true
end Go.Proofs.Ytkibfciheifphaa
/- Sites: two that come, one way or the other (plain). -/
namespace Go.Proofs.Ytkibfciheifphaa
open Go.RowKit
def there (lg ws : List Entry) (y : Id) : Prop := ∃ x, (x ∈ lg ∨ x ∈ ws) ∧ x.id = y
theorem WaitOk.len {q : Int} {lg ws : List Entry} (hq : q = 0 ∨ q = 1) (h : WaitOk q lg ws) : ws.length ≤ 20 := by
  have hb : ∀ e ∈ ws, (e.id.r = 0 ∨ e.id.r = 1) ∧ 1 ≤ e.id.n ∧ e.id.n < 21 := fun e he => by
    have := (check_ok_bounds (h.chk e he)).1
    simp only [okId, Bool.and_eq_true, wthn_iff] at this
    omega
  have hp : (ws.map fun e => e.id.n).Pairwise (· < ·) := by
    rw [List.pairwise_map, List.pairwise_iff_getElem]
    intro i j hi hj hij
    have h1 := (List.pairwise_iff_getElem.1 (upE_iff.1 h.up)) i j hi hj hij
    have m1 := List.getElem_mem hi
    have m2 := List.getElem_mem hj
    have b1 := hb _ m1
    have b2 := hb _ m2
    have o1 := h.other _ m1
    have o2 := h.other _ m2
    simp only [lessB, decide_eq_true_eq] at h1
    omega
  have := rise_len _ 1 21 hp (fun x hx => by
    obtain ⟨e, he, rfl⟩ := List.mem_map.1 hx
    have := hb e he
    omega) (by omega)
  rw [List.length_map] at this
  omega
end Go.Proofs.Ytkibfciheifphaa
/- Worlds: what is right, what an act does (plain). -/
namespace Go.Proofs.Ytkibfciheifphaa
open Go.RowKit
structure Wo where
  p : List Entry
  u : List Entry
  q : List Entry
  v : List Entry
  a : List Entry
  b : List Entry
def Wo.log (w : Wo) (i : Int) : List Entry := if i = 0 then w.p else w.q
abbrev Si := Int × List Entry × List Entry
def Born (w : Wo) (e : Entry) : Prop := e ∈ w.log e.id.r
structure WoOk (w : Wo) : Prop where
  s0 : siErr 0 w.p w.u = 0
  s1 : siErr 1 w.q w.v = 0
  la : w.a.length ≤ 30
  lb : w.b.length ≤ 30
  ca : ∀ e ∈ w.a, checkEntry e = 0
  cb : ∀ e ∈ w.b, checkEntry e = 0
  ba : ∀ e ∈ w.a, Born w e
  bb : ∀ e ∈ w.b, Born w e
  bp : ∀ e ∈ w.p, Born w e
  bu : ∀ e ∈ w.u, Born w e
  bq : ∀ e ∈ w.q, Born w e
  bv : ∀ e ∈ w.v, Born w e
end Go.Proofs.Ytkibfciheifphaa
/- Worlds: what comes to a site (plain). -/
namespace Go.Proofs.Ytkibfciheifphaa
open Go.RowKit
end Go.Proofs.Ytkibfciheifphaa
/- What must be in any case of packets; PacketTells, PacketBack: contracts. -/
namespace Go.Proofs.Ytkibfciheifphaa
set_option linter.unusedSimpArgs false
set_option linter.unusedVariables false
open Go.RowKit
theorem encL_ne (e : Entry) (s : List UInt8) : encL e ++ s ≠ [] := by
  have := encL_len e
  intro h
  have h2 := congrArg List.length h
  simp at h2
  rw [h2.1] at this
  simp at this
  omega
theorem pkOut_enc : ∀ (l : List Entry) (s : List UInt8) (es : List Entry), (∀ e ∈ l, checkEntry e = 0) → es.length + l.length ≤ 40 → pkOut (pkB l ++ s).length (pkB l ++ s) es = pkOut s.length s (es ++ l)
  | [], s, es, _, _ => by simp [pkB]
  | e :: l, s, es, h, hl => by
    have he := h e List.mem_cons_self
    have e1 : pkB (e :: l) ++ s = encL e ++ (pkB l ++ s) := by simp [pkB]
    have hd := decOut_enc he (pkB l ++ s)
    rw [e1, pkOut_step (m := (encL e).length) (encL_ne e _) (by rw [hd]) (by simp only [List.length_cons] at hl; omega) (by rw [hd]), hd, List.drop_left]
    rw [pkOut_enc l s (es ++ [e]) (fun x hx => h x (List.mem_cons_of_mem _ hx)) (by simp only [List.length_append, List.length_cons, List.length_nil] at hl ⊢; omega), List.append_assoc]
    rfl
theorem pkOut_back : ∀ (k : Nat) (s : List UInt8) (es m : List Entry), s.length ≤ k → es.length ≤ 40 → pkOut s.length s es = (m, 0) → ∃ u, m = es ++ u ∧ (∀ e ∈ u, checkEntry e = 0) ∧ pkB u = s ∧ m.length ≤ 40
  | k, [], es, m, _, hl, h => by
    have h : (es, (0 : Int)) = (m, 0) := h
    cases h
    exact ⟨[], by simp, (fun e he => by cases he), rfl, hl⟩
  | 0, a :: s, es, m, hk, _, _ => by simp at hk
  | k + 1, a :: s, es, m, hk, hl, h => by
    by_cases h1 : (decOut (a :: s)).2.2 = 0
    · by_cases h2 : es.length = 40
      · rw [pkOut_many (by simp) h1 h2] at h; cases h
      · obtain ⟨hc, n, hn, hle, henc⟩ := decOut_back h1
        obtain ⟨n', hn', npos, -⟩ := dec_adv h1
        have : n' = n := by rw [hn'] at hn; exact Int.ofNat.inj hn
        subst this
        rw [pkOut_step (by simp) h1 h2 hn] at h
        obtain ⟨u, e1, e2, e3, e4⟩ := pkOut_back k _ _ _ (by rw [List.length_drop]; simp only [List.length_cons] at hk ⊢; omega) (by simp; omega) h
        refine ⟨(decOut (a :: s)).1 :: u, by rw [e1]; simp, fun e he => ?_, ?_, e4⟩
        · rcases List.mem_cons.1 he with rfl | he
          · exact hc
          · exact e2 e he
        · have : pkB ((decOut (a :: s)).1 :: u) = encL (decOut (a :: s)).1 ++ pkB u := by simp [pkB]
          rw [this, e3, henc, List.take_append_drop]
    · rw [pkOut_bad (by simp) h1] at h; cases h
theorem pkErr_ok {l : List Entry} : pkErr l = 0 ↔ l.length ≤ 40 ∧ ∀ e ∈ l, checkEntry e = 0 := by
  unfold pkErr
  by_cases h : 40 < l.length
  · rw [if_pos h]; constructor
    · intro h; cases h
    · rintro ⟨h1, -⟩; omega
  · rw [if_neg h, firstNZ_zero]
    constructor
    · intro h2
      refine ⟨by omega, fun e he => ?_⟩
      obtain ⟨k, hk, rfl⟩ := memE.1 he
      exact h2 k hk
    · rintro ⟨-, h2⟩ k hk
      exact h2 _ (nthM hk)
theorem pk_there {l : List Entry} (h : pkErr l = 0) : pkOut (pkB l).length (pkB l) [] = (l, 0) := by
  obtain ⟨h1, h2⟩ := pkErr_ok.1 h
  have := pkOut_enc l [] [] h2 (by simpa using h1)
  simpa [pkOut] using this
theorem pk_again {s : List UInt8} (h : (pkOut s.length s []).2 = 0) : pkErr (pkOut s.length s []).1 = 0 ∧ pkB (pkOut s.length s []).1 = s := by
  obtain ⟨u, e1, e2, e3, e4⟩ := pkOut_back s.length s [] _ (Nat.le_refl _) (by simp) (Prod.ext rfl h : pkOut s.length s [] = ((pkOut s.length s []).1, 0))
  rw [List.nil_append] at e1
  rw [e1] at e4 ⊢
  exact ⟨pkErr_ok.2 ⟨e4, e2⟩, e3⟩
theorem pkOut_cases (s : List UInt8) : ∀ (k : Nat) (r : List UInt8) (es : List Entry), r.length ≤ k → (pkOut r.length r es).2 ≠ 0 → (pkOut r.length r es).1 = []
  | k, [], es, _, h => (h rfl).elim
  | 0, a :: r, es, hk, _ => by simp at hk
  | k + 1, a :: r, es, hk, h => by
    by_cases h1 : (decOut (a :: r)).2.2 = 0
    · by_cases h2 : es.length = 40
      · rw [pkOut_many (by simp) h1 h2]
      · obtain ⟨n, hn, npos, -⟩ := dec_adv h1
        rw [pkOut_step (by simp) h1 h2 hn] at h ⊢
        exact pkOut_cases s k _ _ (by rw [List.length_drop]; simp only [List.length_cons] at hk ⊢; omega) h
    · rw [pkOut_bad (by simp) h1]
theorem pkOut_len : ∀ (k : Nat) (r : List UInt8) (es : List Entry), r.length ≤ k → es.length ≤ 40 → (pkOut r.length r es).1.length ≤ 40
  | k, [], es, _, h => h
  | 0, a :: r, es, hk, _ => by simp at hk
  | k + 1, a :: r, es, hk, h => by
    by_cases h1 : (decOut (a :: r)).2.2 = 0
    · by_cases h2 : es.length = 40
      · rw [pkOut_many (by simp) h1 h2]; simp
      · obtain ⟨n, hn, npos, -⟩ := dec_adv h1
        rw [pkOut_step (by simp) h1 h2 hn]
        exact pkOut_len k _ _ (by rw [List.length_drop]; simp only [List.length_cons] at hk ⊢; omega) (by simp; omega)
    · rw [pkOut_bad (by simp) h1]; simp
def pbL : List Entry := [e0, e1, e2, e3]
theorem pb_err : pkErr pbL = 0 := by decide +kernel
theorem pb_len : (pkB pbL).length = 53 := by decide +kernel
theorem pb_zero : pkOut (pkB pbL ++ [0]).length (pkB pbL ++ [0]) [] = ([], 1) := by
  obtain ⟨h1, h2⟩ := pkErr_ok.1 pb_err
  rw [pkOut_enc pbL [0] [] h2 (by simpa using h1)]
  exact pkOut_bad (by simp) (by decide +kernel)
theorem pb_mis : misErr pbL 1 2 = 0 := by decide +kernel
theorem pb_misL : misL pbL 1 2 = [e2] := by decide +kernel
set_option maxRecDepth 10000 in
set_option maxHeartbeats 2000000 in
theorem packetBegun_meets : Meets Try.prog 16 [] [] (.bool true) [] := by
  have hent : Meets Try.prog 37 [] [] (.list (pbL.map cE)) [] := entries_meets
  have henc := pkEncode_meets pbL (by decide)
  rw [pb_err, if_pos rfl] at henc
  have hdec := packetDecode_meets (pkB pbL) (by rw [pb_len]; decide)
  rw [pk_there pb_err] at hdec
  have hdec2 := packetDecode_meets (pkB pbL ++ [0]) (by rw [List.length_append, pb_len]; decide)
  rw [pb_zero] at hdec2
  have hmis := missing_meets pbL 1 2 (by decide)
  rw [pb_mis, if_pos rfl, pb_misL] at hmis
  have hz : ((pkB pbL).length + 1 ≤ 4611686018427387904) = True := eq_true (by rw [pb_len]; decide)
  have hb0 : (⟨#[0]⟩ : ByteArray) = BA [0] := rfl
  have hsl : ((pbL.map cE).drop 2).take 1 = [e2].map cE := rfl
  have hl4 : pbL.length = 4 := rfl
  have hrow : (∀ row ∈ List.map cE pbL, row.length = 5) = True := eq_true (cE_row pbL)
  have hsame := sameLog_meets pbL (by decide)
  have hsame2 := sameLog_meets [e2] (by decide)
  generalize pkB pbL = s at *
  refine Meets.of_walk Try.func16 Try.ntmps16 low16 res16 (by simp) fun x hx => ?_
  simp only [go_sem, Nat.reduceLT, Nat.reduceAdd, Nat.reduceEqDiff, Nat.reduceLeDiff, Nat.reduceSub, Nat.reduceMul, Int.reduceEq, eq_self, reduceIte, L16, R16]
  refine ops_call (.pure hent) ?_
  simp only [go_sem, Nat.reduceLT, Nat.reduceAdd, Nat.reduceEqDiff, Nat.reduceLeDiff, Nat.reduceSub, Nat.reduceMul, Int.reduceEq, eq_self, reduceIte]
  refine ops_call (.pureE henc (by simp [go_sem, Nat.reduceLT, Nat.reduceAdd, Nat.reduceEqDiff, Nat.reduceLeDiff, Nat.reduceSub, Nat.reduceMul, Int.reduceEq, eq_self, reduceIte])) ?_
  simp only [go_sem, Nat.reduceLT, Nat.reduceAdd, Nat.reduceEqDiff, Nat.reduceLeDiff, Nat.reduceSub, Nat.reduceMul, Int.reduceEq, eq_self, reduceIte]
  refine ops_call (.pureE hdec (by simp [go_sem, Nat.reduceLT, Nat.reduceAdd, Nat.reduceEqDiff, Nat.reduceLeDiff, Nat.reduceSub, Nat.reduceMul, Int.reduceEq, eq_self, reduceIte])) ?_
  simp only [go_sem, Nat.reduceLT, Nat.reduceAdd, Nat.reduceEqDiff, Nat.reduceLeDiff, Nat.reduceSub, Nat.reduceMul, Int.reduceEq, eq_self, reduceIte, hb0, BA_app, BA_size, List.length_cons, List.length_nil, hz]
  refine ops_call (.pureE hdec2 (by simp [go_sem, Nat.reduceLT, Nat.reduceAdd, Nat.reduceEqDiff, Nat.reduceLeDiff, Nat.reduceSub, Nat.reduceMul, Int.reduceEq, eq_self, reduceIte])) ?_
  simp only [go_sem, Nat.reduceLT, Nat.reduceAdd, Nat.reduceEqDiff, Nat.reduceLeDiff, Nat.reduceSub, Nat.reduceMul, Int.reduceEq, eq_self, reduceIte]
  refine ops_call (.pure hent) ?_
  simp only [go_sem, Nat.reduceLT, Nat.reduceAdd, Nat.reduceEqDiff, Nat.reduceLeDiff, Nat.reduceSub, Nat.reduceMul, Int.reduceEq, eq_self, reduceIte]
  refine ops_call (.pureE hmis (by simp [go_sem, Nat.reduceLT, Nat.reduceAdd, Nat.reduceEqDiff, Nat.reduceLeDiff, Nat.reduceSub, Nat.reduceMul, Int.reduceEq, eq_self, reduceIte])) ?_
  simp only [go_sem, Nat.reduceLT, Nat.reduceAdd, Nat.reduceEqDiff, Nat.reduceLeDiff, Nat.reduceSub, Nat.reduceMul, Int.reduceEq, eq_self, reduceIte]
  refine ops_call (.pure hent) ?_
  simp only [go_sem, Nat.reduceLT, Nat.reduceAdd, Nat.reduceEqDiff, Nat.reduceLeDiff, Nat.reduceSub, Nat.reduceMul, Int.reduceEq, eq_self, reduceIte]
  refine ops_call (.pureE hsame (by simp [go_sem, Nat.reduceLT, Nat.reduceAdd, Nat.reduceEqDiff, Nat.reduceLeDiff, Nat.reduceSub, Nat.reduceMul, Int.reduceEq, eq_self, reduceIte])) ?_
  simp only [go_sem, Nat.reduceLT, Nat.reduceAdd, Nat.reduceEqDiff, Nat.reduceLeDiff, Nat.reduceSub, Nat.reduceMul, Int.reduceEq, eq_self, reduceIte]
  refine ops_call (.pure hent) ?_
  simp only [go_sem, Nat.reduceLT, Nat.reduceAdd, Nat.reduceEqDiff, Nat.reduceLeDiff, Nat.reduceSub, Nat.reduceMul, Int.reduceEq, eq_self, reduceIte, Int.ofNat_zero, Int.natCast_one, Int.cast_ofNat_Int, Int.reduceLT, Int.reduceLE, Int.reduceToNat, Nat.reduceLT, Int.toNat_zero, Int.natCast_zero, Int.le_refl, Int.lt_irrefl, Int.reduceAdd, frz, false_or, or_true, List.length_map, hl4, hrow, Int.reduceSub, hsl]
  refine ops_call (.pureE hsame2 (by simp [go_sem, Nat.reduceLT, Nat.reduceAdd, Nat.reduceEqDiff, Nat.reduceLeDiff, Nat.reduceSub, Nat.reduceMul, Int.reduceEq, eq_self, reduceIte])) ?_
  simp only [go_sem, Nat.reduceLT, Nat.reduceAdd, Nat.reduceEqDiff, Nat.reduceLeDiff, Nat.reduceSub, Nat.reduceMul, Int.reduceEq, eq_self, reduceIte]
  refine ret_pure hx ?_
  simp [go_sem, Nat.reduceLT, Nat.reduceAdd, Nat.reduceEqDiff, Nat.reduceLeDiff, Nat.reduceSub, Nat.reduceMul, Int.reduceEq, eq_self, reduceIte, L16, R16]
set_option maxHeartbeats 2000000 in
theorem packetBack_meets (l : List Entry) (s : List UInt8) (hl : l.length ≤ 1000000000000000) (hs : s.length ≤ maxLen) : Meets Try.prog 4 [.list (l.map cE), .str (BA s)] [] (.bool true) [] := by
  have henc := pkEncode_meets l hl
  have hdec := packetDecode_meets s hs
  have hcs := pkOut_cases s s.length s [] (Nat.le_refl _)
  have hlen := pkOut_len s.length s [] (Nat.le_refl _) (by simp)
  have hag := pk_again (s := s)
  have henc2 := pkEncode_meets (pkOut s.length s []).1 (by omega)
  generalize (pkOut s.length s []).1 = m at *
  generalize (pkOut s.length s []).2 = c at *
  refine Meets.of_walk Try.func4 Try.ntmps4 low4 res4 (by simp) fun x hx => ?_
  simp only [go_sem, Nat.reduceLT, Nat.reduceAdd, Nat.reduceEqDiff, Nat.reduceLeDiff, Nat.reduceSub, Nat.reduceMul, Int.reduceEq, eq_self, reduceIte, L4, R4]
  refine ops_call (.pure packetBegun_meets) ?_
  simp only [go_sem, Nat.reduceLT, Nat.reduceAdd, Nat.reduceEqDiff, Nat.reduceLeDiff, Nat.reduceSub, Nat.reduceMul, Int.reduceEq, eq_self, reduceIte]
  refine ops_call (.pureE henc (by simp [go_sem, Nat.reduceLT, Nat.reduceAdd, Nat.reduceEqDiff, Nat.reduceLeDiff, Nat.reduceSub, Nat.reduceMul, Int.reduceEq, eq_self, reduceIte])) ?_
  by_cases h0 : pkErr l = 0
  · obtain ⟨h1, h2⟩ := pkErr_ok.1 h0
    have hb := pkB_len l h2
    have hdec0 := packetDecode_meets (pkB l) (by simp [maxLen]; omega)
    rw [pk_there h0] at hdec0
    simp only [go_sem, Nat.reduceLT, Nat.reduceAdd, Nat.reduceEqDiff, Nat.reduceLeDiff, Nat.reduceSub, Nat.reduceMul, Int.reduceEq, eq_self, reduceIte, h0]
    refine ops_call (.pureE hdec0 (by simp [go_sem, Nat.reduceLT, Nat.reduceAdd, Nat.reduceEqDiff, Nat.reduceLeDiff, Nat.reduceSub, Nat.reduceMul, Int.reduceEq, eq_self, reduceIte])) ?_
    simp only [go_sem, Nat.reduceLT, Nat.reduceAdd, Nat.reduceEqDiff, Nat.reduceLeDiff, Nat.reduceSub, Nat.reduceMul, Int.reduceEq, eq_self, reduceIte]
    refine ops_call (.pureE (sameLog_meets l (by omega)) (by simp [go_sem, Nat.reduceLT, Nat.reduceAdd, Nat.reduceEqDiff, Nat.reduceLeDiff, Nat.reduceSub, Nat.reduceMul, Int.reduceEq, eq_self, reduceIte])) ?_
    simp only [go_sem, Nat.reduceLT, Nat.reduceAdd, Nat.reduceEqDiff, Nat.reduceLeDiff, Nat.reduceSub, Nat.reduceMul, Int.reduceEq, eq_self, reduceIte]
    refine ops_call (.pureE hdec (by simp [go_sem, Nat.reduceLT, Nat.reduceAdd, Nat.reduceEqDiff, Nat.reduceLeDiff, Nat.reduceSub, Nat.reduceMul, Int.reduceEq, eq_self, reduceIte])) ?_
    by_cases hc : c = 0
    · obtain ⟨g1, g2⟩ := hag hc
      rw [g1, if_pos rfl, g2] at henc2
      simp only [go_sem, Nat.reduceLT, Nat.reduceAdd, Nat.reduceEqDiff, Nat.reduceLeDiff, Nat.reduceSub, Nat.reduceMul, Int.reduceEq, eq_self, reduceIte, hc]
      refine ops_call (.pureE henc2 (by simp [go_sem, Nat.reduceLT, Nat.reduceAdd, Nat.reduceEqDiff, Nat.reduceLeDiff, Nat.reduceSub, Nat.reduceMul, Int.reduceEq, eq_self, reduceIte])) ?_
      simp only [go_sem, Nat.reduceLT, Nat.reduceAdd, Nat.reduceEqDiff, Nat.reduceLeDiff, Nat.reduceSub, Nat.reduceMul, Int.reduceEq, eq_self, reduceIte]
      refine ret_pure hx ?_
      simp [go_sem, Nat.reduceLT, Nat.reduceAdd, Nat.reduceEqDiff, Nat.reduceLeDiff, Nat.reduceSub, Nat.reduceMul, Int.reduceEq, eq_self, reduceIte, L4, R4]
    · have hm := hcs hc
      subst hm
      simp only [go_sem, Nat.reduceLT, Nat.reduceAdd, Nat.reduceEqDiff, Nat.reduceLeDiff, Nat.reduceSub, Nat.reduceMul, Int.reduceEq, eq_self, reduceIte, hc, List.length_nil, Int.ofNat_zero, Int.natCast_one, Int.cast_ofNat_Int, Int.reduceLT, Int.reduceLE, Int.reduceToNat, Nat.reduceLT, Int.toNat_zero, Int.natCast_zero, Int.le_refl, Int.lt_irrefl, Int.reduceAdd, frz, false_or, or_true]
      refine ret_pure hx ?_
      simp [go_sem, Nat.reduceLT, Nat.reduceAdd, Nat.reduceEqDiff, Nat.reduceLeDiff, Nat.reduceSub, Nat.reduceMul, Int.reduceEq, eq_self, reduceIte, L4, R4]
  · simp only [go_sem, Nat.reduceLT, Nat.reduceAdd, Nat.reduceEqDiff, Nat.reduceLeDiff, Nat.reduceSub, Nat.reduceMul, Int.reduceEq, eq_self, reduceIte, h0]
    refine ops_call (.pureE hdec (by simp [go_sem, Nat.reduceLT, Nat.reduceAdd, Nat.reduceEqDiff, Nat.reduceLeDiff, Nat.reduceSub, Nat.reduceMul, Int.reduceEq, eq_self, reduceIte])) ?_
    by_cases hc : c = 0
    · obtain ⟨g1, g2⟩ := hag hc
      rw [g1, if_pos rfl, g2] at henc2
      simp only [go_sem, Nat.reduceLT, Nat.reduceAdd, Nat.reduceEqDiff, Nat.reduceLeDiff, Nat.reduceSub, Nat.reduceMul, Int.reduceEq, eq_self, reduceIte, hc]
      refine ops_call (.pureE henc2 (by simp [go_sem, Nat.reduceLT, Nat.reduceAdd, Nat.reduceEqDiff, Nat.reduceLeDiff, Nat.reduceSub, Nat.reduceMul, Int.reduceEq, eq_self, reduceIte])) ?_
      simp only [go_sem, Nat.reduceLT, Nat.reduceAdd, Nat.reduceEqDiff, Nat.reduceLeDiff, Nat.reduceSub, Nat.reduceMul, Int.reduceEq, eq_self, reduceIte]
      refine ret_pure hx ?_
      simp [go_sem, Nat.reduceLT, Nat.reduceAdd, Nat.reduceEqDiff, Nat.reduceLeDiff, Nat.reduceSub, Nat.reduceMul, Int.reduceEq, eq_self, reduceIte, L4, R4]
    · have hm := hcs hc
      subst hm
      simp only [go_sem, Nat.reduceLT, Nat.reduceAdd, Nat.reduceEqDiff, Nat.reduceLeDiff, Nat.reduceSub, Nat.reduceMul, Int.reduceEq, eq_self, reduceIte, hc, List.length_nil, Int.ofNat_zero, Int.natCast_one, Int.cast_ofNat_Int, Int.reduceLT, Int.reduceLE, Int.reduceToNat, Nat.reduceLT, Int.toNat_zero, Int.natCast_zero, Int.le_refl, Int.lt_irrefl, Int.reduceAdd, frz, false_or, or_true]
      refine ret_pure hx ?_
      simp [go_sem, Nat.reduceLT, Nat.reduceAdd, Nat.reduceEqDiff, Nat.reduceLeDiff, Nat.reduceSub, Nat.reduceMul, Int.reduceEq, eq_self, reduceIte, L4, R4]
end Go.Proofs.Ytkibfciheifphaa
/- From an argument's reading as data to what the walks ask of memory; and from a walk that ends in 'true' to a law's statement. -/
namespace Go.Proofs.Ytkibfciheifphaa
open Go.RowKit Go.ChangeShapes Go.WideShapes Go.ChangeAt
section
variable {H : Type} {enc : TypeId × Value → H} {P : Program} {w : World} {sp : Nat → Bool} {held : Bool}
theorem trodAll_stays (hl : laidOutB P = true) {W W' : World} (hb : Below W.heap.size W W') : ∀ {ts : List TypeId} {vs : List Value} {ds : List (DataW H)} {ps : List MemPlace},
    (∀ t ∈ ts, P.readableRec t = true ∧ t < P.types.size) → (∀ x ∈ ps, x.block < W.heap.size) → DataW.TrodAll enc P W 0 (fun _ => true) true ts vs ds ps → DataW.TrodAll enc P W' 0 (fun b => decide (b < W.heap.size)) true ts vs ds ps
  | [], [], [], _, _, _, h => h
  | t :: ts, v :: vs, d :: ds, _, hr, hlt, h => by
    obtain ⟨p, q, h1, h2, rfl⟩ := h
    refine ⟨p, q, Below.trod hl (hr t (by simp)).1 (hr t (by simp)).2 h1 hb (fun x hx => hlt x (by simp [hx])), trodAll_stays hl hb (fun t' ht => hr t' (by simp [ht])) (fun x hx => hlt x (by simp [hx])) h2, rfl⟩
  | [], [], _ :: _, _, _, _, h => h.elim
  | [], _ :: _, _, _, _, _, h => by cases h
  | _ :: _, [], _, _, _, _, h => by cases h
  | _ :: _, _ :: _, [], _, _, _, h => h.elim
theorem law_post {f : Func} {s : ChangeSpec} {apart : Bool} {W W' : World} {args : Array Value} {ds gs : List (DataW H)} {before : List MemPlace} {tb : TypeId}
    (hl : laidOutB P = true) (hpar : ∀ t ∈ f.params.toList, P.readableRec t = true ∧ t < P.types.size) (hres : f.resultTypes = #[tb]) (hub : P.underlying tb = some .bool) (hvars : s.vars = [])
    (hW : DataW.Whole enc P f.params.toList s.vars apart W args.toList ds gs before)
    (hs : s.fn H (ds ++ gs) = { results := [.lit (.bool true)], args := ds }) (hb : Below W.heap.size W W') : s.post enc P f apart true false false W args (.bool true) W' := by
  have hlt := hW.lt
  have hW' := hW
  obtain ⟨p, q, hA, hV, rfl, hfz, hnd⟩ := hW
  rw [hvars] at hV
  have hq : gs = [] ∧ q = [] := by
    cases gs with
    | nil => exact ⟨rfl, hV⟩
    | cons g gs => exact hV.elim
  obtain ⟨rfl, rfl⟩ := hq
  refine ⟨ds, [], _, [], p, [], hW', ?_, ?_, ?_, hb.frame _, fun h => by cases h⟩
  · rw [hs, hres]
    exact trodAll_mk1 (shut_bool hub true)
  · rw [hs]
    exact trodAll_stays hl hb hpar (fun x hx => hlt x (by simp [hx])) hA
  · rw [hs, hvars]
    rfl
theorem parsOf {ts : List TypeId} (h : (ts.all fun t => P.readableRec t && decide (t < P.types.size)) = true) : ∀ t ∈ ts, P.readableRec t = true ∧ t < P.types.size := by
  intro t ht
  have := List.all_eq_true.1 h t ht
  simpa only [Bool.and_eq_true, decide_eq_true_eq] using this
end
def I64 (n : Int) : Prop := -9223372036854775808 ≤ n ∧ n ≤ 9223372036854775807
theorem i64_of_wf {n : Int} (h : (Lit.int .i64 n).wf = true) : I64 n := by simpa [Lit.wf, IntKind.min, IntKind.max, IntKind.signed, IntKind.bits, I64] using h
section
variable {H : Type} {enc : TypeId × Value → H} {w : World} {sp : Nat → Bool} {held : Bool}
theorem lawOwn : ownKnob Try.prog.godebug = none := by kernel_rfl
theorem lawLaid : laidOutB Try.prog = true := by kernel_rfl
theorem lawBool : Try.prog.underlying 4 = some .bool := by kernel_rfl
theorem undInt' : Try.prog.underlying 3 = some (.int .i64) := by kernel_rfl
theorem cellsInt : Try.prog.cellsOf 3 = 1 := by kernel_rfl
theorem undId : Try.prog.underlying 41 = some (.struct (Try.prog.fieldsOf 41)) := by kernel_rfl
theorem cellsId : Try.prog.cellsOf 41 = 2 := by kernel_rfl
end
end Go.Proofs.Ytkibfciheifphaa
/- From an argument's reading as data to abstract values; from a contract of a law to its statement. -/
namespace Go.Proofs.Ytkibfciheifphaa
open Go.RowKit Go.ChangeShapes Go.WideShapes Go.ChangeAt
def Shows (w : World) (ps : List PV) (cs : List Value) : Prop := cs.length = ps.length ∧ ∀ (j : Nat) p v, ps[j]? = some p → cs[j]? = some v → RepP (fun b _ => b < w.heap.size) w p v
section
variable {H : Type} {enc : TypeId × Value → H} {P : Program} {w : World} {sp : Nat → Bool} {held : Bool}
def Opens (enc : TypeId × Value → H) (P : Program) (w : World) (sp : Nat → Bool) (held : Bool) (t : TypeId) (n : Nat) (R : List PV → Prop) : Prop :=
  P.cellsOf t = n ∧ ∀ fuel cs (y : DataW H × List MemPlace), DataW.trod enc P w 0 sp held fuel t cs = some y → (∀ k ∈ y.1.weights P t, k ≤ reachBytes) → ∃ ps, ps.length = n ∧ R ps ∧ Shows w ps cs
theorem Opens.mono {t : TypeId} {n : Nat} {R R' : List PV → Prop} (h : Opens enc P w sp held t n R) (hR : ∀ ps, R ps → R' ps) : Opens enc P w sp held t n R' :=
  ⟨h.1, fun fuel cs y hy hw => by obtain ⟨ps, h1, h2, h3⟩ := h.2 fuel cs y hy hw; exact ⟨ps, h1, hR ps h2, h3⟩⟩
theorem shows1 {p : PV} {v : Value} (h : RepP (fun b _ => b < w.heap.size) w p v) : Shows w [p] [v] := by
  refine ⟨rfl, fun j q u hj hu => ?_⟩
  cases j with
  | zero => simp at hj hu; subst hj; subst hu; exact h
  | succ j => simp at hj
theorem opens_int {t : TypeId} (ht : P.underlying t = some (.int .i64)) (hc : P.cellsOf t = 1) : Opens enc P w sp held t 1 fun ps => ∃ n, I64 n ∧ ps = [.int .i64 n] := by
  refine ⟨hc, fun fuel cs y h _ => ?_⟩
  obtain ⟨n, rfl, -, hw⟩ := DataW.trod_int ht h
  exact ⟨[.int .i64 n], rfl, ⟨n, i64_of_wf hw, rfl⟩, shows1 (.int _ _)⟩
theorem opens_str {t : TypeId} (ht : P.underlying t = some .string) (hc : P.cellsOf t = 1) : Opens enc P w sp held t 1 fun ps => ∃ s : ByteArray, s.size ≤ reachBytes ∧ ps = [.str s] := by
  refine ⟨hc, fun fuel cs y h hw => ?_⟩
  obtain ⟨s, rfl, rfl, -⟩ := DataW.trod_string ht h
  have hs := hw s.data.toList.length (by simp [DataW.weights])
  exact ⟨[.str s], rfl, ⟨s, by simpa using hs, rfl⟩, shows1 (.str _)⟩
theorem trod_elems2 {t e : TypeId} {fuel : Nat} {v : Value} {x : DataW H × List MemPlace} (ht : P.underlying t = some (.slice e)) (hsz : 0 < P.cellsOf e) (h : DataW.trod enc P w 0 sp held fuel t [v] = some x) (hw : ∀ k ∈ x.1.weights P t, k ≤ reachBytes) :
    ∃ a n c, v = .slice a n c ∧ n ≤ c ∧ c ≤ maxLen ∧ n * P.bytesOf e ≤ reachBytes ∧ ∀ k, k < n → ∃ b o cs m y, a = some ⟨b, o, none⟩ ∧ b < w.heap.size ∧ cs.length = P.cellsOf e ∧ (∀ j, j < P.cellsOf e → w.cell? ⟨b, o + k * P.cellsOf e + j, none⟩ = cs[j]?) ∧
      DataW.trod enc P w 0 sp held m e cs = some y ∧ ∀ q ∈ y.1.weights P e, q ≤ reachBytes := by
  have memAll : ∀ (ds : List (DataW H)) (d : DataW H), d ∈ ds → ∀ q ∈ d.weights P e, q ∈ DataW.weightsAll P e ds := by
    intro ds
    induction ds with
    | nil => intro d hd; cases hd
    | cons d0 ds ih =>
      intro d hd q hq
      simp only [DataW.weightsAll, List.mem_append]
      rcases List.mem_cons.1 hd with rfl | hd
      · exact .inl hq
      · exact .inr (ih d hd q hq)
  rcases DataW.trod_slice ht h with ⟨hv, -⟩ | ⟨a, len, cap, elems, rest, m, -, hv, hx, -, h1, h2, hl, hel, -, -⟩
  · exact ⟨none, 0, 0, by simpa using hv, by omega, by unfold maxLen; omega, by omega, fun k hk => by omega⟩
  · obtain rfl : v = .slice (some a) len cap := by simpa using hv
    have hwt : len * P.bytesOf e ≤ reachBytes := by
      have := hw ((elems.length + rest.length) * P.bytesOf e) (by rw [hx]; simp [DataW.weights, ht])
      have h3 : len * P.bytesOf e ≤ (elems.length + rest.length) * P.bytesOf e := Nat.mul_le_mul_right _ (by omega)
      omega
    have key : ∀ k, k < len → ∃ cs y, w.cells? 0 (a.add (k * P.cellsOf e)) (P.cellsOf e) = some cs ∧ DataW.trod enc P w 0 sp held m e cs = some y ∧ ∀ q ∈ y.1.weights P e, q ≤ reachBytes := by
      intro k hk
      have := hel k hk
      rw [List.getElem?_eq_getElem (by omega)] at this
      obtain ⟨cs, hcs, hy⟩ := Option.bind_eq_some_iff.1 this
      refine ⟨cs, _, hcs, hy, fun q hq => hw q ?_⟩
      rw [hx]
      simp only [DataW.weights, ht, List.mem_cons, List.mem_append]
      exact .inr (.inl (memAll _ _ (List.mem_map.2 ⟨_, List.getElem_mem _, rfl⟩) q hq))
    refine ⟨some a, len, cap, rfl, h1, h2, hwt, fun k hk => ?_⟩
    obtain ⟨cs0, y0, hc0, -⟩ := key 0 (by omega)
    have h0 := (World.cells?_some hc0).2.2 0 hsz
    obtain ⟨ab, ao, asp⟩ := a
    have hl0 := (World.cells?_some hc0).2.1
    have has : asp = none := by
      simp only [Nat.zero_mul, Addr.add, if_true] at h0
      rw [List.getElem?_eq_getElem (by omega)] at h0
      cases asp with
      | none => rfl
      | some s =>
        simp only [World.cell?] at h0
        split at h0 <;> simp at h0
    subst has
    obtain ⟨cs, y, hcs, hy, hq⟩ := key k hk
    have h3 := World.cells?_some hcs
    have add_eq : ∀ (o n : Nat), (⟨ab, o, none⟩ : Addr).add n = ⟨ab, o + n, none⟩ := by
      intro o n; unfold Addr.add; split <;> simp_all
    refine ⟨ab, ao, cs, m, y, rfl, ?_, h3.2.1, fun j hj => ?_, hy, hq⟩
    · exact World.cells?_block (a := ⟨ab, ao, none⟩) (by simpa [add_eq] using hc0) hsz
    · have := h3.2.2 j hj
      simpa [add_eq] using this
theorem list_choose {α : Type} {n : Nat} {Q : Nat → α → Prop} (h : ∀ k, k < n → ∃ x, Q k x) : ∃ l : List α, l.length = n ∧ ∀ (k : Nat) x, l[k]? = some x → Q k x := by
  induction n with
  | zero => exact ⟨[], rfl, fun k x hk => by simp at hk⟩
  | succ n ih =>
    obtain ⟨l, h1, h2⟩ := ih fun k hk => h k (by omega)
    obtain ⟨x, hx⟩ := h n (by omega)
    refine ⟨l ++ [x], by simp [h1], fun k y hk => ?_⟩
    by_cases hlt : k < l.length
    · rw [List.getElem?_append_left hlt] at hk; exact h2 k y hk
    · rw [List.getElem?_append_right (by omega)] at hk
      have : k - l.length = 0 := by
        have := (List.getElem?_eq_some_iff.1 hk).1
        simp at this; omega
      rw [this] at hk
      simp at hk
      subst hk
      rw [show k = n by omega]; exact hx
theorem opens_slice {t e : TypeId} {n : Nat} {R : List PV → Prop} (ht : P.underlying t = some (.slice e)) (hc : P.cellsOf t = 1) (hn : 0 < n) (he : Opens enc P w sp held e n R) :
    Opens enc P w sp held t 1 fun ps => ∃ rows, rows.length * P.bytesOf e ≤ reachBytes ∧ (∀ row ∈ rows, row.length = n ∧ R row) ∧ ps = [.list rows] := by
  refine ⟨hc, fun fuel cs y h hw => ?_⟩
  have hcs : ∃ v, cs = [v] := by
    rcases DataW.trod_slice ht h with ⟨hv, -⟩ | ⟨a, len, cap, elems, rest, m, -, hv, -⟩ <;> exact ⟨_, hv⟩
  obtain ⟨v, rfl⟩ := hcs
  obtain ⟨hce, he⟩ := he
  obtain ⟨a, len, c, rfl, h1, h2, hby, h3⟩ := trod_elems2 ht (by omega) h hw
  rw [hce] at h3
  obtain ⟨rows, r1, r2⟩ := list_choose (Q := fun k (row : List PV) => row.length = n ∧ R row ∧ ∃ b o cs, a = some ⟨b, o, none⟩ ∧ b < w.heap.size ∧ cs.length = n ∧ (∀ j, j < n → w.cell? ⟨b, o + k * n + j, none⟩ = cs[j]?) ∧ Shows w row cs) fun k hk => by
    obtain ⟨b, o, cs, m, y, q1, q2, q3, q4, q5, q6⟩ := h3 k hk
    obtain ⟨ps, p1, p2, p3⟩ := he m cs y q5 q6
    exact ⟨ps, p1, p2, b, o, cs, q1, q2, q3, q4, p3⟩
  refine ⟨[.list rows], rfl, ⟨rows, by rw [r1]; exact hby, fun row hr => ?_, rfl⟩, shows1 ?_⟩
  · obtain ⟨k, hk⟩ := List.getElem?_of_mem hr
    exact ⟨(r2 k row hk).1, (r2 k row hk).2.1⟩
  · have key : ∀ k row j p, rows[k]? = some row → row[j]? = some p → ∃ b o, a = some ⟨b, o, none⟩ ∧ b < w.heap.size ∧ ∃ u, w.cell? ⟨b, o + k * n + j, none⟩ = some u ∧ RepP (fun b _ => b < w.heap.size) w p u := by
      intro k row j p hk hj
      obtain ⟨hl, -, b, o, cs, q1, q2, q3, q4, q5⟩ := r2 k row hk
      have hlt : j < n := by rw [← hl]; exact (List.getElem?_eq_some_iff.1 hj).1
      refine ⟨b, o, q1, q2, cs[j]'(by omega), ?_, ?_⟩
      · rw [q4 j hlt, List.getElem?_eq_getElem (by omega)]
      · exact q5.2 j p _ hj (List.getElem?_eq_getElem (by omega))
    have := RepP.list (S := fun b _ => b < w.heap.size) (w := w) rows a c n (fun k j => match a with | some ad => (w.cell? ⟨ad.block, ad.off + k * n + j, none⟩).getD Go.undef | none => Go.undef) (by omega) h2 hn (fun row hr => by
        obtain ⟨k, hk⟩ := List.getElem?_of_mem hr
        exact (r2 k row hk).1) (fun k row j p hk hj => by
        obtain ⟨b, o, q1, q2, u, q3, q4⟩ := key k row j p hk hj
        subst q1
        exact ⟨b, o, rfl, q2, by simp [q3]⟩) (fun k row j p hk hj => by
        obtain ⟨b, o, q1, q2, u, q3, q4⟩ := key k row j p hk hj
        subst q1
        simp only [q3, Option.getD_some]
        exact q4)
    rw [r1] at this
    exact this
def offs : Nat → List (TypeId × Nat) → List (TypeId × Nat)
  | _, [] => []
  | o, (t, n) :: r => (t, o) :: offs (o + n) r
def RAll : List (Nat × (List PV → Prop)) → List PV → Prop
  | [], ps => ps = []
  | (n, R) :: r, ps => ∃ a b, ps = a ++ b ∧ a.length = n ∧ R a ∧ RAll r b
def OpensAll (enc : TypeId × Value → H) (P : Program) (w : World) (sp : Nat → Bool) (held : Bool) : List (TypeId × Nat × (List PV → Prop)) → Prop
  | [] => True
  | (t, n, R) :: r => Opens enc P w sp held t n R ∧ OpensAll enc P w sp held r
theorem shows_append {a b : List PV} {cs ds : List Value} (h1 : Shows w a cs) (h2 : Shows w b ds) : Shows w (a ++ b) (cs ++ ds) := by
  refine ⟨by simp [h1.1, h2.1], fun j p v hj hv => ?_⟩
  by_cases hlt : j < a.length
  · rw [List.getElem?_append_left hlt] at hj
    rw [List.getElem?_append_left (by rw [h1.1]; exact hlt)] at hv
    exact h1.2 j p v hj hv
  · rw [List.getElem?_append_right (by omega)] at hj
    rw [List.getElem?_append_right (by rw [h1.1]; omega), h1.1] at hv
    exact h2.2 _ p v hj hv
theorem opens_fields : ∀ (fl : List (TypeId × Nat × (List PV → Prop))) (o : Nat) (cs : List Value), OpensAll enc P w sp held fl → cs.length = o + (fl.map (·.2.1)).sum →
    (∀ (i : Nat) (t' : TypeId) (o' : Nat), (offs o (fl.map fun f => (f.1, f.2.1)))[i]? = some (t', o') → ∃ n y, DataW.trod enc P w 0 sp held n t' ((cs.drop o').take (P.cellsOf t')) = some y ∧ ∀ k ∈ y.1.weights P t', k ≤ reachBytes) →
    ∃ ps, ps.length = (fl.map (·.2.1)).sum ∧ RAll (fl.map (·.2)) ps ∧ Shows w ps (cs.drop o)
  | [], o, cs, _, hl, _ => ⟨[], rfl, rfl, by
      rw [List.drop_eq_nil_of_le (by simp at hl; omega)]
      exact ⟨rfl, fun j p v hj => by simp at hj⟩⟩
  | (t, n, R) :: fl, o, cs, ho, hl, hx => by
    obtain ⟨⟨hc, h1⟩, h2⟩ := ho
    obtain ⟨m, y, hy, hwy⟩ := hx 0 t o rfl
    obtain ⟨ps, p1, p2, p3⟩ := h1 m _ y hy hwy
    simp only [List.map_cons, List.sum_cons] at hl
    obtain ⟨qs, q1, q2, q3⟩ := opens_fields fl (o + n) cs h2 (by omega) fun i t' o' hi => hx (i + 1) t' o' hi
    refine ⟨ps ++ qs, by simp [p1, q1], ⟨ps, qs, rfl, p1, p2, q2⟩, ?_⟩
    rw [hc] at p3
    have : cs.drop o = (cs.drop o).take n ++ cs.drop (o + n) := by rw [← List.drop_drop, List.take_append_drop]
    rw [this]
    exact shows_append p3 q3
theorem opens_struct {t : TypeId} {n : Nat} (fl : List (TypeId × Nat × (List PV → Prop))) (hs : P.underlying t = some (.struct (P.fieldsOf t))) (hf : (P.fieldsOf t).toList.map (fun f => (f.type, f.offset)) = offs 0 (fl.map fun f => (f.1, f.2.1)))
    (hc : P.cellsOf t = n) (hn : (fl.map (·.2.1)).sum = n) (ho : OpensAll enc P w sp held fl) : Opens enc P w sp held t n (RAll (fl.map (·.2))) := by
  refine ⟨hc, fun fuel cs y h hw => ?_⟩
  obtain ⟨xs, m, _, hy, hl, hlen, hq⟩ := DataW.trod_struct hs h
  have hx : ∀ (i : Nat) (t' : TypeId) (o' : Nat), (offs 0 (fl.map fun f => (f.1, f.2.1)))[i]? = some (t', o') → ∃ n y, DataW.trod enc P w 0 sp held n t' ((cs.drop o').take (P.cellsOf t')) = some y ∧ ∀ k ∈ y.1.weights P t', k ≤ reachBytes := by
    intro i t' o' hi
    rw [← hf, List.getElem?_map] at hi
    obtain ⟨f, h1, h2⟩ := Option.map_eq_some_iff.1 hi
    simp only [Prod.mk.injEq] at h2
    obtain ⟨rfl, rfl⟩ := h2
    have h3 := hq i f (by simpa using h1)
    have hi2 : i < (P.fieldsOf t).toList.length := (List.getElem?_eq_some_iff.1 h1).1
    have hi3 : i < xs.length := by rw [hlen]; simpa using hi2
    refine ⟨m, xs[i], by rw [h3]; simp, fun k hk => hw k ?_⟩
    rw [hy]
    simp only [DataW.weights, hs]
    refine DataW.weights_mem_each (j := i) (t := f.type) (d := xs[i].1) ?_ ?_ k hk
    · rw [List.getElem?_map, h1]; rfl
    · rw [List.getElem?_map, List.getElem?_eq_getElem hi3]; rfl
  obtain ⟨ps, h1, h2, h3⟩ := opens_fields fl 0 cs ho (by omega) hx
  exact ⟨ps, by omega, h2, h3⟩
theorem open_cell {t : TypeId} {R : List PV → Prop} (ho : Opens enc P w sp held t 1 R) {v : Value} (h1 : ∀ cs, v ≠ .agg cs) {d : DataW H} {p : List MemPlace} (h : DataW.Trod enc P w 0 sp held t v d p) (hw : ∀ k ∈ d.weights P t, k ≤ reachBytes) : ∃ q, R [q] ∧ RepP (fun b _ => b < w.heap.size) w q v := by
  obtain ⟨fuel, hf⟩ := h
  obtain ⟨ps, p1, p2, p3⟩ := ho.2 fuel _ _ hf hw
  have hv : v.cells.toList = [v] := by cases v <;> first | rfl | exact (h1 _ rfl).elim
  match ps, p1 with
  | [q], _ => exact ⟨q, p2, p3.2 0 q v rfl (by rw [hv]; rfl)⟩
end
def lawCx (w : World) : Cx := ⟨w, fun b _ => b < w.heap.size, ⟨0, fun _ => 0, fun _ => Go.undef, fun _ => 0⟩, []⟩
theorem lawHR (w : World) : HR (lawCx w) (lawCx w).C0 [] w :=
  ⟨rfl, fun id ob h => by simp at h, fun id id' ob ob' b h => by simp at h, fun id ob b h => by simp at h, fun b o h => ⟨h, fun id ob h => by simp at h, rfl⟩, Nat.le_refl _, rfl, rfl, rfl, fun b _ _ => rfl, Nat.le_refl _, fun i hi => rfl, fun i hi => .inl ⟨rfl, rfl⟩⟩
theorem lawStab {w : World} {b o : Nat} (h : b < w.heap.size) : Stab (lawCx w) (lawCx w).C0 [] w b o := ⟨.inl h, h, fun id ob h => by simp at h⟩
def Arg (w : World) (p : PV) (v : Value) : Prop := RepV (Stab (lawCx w) (lawCx w).C0 [] w) w (lawCx w).C0 p v
theorem Arg.of {w : World} {p : PV} {v : Value} (h : RepP (fun b _ => b < w.heap.size) w p v) : Arg w p v := .pure (h.mono (fun _ _ h => lawStab h) fun _ _ _ => rfl)
inductive ArgsAre (w : World) : List PV → List Value → Prop
  | nil : ArgsAre w [] []
  | cons {p : PV} {v : Value} {ps : List PV} {vs : List Value} (h : Arg w p v) (t : ArgsAre w ps vs) : ArgsAre w (p :: ps) (v :: vs)
theorem ArgsAre.reps {w : World} {ps : List PV} {vs : List Value} (h : ArgsAre w ps vs) : Reps (Stab (lawCx w) (lawCx w).C0 [] w) w (lawCx w).C0 ps vs := by
  induction h with
  | nil => exact ⟨rfl, fun j p v hj => by simp at hj⟩
  | cons h t ih =>
    refine ⟨by simp [ih.1], fun j p v hj hv => ?_⟩
    cases j with
    | zero => simp at hj hv; subst hj; subst hv; exact h
    | succ j => exact ih.2 j p v (by simpa using hj) (by simpa using hv)
theorem law_calls {P : Program} {f : Nat} {args : List PV} {vs : Array Value} {w : World} (h : Meets P f args [] (.bool true) []) (hp : ArgsAre w args vs.toList) : Calls P f vs w fun e w' => e = .returned (.bool true) ∧ Below w.heap.size w w' := by
  refine (h (lawCx w) vs rfl (lawHR w) hp.reps).mono fun e w' ⟨v, C', h1, h2, h3⟩ => ?_
  have hv := h3.bool_inv
  subst hv
  exact ⟨h1, ⟨h2.os, h2.tape, h2.output, h2.size, fun b hb => h2.frame b hb fun i ob0 hi => by simp [lawCx] at hi⟩⟩
end Go.Proofs.Ytkibfciheifphaa
/- Arguments of laws, opened: ids, entries, lists of them. -/
namespace Go.Proofs.Ytkibfciheifphaa
open Go.RowKit Go.ChangeShapes Go.WideShapes Go.ChangeAt
section
variable {H : Type} {enc : TypeId × Value → H} {w : World} {sp : Nat → Bool} {held : Bool}
theorem rows_map {α : Type} {f : α → List PV} {Q : α → Prop} {n : Nat} : ∀ {rows : List (List PV)}, (∀ row ∈ rows, row.length = n ∧ ∃ x, Q x ∧ row = f x) → ∃ l : List α, (∀ x ∈ l, Q x) ∧ rows = l.map f
  | [], _ => ⟨[], by simp, rfl⟩
  | row :: rows, h => by
    obtain ⟨-, x, h1, rfl⟩ := h row (by simp)
    obtain ⟨l, h2, rfl⟩ := rows_map (rows := rows) fun row hr => h row (by simp [hr])
    exact ⟨x :: l, by simpa using ⟨h1, h2⟩, rfl⟩
theorem opInt : Opens enc Try.prog w sp held 3 1 fun ps => ∃ n, I64 n ∧ ps = [.int .i64 n] := opens_int undInt' cellsInt
theorem opStr : Opens enc Try.prog w sp held 9 1 fun ps => ∃ s : ByteArray, s.size ≤ reachBytes ∧ ps = [.str s] := opens_str (by kernel_rfl) (by kernel_rfl)
def wfId (x : Id) : Prop := I64 x.r ∧ I64 x.n
theorem opId : Opens enc Try.prog w sp held 41 2 fun ps => ∃ x : Id, wfId x ∧ ps = cId x :=
  (opens_struct [(3, 1, _), (3, 1, _)] undId (by kernel_rfl) cellsId rfl ⟨opInt, opInt, trivial⟩).mono (by
    rintro ps ⟨a, b, rfl, -, ⟨n, hn, rfl⟩, c, d, rfl, -, ⟨m, hm, rfl⟩, rfl⟩
    exact ⟨⟨n, m⟩, ⟨hn, hm⟩, rfl⟩)
theorem opIds : Opens enc Try.prog w sp held 42 1 fun ps => ∃ l : List Id, l.length * 16 ≤ reachBytes ∧ (∀ x ∈ l, wfId x) ∧ ps = [.list (l.map cId)] :=
  (opens_slice (by kernel_rfl) (by kernel_rfl) (by omega) opId).mono (by
    rintro ps ⟨rows, hm, hr, rfl⟩
    obtain ⟨l, h1, rfl⟩ := rows_map hr
    rw [show Try.prog.bytesOf 41 = 16 by kernel_rfl] at hm
    exact ⟨l, by simpa using hm, h1, rfl⟩)
def wfE (e : Entry) : Prop := wfId e.id ∧ I64 e.c ∧ e.t.size ≤ reachBytes ∧ e.ls.length * 16 ≤ reachBytes ∧ ∀ x ∈ e.ls, wfId x
theorem undEntry : Try.prog.underlying 44 = some (.struct (Try.prog.fieldsOf 44)) := by kernel_rfl
theorem opEntry : Opens enc Try.prog w sp held 44 5 fun ps => ∃ e : Entry, wfE e ∧ ps = cE e :=
  (opens_struct [(41, 2, _), (3, 1, _), (9, 1, _), (42, 1, _)] undEntry (by kernel_rfl) (by kernel_rfl) rfl ⟨opId, opInt, opStr, opIds, trivial⟩).mono (by
    rintro ps ⟨a, b, rfl, -, ⟨x, hx, rfl⟩, c, d, rfl, -, ⟨n, hn, rfl⟩, f, g, rfl, -, ⟨s, hs, rfl⟩, k, q, rfl, -, ⟨l, hl, hq, rfl⟩, rfl⟩
    exact ⟨⟨x, n, s, l⟩, ⟨hx, hn, hs, hl, hq⟩, rfl⟩)
set_option maxRecDepth 100000 in
theorem argStr {b0 : Nat} {v : Value} {d : DataW H} {p : List MemPlace} (hv : Value.okWide Try.prog w .any b0 9 v) (h : DataW.Trod enc Try.prog w 0 sp held 9 v d p) (hw : ∀ k ∈ d.weights Try.prog 9, k ≤ reachBytes) : ∃ s : ByteArray, s.size ≤ reachBytes ∧ Arg w (.str s) v := by
  obtain ⟨m, rfl⟩ := okWide_string (by kernel_rfl) hv
  obtain ⟨q, ⟨n, hn, hq⟩, h2⟩ := open_cell opStr (by simp) h hw
  simp at hq; subst hq
  exact ⟨n, hn, .of h2⟩
end
end Go.Proofs.Ytkibfciheifphaa
/- Arguments of laws, opened: lists of entries, of ids. -/
namespace Go.Proofs.Ytkibfciheifphaa
open Go.RowKit Go.ChangeShapes Go.WideShapes Go.ChangeAt
section
variable {H : Type} {enc : TypeId × Value → H} {w : World} {sp : Nat → Bool} {held : Bool}
theorem opEntries : Opens enc Try.prog w sp held 22 1 fun ps => ∃ l : List Entry, l.length ≤ reachBytes ∧ (∀ e ∈ l, wfE e) ∧ ps = [.list (l.map cE)] :=
  (opens_slice (by kernel_rfl) (by kernel_rfl) (by omega) opEntry).mono (by
    rintro ps ⟨rows, hm, hr, rfl⟩
    obtain ⟨l, h1, rfl⟩ := rows_map hr
    have hb : 1 ≤ Try.prog.bytesOf 44 := by decide +kernel
    refine ⟨l, ?_, h1, rfl⟩
    have h2 : (l.map cE).length * 1 ≤ (l.map cE).length * Try.prog.bytesOf 44 := Nat.mul_le_mul_left _ hb
    rw [List.length_map] at h2 hm
    omega)
set_option maxRecDepth 100000 in
theorem argEntries {b0 : Nat} {v : Value} {d : DataW H} {p : List MemPlace} (hv : Value.okWide Try.prog w .any b0 22 v) (h : DataW.Trod enc Try.prog w 0 sp held 22 v d p) (hw : ∀ k ∈ d.weights Try.prog 22, k ≤ reachBytes) :
    ∃ l : List Entry, l.length ≤ reachBytes ∧ (∀ e ∈ l, wfE e) ∧ Arg w (.list (l.map cE)) v := by
  obtain ⟨a, n, c, rfl⟩ := okWide_slice (e := 44) (by kernel_rfl) hv
  obtain ⟨q, ⟨l, h1, h2, hq⟩, h3⟩ := open_cell opEntries (by simp) h hw
  simp at hq; subst hq
  exact ⟨l, h1, h2, .of h3⟩
end
end Go.Proofs.Ytkibfciheifphaa
/- Clients: contracts. -/
namespace Go.Proofs.Ytkibfciheifphaa
set_option linter.unusedSimpArgs false
set_option linter.unusedVariables false
open Go.RowKit
end Go.Proofs.Ytkibfciheifphaa
/- Arguments of laws, opened: clients, vectors. -/
namespace Go.Proofs.Ytkibfciheifphaa
open Go.RowKit Go.ChangeShapes Go.WideShapes Go.ChangeAt
section
variable {H : Type} {enc : TypeId × Value → H} {w : World} {sp : Nat → Bool} {held : Bool}
end
end Go.Proofs.Ytkibfciheifphaa
