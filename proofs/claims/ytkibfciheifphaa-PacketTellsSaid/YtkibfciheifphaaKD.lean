/- Joined texts of this claim: DecW E9 Q4 Q5 E12 E13 Q6 Q7 Q8 Q9 E10 D1 D2 D3 M1 M2 S2 S3 Sh S1 G1 M3 D5 D4 D6 D7 D8 D9 D10 G2 D11 G3 M4 D12 D13 D14 D15 G4 G5 D16 S4 S5 S6 S7 T1 T2 T3 T4 T5 T6 T7 PE R1 R2 L7 L8 L10 T8 T9 T10 T11 V1 V2. -/
import Derived.Test.YtkibfciheifphaaKC
import Derived.Test.YtkibfciheifphaaKB
import Derived.Shelf.GgSortFunc.InsertionK
import Derived.Test.YtkibfciheifphaaProg
import Derived.Shelf.RegionOpenPlain
import Derived.WalkKit
import Derived.Deep.LoopGhost
import Derived.Deep.Draws
import Derived.Lib.Walk
import Derived.Sort.WalkB12
import Derived.Lib.SliceRun
import Derived.Lib.SlicesCompact
import Derived.Shelf.SlSortCmp.WholeK
import Derived.Shelf.SlLaysF0
import Derived.KernelRfl
import Derived.Shelf.SlSortCmp.Insertion
import Derived.Shelf.SlSortCmp.NoneTotal
import Derived.Deep.RegionLaw
import Derived.Lib.SlicesDelete
import Derived.Shelf.Spec.SlicesInsert
import Derived.ArgAppend
import Derived.Shelf.Spec.SlicesInsertGrow
set_option linter.unusedSimpArgs false
set_option linter.unusedVariables false
set_option linter.unusedSectionVars false
/- Walk through Decode: what it answers. -/
namespace Go.Proofs.Ytkibfciheifphaa
set_option linter.unusedSimpArgs false
set_option linter.unusedVariables false
open Go.RowKit
theorem told_walk (t : List UInt8) (w : World) :
    Calls Try.prog 76 #[.string (BA t)] w fun e w' => ∃ a m, e = .returned (.tuple #[.agg #[.int .i64 (toldOut t).1.id.r, .int .i64 (toldOut t).1.id.n, .int .i64 (toldOut t).1.c, .string (toldOut t).1.t, .slice a (toldOut t).1.ls.length m], .string (BA (toldOut t).2.1), .int .i64 (toldOut t).2.2]) ∧
      Below w.heap.size w w' ∧ w'.ownsRow w.heap.size 41 2 (.slice a (toldOut t).1.ls.length m) (toldOut t).1.ls.length (idCells (toldOut t).1.ls) := by
  refine (told_calls t w).mono fun e w' h => ?_
  unfold toldOut
  cases hr : rdEntry t with
  | error c =>
    rw [hr] at h
    exact ⟨none, 0, h.1, h.2, World.ownsRow_nil _ _ _ _⟩
  | ok v =>
    rw [hr] at h
    obtain ⟨lv, he, hb, ho⟩ := h
    obtain ⟨a, m, rfl⟩ := own_form ho
    exact ⟨a, m, he, hb, ho⟩
theorem dec_below {w w1 : World} {u0 u1 u2 u3 u4 : Value} {o : Obj} (hb : Below w.heap.size w w1) :
    Below w.heap.size w ((((((w1.setCell ⟨w.heap.size, 0, none⟩ u0).setCell ⟨w.heap.size, 1, none⟩ u1).setCell ⟨w.heap.size, 2, none⟩ u2).setCell ⟨w.heap.size, 3, none⟩ u3).setCell ⟨w.heap.size, 4, none⟩ u4).alloc o) := by
  have h := below_set (o := 4) (below_set (o := 3) (below_set (o := 2) (below_set (o := 1) (below_set (o := 0) hb (Nat.le_refl _) u0) (Nat.le_refl _) u1) (Nat.le_refl _) u2) (Nat.le_refl _) u3) (Nat.le_refl _) u4
  exact Below.alloc h h.size o
theorem dec_own {w w1 : World} {u0 u1 u2 u3 u4 v : Value} {o : Obj} {n : Nat} {xs : List Value} (h : w1.ownsRow (w.heap.size + 1) 41 2 v n xs) :
    ((((((w1.setCell ⟨w.heap.size, 0, none⟩ u0).setCell ⟨w.heap.size, 1, none⟩ u1).setCell ⟨w.heap.size, 2, none⟩ u2).setCell ⟨w.heap.size, 3, none⟩ u3).setCell ⟨w.heap.size, 4, none⟩ u4).alloc o).ownsRow w.heap.size 41 2 v n xs := by
  have l := Nat.lt_succ_self w.heap.size
  have h := own_set (o := 4) (own_set (o := 3) (own_set (o := 2) (own_set (o := 1) (own_set (o := 0) h l u0) l u1) l u2) l u3) l u4
  exact own_mono (h.alloc o) (Nat.le_succ _)
set_option maxHeartbeats 2000000 in
theorem decode_calls (t : List UInt8) (w : World) (ht : t.length ≤ maxLen) :
    Calls Try.prog 53 #[.string (BA t)] w fun e w' => ∃ lv, e = .returned (.tuple #[.agg #[.int .i64 (decOut t).1.id.r, .int .i64 (decOut t).1.id.n, .int .i64 (decOut t).1.c, .string (decOut t).1.t, lv], .int .i64 (decOut t).2.1, .int .i64 (decOut t).2.2]) ∧
      Below w.heap.size w w' ∧ w'.ownsRow w.heap.size 41 2 lv (decOut t).1.ls.length (idCells (decOut t).1.ls) := by
  have hl := toldOut_len t
  unfold maxLen at ht
  have a1 := BA_size
  have n1 : (0 : Int) ≤ (t.length : Int) - ((toldOut t).2.1.length : Int) := by omega
  have n2 : (t.length : Int) - ((toldOut t).2.1.length : Int) ≤ 9223372036854775807 := by omega
  by_cases h : (toldOut t).2.2 = 0
  · have H : Hid (decOut t = ((toldOut t).1, (t.length : Int) - ((toldOut t).2.1.length : Int), 0)) := by show _ = _; rw [decOut, if_pos h]
    rw [H.out]
    go_enter Try.func53, Try.ntmps53
    go_wp2_with fail
    refine (told_walk t _).mono ?_
    rintro e w1 ⟨a, m, rfl, hb, ho⟩
    rw [h]
    obtain ⟨hc, hff⟩ := bcell hb
    have z0 : w.heap.size < w1.heap.size := by have := hb.size; simp at this; omega
    have z1 : w.heap.size ≠ w1.heap.size := by omega
    have z2 : w1.heap.size ≠ w.heap.size := by omega
    have c0 : w1.cell? ⟨w.heap.size, 0, none⟩ = some (.int .i64 0) := by rw [hc _ _ (by simp)]; simp [go_sem]
    have c1 : w1.cell? ⟨w.heap.size, 1, none⟩ = some (.int .i64 0) := by rw [hc _ _ (by simp)]; simp [go_sem]
    have c2 : w1.cell? ⟨w.heap.size, 2, none⟩ = some (.int .i64 0) := by rw [hc _ _ (by simp)]; simp [go_sem]
    have c3 : w1.cell? ⟨w.heap.size, 3, none⟩ = some (.string ⟨#[]⟩) := by rw [hc _ _ (by simp)]; simp [go_sem]
    have c4 : w1.cell? ⟨w.heap.size, 4, none⟩ = some (.slice none 0 0) := by rw [hc _ _ (by simp)]; simp [go_sem]
    have d0 : ∀ o, w1.frozen? ⟨w.heap.size, o, none⟩ = false := fun o => by rw [hff _ _ (by simp)]; simp [go_sem]
    have B := below_after (w := w) (by (repeat (first | exact Below.refl _ _ | assumption | refine Below.drew ?_ | refine below_drewN ?_ | refine Below.alloc ?_ (by first | (simp; done) | (simp; omega) | omega) _ | refine Below.setCell ?_ (by first | (simp; done) | (simp; omega) | omega) _))) hb
    have BH := Lib.hid B
    have OH := Lib.hid (own_mono ho (base' := w.heap.size + 1) (by simp))
    clear hb ho B hc hff
    go_wp2
    refine bodyPost_ret (v := .tuple #[.agg #[.int .i64 (toldOut t).1.id.r, .int .i64 (toldOut t).1.id.n, .int .i64 (toldOut t).1.c, .string (toldOut t).1.t, .slice a (toldOut t).1.ls.length m], .int .i64 ((t.length : Int) - ((toldOut t).2.1.length : Int)), .int .i64 0]) (by simp [results, Try.results53, go_sem, c0, c1, c2, c3, c4, z0]) rfl ⟨_, rfl, ?_, ?_⟩
    · exact dec_below BH.out
    · exact dec_own OH.out
  · have H : Hid (decOut t = (zeroE, 0, (toldOut t).2.2)) := by show _ = _; rw [decOut, if_neg h]
    have h1 : ((toldOut t).2.2 == 0) = false := by simpa using h
    have h2 : ((toldOut t).2.2 != 0) = true := by simpa using h
    rw [H.out]
    go_enter Try.func53, Try.ntmps53
    go_wp2_with fail
    refine (told_walk t _).mono ?_
    rintro e w1 ⟨a, m, rfl, hb, ho⟩
    obtain ⟨hc, hff⟩ := bcell hb
    have z0 : w.heap.size < w1.heap.size := by have := hb.size; simp at this; omega
    have z1 : w.heap.size ≠ w1.heap.size := by omega
    have z2 : w1.heap.size ≠ w.heap.size := by omega
    have c0 : w1.cell? ⟨w.heap.size, 0, none⟩ = some (.int .i64 0) := by rw [hc _ _ (by simp)]; simp [go_sem]
    have c1 : w1.cell? ⟨w.heap.size, 1, none⟩ = some (.int .i64 0) := by rw [hc _ _ (by simp)]; simp [go_sem]
    have c2 : w1.cell? ⟨w.heap.size, 2, none⟩ = some (.int .i64 0) := by rw [hc _ _ (by simp)]; simp [go_sem]
    have c3 : w1.cell? ⟨w.heap.size, 3, none⟩ = some (.string ⟨#[]⟩) := by rw [hc _ _ (by simp)]; simp [go_sem]
    have c4 : w1.cell? ⟨w.heap.size, 4, none⟩ = some (.slice none 0 0) := by rw [hc _ _ (by simp)]; simp [go_sem]
    have d0 : ∀ o, w1.frozen? ⟨w.heap.size, o, none⟩ = false := fun o => by rw [hff _ _ (by simp)]; simp [go_sem]
    have B := below_after (w := w) (by (repeat (first | exact Below.refl _ _ | assumption | refine Below.drew ?_ | refine below_drewN ?_ | refine Below.alloc ?_ (by first | (simp; done) | (simp; omega) | omega) _ | refine Below.setCell ?_ (by first | (simp; done) | (simp; omega) | omega) _))) hb
    have BH := Lib.hid B
    have OH := Lib.hid (own_mono ho (base' := w.heap.size + 1) (by simp))
    clear hb ho B hc hff
    go_wp2
    refine bodyPost_ret (v := .tuple #[.agg #[.int .i64 0, .int .i64 0, .int .i64 0, .string ⟨#[]⟩, .slice none 0 0], .int .i64 0, .int .i64 (toldOut t).2.2]) (by simp [results, Try.results53, go_sem, c0, c1, c2, c3, c4, z0]) rfl ⟨_, rfl, ?_, ?_⟩
    · exact dec_below BH.out
    · exact World.ownsRow_nil _ _ _ _
end Go.Proofs.Ytkibfciheifphaa
/- Decode, by its hand walk: a contract. -/
namespace Go.Proofs.Ytkibfciheifphaa
open Go.RowKit
theorem ids_rep {S : Nat → Prop} {T : Nat → Nat → Prop} {w : World} {v : Value} {l : List Id} (h : IdsIn S w v l) (hT : ∀ b o, S b → b < w.heap.size → T b o) : RepP T w (.list (l.map cId)) v := by
  obtain ⟨a, c, rfl, h1, h2, h3⟩ := h
  have key : ∀ (k : Nat) row (j : Nat) p, (l.map cId)[k]? = some row → row[j]? = some p → k < l.length ∧ ((j = 0 ∧ p = .int .i64 (nth l k).r) ∨ (j = 1 ∧ p = .int .i64 (nth l k).n)) := by
    intro k row j p hk hj
    obtain ⟨y, hy, rfl⟩ := map_get hk
    have hlt : k < l.length := (List.getElem?_eq_some_iff.1 hy).1
    have : y = nth l k := by have := nth_get? l k hlt; rw [hy] at this; exact Option.some.inj this
    subst this
    refine ⟨hlt, ?_⟩
    match j, hj with
    | 0, hj => simp [cId] at hj; exact .inl ⟨rfl, hj.symm⟩
    | 1, hj => simp [cId] at hj; exact .inr ⟨rfl, hj.symm⟩
    | j + 2, hj => simp [cId] at hj
  have := RepP.list (S := T) (w := w) (l.map cId) a c 2 (fun k j => if j = 0 then .int .i64 (nth l k).r else .int .i64 (nth l k).n) (by simpa using h1) h2 (by omega) (fun row hr => by
    obtain ⟨y, -, rfl⟩ := List.mem_map.1 hr; rfl) (fun k row j p hk hj => by
    obtain ⟨hlt, hp⟩ := key k row j p hk hj
    obtain ⟨b, o, ha, hs, hb, c1, c2⟩ := h3 k hlt
    refine ⟨b, o, ha, hT _ _ hs hb, ?_⟩
    rcases hp with ⟨rfl, -⟩ | ⟨rfl, -⟩
    · simpa using c1
    · simpa using c2) (fun k row j p hk hj => by
    obtain ⟨hlt, hp⟩ := key k row j p hk hj
    rcases hp with ⟨rfl, rfl⟩ | ⟨rfl, rfl⟩
    · exact .int _ _
    · exact .int _ _)
  simpa using this
theorem decode_meets (t : List UInt8) (ht : t.length ≤ maxLen) : Meets Try.prog 53 [.str (BA t)] [] (.tup [.agg (cE (decOut t).1), .int .i64 (decOut t).2.1, .int .i64 (decOut t).2.2]) [] := by
  intro x vs hx hr hp
  obtain ⟨hlen, hp0⟩ := hp
  have hvs : vs = #[.string (BA t)] := by
    cases vs with
    | mk l =>
      match l, hlen with
      | [v], _ =>
        have := hp0 0 _ v rfl rfl
        rw [this.str_inv]
  subst hvs
  refine (decode_calls t x.w0 ht).mono fun e w' ⟨lv, he, hb, ho⟩ => ?_
  subst he
  have hstep : Step x.w0 w' fun _ => False := ⟨hb.size, hb.os, hb.tape, hb.output, fun b h _ => hb.block b h⟩
  obtain ⟨k1, -, -⟩ := hr.grow hstep
  refine ⟨_, x.C0, rfl, k1, ?_⟩
  have hS : ∀ b o, x.w0.heap.size ≤ b → b < w'.heap.size → Stab x x.C0 [] w' b o := fun b o h1 h2 => ⟨.inr (.inl h1), h2, fun id ob h => by simp at h⟩
  have hl := ids_rep (T := Stab x x.C0 [] w') (ids_of_own ho) hS
  have hone : ∃ a c, lv = .slice a (decOut t).1.ls.length c := own_form ho
  refine .tup _ [_, _, _] rfl fun j p u hj hu => ?_
  match j, hj, hu with
  | 0, hj, hu =>
    simp at hj hu
    subst hj; subst hu
    refine .agg (cE (decOut t).1) [_, _, _, _, lv] rfl (fun j y hy => ?_) fun j p y hp hy => ?_
    · obtain ⟨a, c, rfl⟩ := hone
      match j, hy with
      | 0, hy => simp at hy; subst hy; rfl
      | 1, hy => simp at hy; subst hy; rfl
      | 2, hy => simp at hy; subst hy; rfl
      | 3, hy => simp at hy; subst hy; rfl
      | 4, hy => simp at hy; subst hy; rfl
      | j + 5, hy => simp at hy
    · match j, hp, hy with
      | 0, hp, hy => simp [cE] at hp hy; subst hp; subst hy; exact .pure (.int _ _)
      | 1, hp, hy => simp [cE] at hp hy; subst hp; subst hy; exact .pure (.int _ _)
      | 2, hp, hy => simp [cE] at hp hy; subst hp; subst hy; exact .pure (.int _ _)
      | 3, hp, hy => simp [cE] at hp hy; subst hp; subst hy; exact .pure (.str _)
      | 4, hp, hy => simp [cE] at hp hy; subst hp; subst hy; exact .pure hl
      | j + 5, hp, hy => simp at hy
  | 1, hj, hu => simp at hj hu; subst hj; subst hu; exact .pure (.int _ _)
  | 2, hj, hu => simp at hj hu; subst hj; subst hu; exact .pure (.int _ _)
  | j + 3, hj, hu => simp at hu
end Go.Proofs.Ytkibfciheifphaa
/- packet.Decode: one round of its loop. -/
namespace Go.Proofs.Ytkibfciheifphaa
set_option linter.unusedSimpArgs false
set_option linter.unusedVariables false
open Go.RowKit
def hP (c : Int) (v : Nat) (r : List UInt8) (es : List Entry) : List AObj := [.box [.nilsl], .box [.int .i64 c], .box [.arr 4 v], .box [.str (BA r)], .arr v true false 44 5 (es.map cE)]
def lcA : LC := .seq (.reg none [⟨some 5, .alloc [.int .i64 0, .int .i64 0, .int .i64 0, .str ⟨#[]⟩, .nilsl], none, true⟩, ⟨none, .store 5 (.tmp 5) (.tmp 9), none, true⟩]) (.reg none [⟨some 6, .mv (.tmp 10), none, true⟩])
def lcB : LC := .block 1 (.seq (.block 2 (.seq (.reg none [⟨some 12, .mv (.tmp 6), none, true⟩, ⟨some 13, .not (.tmp 12), none, true⟩, ⟨some 11, .mv (.tmp 13), none, true⟩]) (.cond (.tmp 11) (.seq (.reg none [⟨none, .store 1 (.tmp 2) (.val .nilsl), none, true⟩, ⟨none, .store 1 (.tmp 3) (.val (.int .i64 1)), none, true⟩]) .ret)
  (.seq (.reg none [⟨some 15, .load 1 false (.tmp 4), none, true⟩, ⟨some 16, .len false (.tmp 15), none, true⟩, ⟨some 17, .bin .eql (.tmp 16) (.val (.int .i64 40)), none, true⟩, ⟨some 14, .mv (.tmp 17), none, true⟩]) (.cond (.tmp 14) (.seq (.reg none [⟨none, .store 1 (.tmp 2) (.val .nilsl), none, true⟩, ⟨none, .store 1 (.tmp 3) (.val (.int .i64 2)), none, true⟩]) .ret) .skip)))))
  (.reg none [⟨some 18, .load 1 false (.tmp 4), none, true⟩, ⟨some 19, .load 5 true (.tmp 5), none, true⟩, ⟨some 20, .mks 5 [.int .i64 0, .int .i64 0, .int .i64 0, .str ⟨#[]⟩, .nilsl] 1 [(0, .tmp 19)], none, true⟩, ⟨some 21, .append 44 5 64 (.tmp 18) (.tmp 20), none, true⟩, ⟨none, .store 1 (.tmp 4) (.tmp 21), none, true⟩]))
def rcOf (fn : Nat) (tm : Array Value) (cA cB : Code) (D : Nat) (s : LoopState) (p : Option Code) : Loop := { state := s, pending := p, fn, tmps := tm, params := #[9, 10], assign := cA, body := cB, defers := D }
structure Rnd (x : Cx) (B : Nat → Nat) (L D : Nat) (rc : Loop) (c : Int) (r : List UInt8) (es : List Entry) (w : World) : Prop where
  len : es.length ≤ 40
  ex : ∃ C v, HR x C (hP c v r es) w ∧ ∀ i, i < 4 → C.blk i = B i
  L : w.heap[L]? = some (.loop rc)
  D : w.heap[D]? = some (.deferred (some []))
theorem getD_set {tm : Array Value} {k t : Nat} {v : Value} (h : k < tm.size) : (tm.setIfInBounds k v).getD t Go.undef = if t = k then v else tm.getD t Go.undef := by
  by_cases e : t = k
  · subst e; simp [Array.getD, h]
  · rw [if_neg e]
    simp only [Array.getD, Array.size_setIfInBounds]
    split
    · simp only [Array.getInternal_eq_getElem]
      rw [Array.getElem_setIfInBounds_ne _ (Ne.symm e)]
    · rfl
section
variable {x : Cx} {n l : Nat}
def stA0 (b : Bool) (e : Entry) (v : Nat) (r : List UInt8) (es : List Entry) : St := ⟨mkE .top [(10, .bool b), (9, .agg (cE e)), (4, .ptr 2 0), (3, .ptr 1 0), (2, .ptr 0 0)], hP 0 v r es⟩
def stB0 (b : Bool) (e : Entry) (v : Nat) (r : List UInt8) (es : List Entry) : St := ⟨mkE .top [(6, .bool b), (5, .ptr 5 0), (4, .ptr 2 0), (3, .ptr 1 0), (2, .ptr 0 0)], hP 0 v r es ++ [.box (cE e)]⟩
theorem assign_walk (b : Bool) (e : Entry) (v : Nat) (r : List UInt8) (es : List Entry) : WR Try.prog x 23 l n lcA (fun q st => q = .normal ∧ st.heap = hP 0 v r es ++ [.box (cE e)] ∧ st.env 2 = .ptr 0 0 ∧ st.env 3 = .ptr 1 0 ∧ st.env 4 = .ptr 2 0 ∧ st.env 5 = .ptr 5 0 ∧ st.env 6 = .bool b) (stA0 b e v r es) := by
  unfold lcA stA0
  refine WR_seq (WR_reg ?_)
  simp only [go_sem, Nat.reduceLT, Nat.reduceAdd, Nat.reduceEqDiff, Nat.reduceLeDiff, Nat.reduceSub, Nat.reduceMul, Int.reduceEq, eq_self, reduceIte, hP, cE]
  refine WR_reg ?_
  simp only [go_sem, Nat.reduceLT, Nat.reduceAdd, Nat.reduceEqDiff, Nat.reduceLeDiff, Nat.reduceSub, Nat.reduceMul, Int.reduceEq, eq_self, reduceIte]
theorem body_no (e : Entry) (v : Nat) (r : List UInt8) (es : List Entry) : WR Try.prog x 23 l n lcB (fun q st => q = .ret ∧ st.heap = hP 1 v r es ++ [.box (cE e)]) (stB0 false e v r es) := by
  unfold lcB stB0
  refine WR_block (WR_seq (WR_block (WR_seq (WR_reg ?_))))
  simp only [go_sem, Nat.reduceLT, Nat.reduceAdd, Nat.reduceEqDiff, Nat.reduceLeDiff, Nat.reduceSub, Nat.reduceMul, Int.reduceEq, eq_self, reduceIte, hP, cE]
  refine WR_cond (b := true) (by simp [go_sem, Nat.reduceLT, Nat.reduceAdd, Nat.reduceEqDiff, Nat.reduceLeDiff, Nat.reduceSub, Nat.reduceMul, Int.reduceEq, eq_self, reduceIte]) (fun _ => ?_) (fun h => by cases h)
  refine WR_seq (WR_reg ?_)
  simp only [go_sem, Nat.reduceLT, Nat.reduceAdd, Nat.reduceEqDiff, Nat.reduceLeDiff, Nat.reduceSub, Nat.reduceMul, Int.reduceEq, eq_self, reduceIte]
  refine WR_ret ?_
  exact ⟨rfl, rfl⟩
theorem body_many (e : Entry) (v : Nat) (r : List UInt8) (es : List Entry) (h : es.length = 40) : WR Try.prog x 23 l n lcB (fun q st => q = .ret ∧ st.heap = hP 2 v r es ++ [.box (cE e)]) (stB0 true e v r es) := by
  have h' : (es.length : Int) = 40 := by omega
  unfold lcB stB0
  refine WR_block (WR_seq (WR_block (WR_seq (WR_reg ?_))))
  simp only [go_sem, Nat.reduceLT, Nat.reduceAdd, Nat.reduceEqDiff, Nat.reduceLeDiff, Nat.reduceSub, Nat.reduceMul, Int.reduceEq, eq_self, reduceIte, hP, cE]
  refine WR_cond (b := false) (by simp [go_sem, Nat.reduceLT, Nat.reduceAdd, Nat.reduceEqDiff, Nat.reduceLeDiff, Nat.reduceSub, Nat.reduceMul, Int.reduceEq, eq_self, reduceIte]) (fun h => by cases h) (fun _ => ?_)
  refine WR_seq (WR_reg ?_)
  simp only [go_sem, Nat.reduceLT, Nat.reduceAdd, Nat.reduceEqDiff, Nat.reduceLeDiff, Nat.reduceSub, Nat.reduceMul, Int.reduceEq, eq_self, reduceIte, h']
  refine WR_cond (b := true) (by simp [go_sem, Nat.reduceLT, Nat.reduceAdd, Nat.reduceEqDiff, Nat.reduceLeDiff, Nat.reduceSub, Nat.reduceMul, Int.reduceEq, eq_self, reduceIte]) (fun _ => ?_) (fun h => by cases h)
  refine WR_seq (WR_reg ?_)
  simp only [go_sem, Nat.reduceLT, Nat.reduceAdd, Nat.reduceEqDiff, Nat.reduceLeDiff, Nat.reduceSub, Nat.reduceMul, Int.reduceEq, eq_self, reduceIte]
  refine WR_ret ?_
  exact ⟨rfl, rfl⟩
theorem body_ok (e : Entry) (v : Nat) (r : List UInt8) (es : List Entry) (h : es.length ≠ 40) (hl : es.length ≤ 40) : WR Try.prog x 23 l n lcB (fun q st => q = .normal ∧ st.heap = hP 0 (v + 1) r (es ++ [e]) ++ [.box (cE e)]) (stB0 true e v r es) := by
  have h' : ¬ (es.length : Int) = 40 := by omega
  unfold lcB stB0
  refine WR_block (WR_seq (WR_block (WR_seq (WR_reg ?_))))
  simp only [go_sem, Nat.reduceLT, Nat.reduceAdd, Nat.reduceEqDiff, Nat.reduceLeDiff, Nat.reduceSub, Nat.reduceMul, Int.reduceEq, eq_self, reduceIte, hP, cE]
  refine WR_cond (b := false) (by simp [go_sem, Nat.reduceLT, Nat.reduceAdd, Nat.reduceEqDiff, Nat.reduceLeDiff, Nat.reduceSub, Nat.reduceMul, Int.reduceEq, eq_self, reduceIte]) (fun h => by cases h) (fun _ => ?_)
  refine WR_seq (WR_reg ?_)
  simp only [go_sem, Nat.reduceLT, Nat.reduceAdd, Nat.reduceEqDiff, Nat.reduceLeDiff, Nat.reduceSub, Nat.reduceMul, Int.reduceEq, eq_self, reduceIte, h']
  refine WR_cond (b := false) (by simp [go_sem, Nat.reduceLT, Nat.reduceAdd, Nat.reduceEqDiff, Nat.reduceLeDiff, Nat.reduceSub, Nat.reduceMul, Int.reduceEq, eq_self, reduceIte]) (fun h => by cases h) (fun _ => ?_)
  refine WR_skip ?_
  refine WR_reg ?_
  simp only [go_sem, Nat.reduceLT, Nat.reduceAdd, Nat.reduceEqDiff, Nat.reduceLeDiff, Nat.reduceSub, Nat.reduceMul, Int.reduceEq, eq_self, reduceIte]
  rw [app_arr rfl rfl (by simp) (by simp; omega)]
  simp only [go_sem, Nat.reduceLT, Nat.reduceAdd, Nat.reduceEqDiff, Nat.reduceLeDiff, Nat.reduceSub, Nat.reduceMul, Int.reduceEq, eq_self, reduceIte]
  simp [cE]
end
end Go.Proofs.Ytkibfciheifphaa
/- packet.Decode: a round, as yield answers it. -/
namespace Go.Proofs.Ytkibfciheifphaa
open Go.RowKit
section
variable {x : Cx} {n : Nat} {B : Nat → Nat} {L D fn : Nat} {tm : Array Value} {cA cB : Code}
theorem Rnd.back (hx : x.H0 = []) {C : Conc} {w : World} {c : Int} {v : Nat} {r : List UInt8} {es : List Entry} {e : Entry} (hr : HR x C (hP c v r es ++ [.box (cE e)]) w) (hb : ∀ i, i < 4 → C.blk i = B i) : ∃ C v, HR x C (hP c v r es) w ∧ ∀ i, i < 4 → C.blk i = B i := by
  obtain ⟨k1, -⟩ := hr.restrict (ks := List.range 5) List.nodup_range (fun k hk => by have := List.mem_range.1 hk; simp [hP]; omega) (fun i hi => by rw [hx] at hi; simp at hi)
  have hs : subHeap (pos (List.range 5)) (frzAt true (hP c v r es ++ [.box (cE e)])) (hP c v r es ++ [.box (cE e)]) (List.range 5) = hP c v r es := by
    simp [subHeap, renObj, renCell, renLeaf, pos, List.range_succ, hP]
  rw [hs] at k1
  refine ⟨_, v, k1, fun i hi => ?_⟩
  show C.blk ((List.range 5).getD i 0) = B i
  rw [show (List.range 5).getD i 0 = i by rw [getD_of (List.getElem?_range (by omega))]]
  exact hb i hi
theorem round_in (hx : x.H0 = []) (hA : lowerCode Try.prog 23 cA = some lcA) (hB : lowerCode Try.prog 23 cB = some lcB) (htm : tm.size = 23)
    (h2 : tm.getD 2 Go.undef = .pointer (some ⟨B 0, 0, none⟩)) (h3 : tm.getD 3 Go.undef = .pointer (some ⟨B 1, 0, none⟩)) (h4 : tm.getD 4 Go.undef = .pointer (some ⟨B 2, 0, none⟩)) (hL : x.w0.heap.size ≤ L)
    {r : List UInt8} {es : List Entry} {w : World} {C : Conc} {v : Nat} (hle : es.length ≤ 40) (hr : HR x C (hP 0 v r es) w) (hb : ∀ i, i < 4 → C.blk i = B i) (hLw : w.heap[L]? = some (.loop (rcOf fn tm cA cB D .ready none))) (hDw : w.heap[D]? = some (.deferred (some []))) {e : Entry} {b : Bool} {ve : Value}
    (hve : RepV (Stab x C (hP 0 v r es) w) w C (.agg (cE e)) ve) :
    RoundIn Fence.wide n Try.prog L fn ((tm.setIfInBounds 9 ve).setIfInBounds 10 (.bool b)) cA cB w (fun en w' => (en = .returned (.bool true) ∧ b = true ∧ es.length ≠ 40 ∧ Rnd x B L D (rcOf fn tm cA cB D .ready none) 0 r (es ++ [e]) w') ∨
      (en = .returned (.bool false) ∧ ∃ c : Int, ((b = false ∧ c = 1) ∨ (b = true ∧ es.length = 40 ∧ c = 2)) ∧ Rnd x B L D (rcOf fn tm cA cB D .done (some .ret)) c r es w')) := by
  have hLD : D ≠ L := fun h => by rw [h, hLw] at hDw; cases hDw
  have hLlt : L < w.heap.size := (Array.getElem?_eq_some_iff.1 hLw).1
  have hDlt : D < w.heap.size := (Array.getElem?_eq_some_iff.1 hDw).1
  have hn : C.n = 5 := hr.n
  obtain ⟨hr1, hm1⟩ := hr.root
  have hrel : Rel (rootCx x C (hP 0 v r es) w) 23 (stA0 b e v r es) { tmps := (tm.setIfInBounds 9 ve).setIfInBounds 10 (.bool b), defers := [] } w := by
    refine ⟨⟨C, hr1, fun t => ?_⟩, rfl, by simp [htm]⟩
    simp only [stA0, mkE]
    rw [getD_set (by simp [htm]), getD_set (by simp [htm])]
    by_cases t10 : 10 = t
    · rw [if_pos t10, if_pos t10.symm]; exact .pure (.bool b)
    · rw [if_neg t10, if_neg (Ne.symm t10)]
      by_cases t9 : 9 = t
      · rw [if_pos t9, if_pos t9.symm]; exact hm1 _ _ hve
      · rw [if_neg t9, if_neg (Ne.symm t9)]
        by_cases t4 : 4 = t
        · rw [if_pos t4, ← t4, h4, ← hb 2 (by omega)]; exact .ptr 2 0 (by omega)
        · rw [if_neg t4]
          by_cases t3 : 3 = t
          · rw [if_pos t3, ← t3, h3, ← hb 1 (by omega)]; exact .ptr 1 0 (by omega)
          · rw [if_neg t3]
            by_cases t2 : 2 = t
            · rw [if_pos t2, ← t2, h2, ← hb 0 (by omega)]; exact .ptr 0 0 (by omega)
            · rw [if_neg t2]; exact .any
  refine roundIn_of_wpIn trivial (wpIn_mono (assign_walk (l := L) (n := n) b e v r es cA hA _ _ hrel) fun q a1 w1 hq => ?_)
  cases q <;> simp only [postOf] at hq
  case normal =>
    obtain ⟨st1, ⟨-, q1, q2, q3, q4, q5, q6⟩, ⟨C1, hr2, he1⟩, hdf1, hsz1⟩ := hq
    have ids1 : ∀ i, i < 5 → C1.blk i = C.blk i := fun i hi => hr2.ids i hi
    rw [q1] at hr2 he1
    obtain ⟨hr3, hm3, hf3⟩ := hr.unroot hr2
    have hL1 : w1.heap[L]? = some (.loop (rcOf fn tm cA cB D .ready none)) := (hf3 L hLlt fun i ob hi => hr.notHeld (fun cs T f h => by rw [hLw] at h; cases h) hi).trans hLw
    have hD1 : w1.heap[D]? = some (.deferred (some [])) := (hf3 D hDlt fun i ob hi => hr.notHeld (fun cs T f h => by rw [hDw] at h; cases h) hi).trans hDw
    refine ⟨_, run_beginRound hL1 rfl, ?_⟩
    obtain ⟨hr4, hm4⟩ := hr3.loop (r' := { rcOf fn tm cA cB D .ready none with state := .busy }) hL1 hL
    have hL1lt : L < w1.heap.size := (Array.getElem?_eq_some_iff.1 hL1).1
    have hL2 : (w1.putObj L (.loop { rcOf fn tm cA cB D .ready none with state := .busy })).heap[L]? = some (.loop { rcOf fn tm cA cB D .ready none with state := .busy }) := World.putObj_heap_same hL1lt
    have hD2 : (w1.putObj L (.loop { rcOf fn tm cA cB D .ready none with state := .busy })).heap[D]? = some (.deferred (some [])) := (World.putObj_heap_other hLD).trans hD1
    generalize w1.putObj L (.loop { rcOf fn tm cA cB D .ready none with state := .busy }) = w2 at *
    obtain ⟨hr5, hm5⟩ := hr4.root
    have hL2lt : L < w2.heap.size := (Array.getElem?_eq_some_iff.1 hL2).1
    have hD2lt : D < w2.heap.size := (Array.getElem?_eq_some_iff.1 hD2).1
    have hrel2 : Rel (rootCx x C1 (hP 0 v r es ++ [.box (cE e)]) w2) 23 (stB0 b e v r es) a1 w2 := by
      refine ⟨⟨C1, hr5, fun t => ?_⟩, hdf1, hsz1⟩
      have tr : ∀ p u, RepV (Stab (rootCx x C (hP 0 v r es) w) C1 (hP 0 v r es ++ [.box (cE e)]) w1) w1 C1 p u → RepV (Stab (rootCx x C1 (hP 0 v r es ++ [.box (cE e)]) w2) C1 (hP 0 v r es ++ [.box (cE e)]) w2) w2 C1 p u := fun p u h => hm5 _ _ (hm4 _ _ (hm3 _ _ h))
      simp only [stB0, mkE]
      by_cases t6 : 6 = t
      · rw [if_pos t6, ← t6]; have := he1 6; rw [q6] at this; exact tr _ _ this
      · rw [if_neg t6]
        by_cases t5 : 5 = t
        · rw [if_pos t5, ← t5]; have := he1 5; rw [q5] at this; exact tr _ _ this
        · rw [if_neg t5]
          by_cases t4 : 4 = t
          · rw [if_pos t4, ← t4]; have := he1 4; rw [q4] at this; exact tr _ _ this
          · rw [if_neg t4]
            by_cases t3 : 3 = t
            · rw [if_pos t3, ← t3]; have := he1 3; rw [q3] at this; exact tr _ _ this
            · rw [if_neg t3]
              by_cases t2 : 2 = t
              · rw [if_pos t2, ← t2]; have := he1 2; rw [q2] at this; exact tr _ _ this
              · rw [if_neg t2]; exact .any
    have fin : ∀ {c : Int} {v' : Nat} {es' : List Entry} {a3 : Act} {w3 : World} {st3 : St} (jump : Option Code), st3.heap = hP c v' r es' ++ [.box (cE e)] → es'.length ≤ 40 → Rel (rootCx x C1 (hP 0 v r es ++ [.box (cE e)]) w2) 23 st3 a3 w3 →
        ∃ w4, (Instr.endRound L jump).run Try.prog w3 = .ok (.bool jump.isNone) w4 ∧ Rnd x B L D (rcOf fn tm cA cB D (if jump.isNone then .ready else .done) jump) c r es' w4 := by
      intro c v' es' a3 w3 st3 jump hst hlen ⟨⟨C5, hr6, _⟩, _, _⟩
      have ids5 : ∀ i, i < 6 → C5.blk i = C1.blk i := fun i hi => hr6.ids i hi
      rw [hst] at hr6
      obtain ⟨hr7, -, hf7⟩ := hr4.unroot hr6
      have hL3 : w3.heap[L]? = some (.loop { rcOf fn tm cA cB D .ready none with state := .busy }) := (hf7 L hL2lt fun i ob hi => hr4.notHeld (fun cs T f h => by rw [hL2] at h; cases h) hi).trans hL2
      have hD3 : w3.heap[D]? = some (.deferred (some [])) := (hf7 D hD2lt fun i ob hi => hr4.notHeld (fun cs T f h => by rw [hD2] at h; cases h) hi).trans hD2
      have hL3lt : L < w3.heap.size := (Array.getElem?_eq_some_iff.1 hL3).1
      obtain ⟨hr8, -⟩ := hr7.loop (r' := rcOf fn tm cA cB D (if jump.isNone then .ready else .done) jump) hL3 hL
      refine ⟨_, run_endRound jump hL3, hlen, Rnd.back hx hr8 (fun i hi => by rw [ids5 i (by omega), ids1 i (by omega), hb i hi]), World.putObj_heap_same hL3lt, (World.putObj_heap_other hLD).trans hD3⟩
    cases b with
    | false =>
      refine wpIn_mono (body_no (l := L) (n := n) e v r es cB hB _ _ hrel2) fun q a3 w3 hq => ?_
      cases q <;> simp only [postOf] at hq
      case ret =>
        obtain ⟨st3, ⟨-, hst⟩, hrel3⟩ := hq
        obtain ⟨w4, g1, g2⟩ := fin (some .ret) hst hle hrel3
        exact ⟨_, w4, g1, .inr ⟨rfl, 1, .inl ⟨rfl, rfl⟩, g2⟩⟩
      all_goals first | exact hq.elim | (obtain ⟨_, ⟨h, _⟩, _⟩ := hq; cases h)
    | true =>
      by_cases h40 : es.length = 40
      · refine wpIn_mono (body_many (l := L) (n := n) e v r es h40 cB hB _ _ hrel2) fun q a3 w3 hq => ?_
        cases q <;> simp only [postOf] at hq
        case ret =>
          obtain ⟨st3, ⟨-, hst⟩, hrel3⟩ := hq
          obtain ⟨w4, g1, g2⟩ := fin (some .ret) hst hle hrel3
          exact ⟨_, w4, g1, .inr ⟨rfl, 2, .inr ⟨rfl, h40, rfl⟩, g2⟩⟩
        all_goals first | exact hq.elim | (obtain ⟨_, ⟨h, _⟩, _⟩ := hq; cases h)
      · refine wpIn_mono (body_ok (l := L) (n := n) e v r es h40 hle cB hB _ _ hrel2) fun q a3 w3 hq => ?_
        cases q <;> simp only [postOf] at hq
        case normal =>
          obtain ⟨st3, ⟨-, hst⟩, hrel3⟩ := hq
          obtain ⟨w4, g1, g2⟩ := fin none hst (by simp; omega) hrel3
          exact ⟨_, w4, g1, .inl ⟨rfl, rfl, h40, g2⟩⟩
        all_goals first | exact hq.elim | (obtain ⟨_, ⟨h, _⟩, _⟩ := hq; cases h)
  all_goals first | exact hq.elim | (obtain ⟨_, ⟨h, _⟩, _⟩ := hq; cases h)
end
end Go.Proofs.Ytkibfciheifphaa
/- What is wrong with an entry, in the law text's words: a contract. -/
namespace Go.Proofs.Ytkibfciheifphaa
set_option linter.unusedSimpArgs false
set_option linter.unusedVariables false
open Go.RowKit
theorem checkEntry_meets (e : Entry) : Meets Try.prog 31 [.agg (cE e)] [] (.int .i64 (checkEntry e)) [] := by
  refine Meets.len2 0 4 rfl (by simp [cE]; rfl) fun hm => ?_
  have hm' : e.ls.length ≤ 9223372036854775807 := by simp [maxLen] at hm; omega
  refine Meets.of_walk Try.func31 Try.ntmps31 low31 res31 (by simp) fun x hx => ?_
  simp only [go_sem, Nat.reduceLT, Nat.reduceAdd, Nat.reduceEqDiff, Nat.reduceLeDiff, Nat.reduceSub, Nat.reduceMul, Int.reduceEq, eq_self, reduceIte, L31, R31, cE]
  refine ops_call (.pure (isId_meets e.id)) ?_
  cases h1 : okId e.id
  · simp only [go_sem, Nat.reduceLT, Nat.reduceAdd, Nat.reduceEqDiff, Nat.reduceLeDiff, Nat.reduceSub, Nat.reduceMul, Int.reduceEq, eq_self, reduceIte]
    refine ret_pure hx ?_
    simp [go_sem, Nat.reduceLT, Nat.reduceAdd, Nat.reduceEqDiff, Nat.reduceLeDiff, Nat.reduceSub, Nat.reduceMul, Int.reduceEq, eq_self, reduceIte, L31, R31, checkEntry, h1]
  simp only [go_sem, Nat.reduceLT, Nat.reduceAdd, Nat.reduceEqDiff, Nat.reduceLeDiff, Nat.reduceSub, Nat.reduceMul, Int.reduceEq, eq_self, reduceIte]
  refine ops_call (.pure (between_meets _ _ _)) ?_
  cases h2 : wthn e.c 1 7
  · simp only [go_sem, Nat.reduceLT, Nat.reduceAdd, Nat.reduceEqDiff, Nat.reduceLeDiff, Nat.reduceSub, Nat.reduceMul, Int.reduceEq, eq_self, reduceIte]
    refine ret_pure hx ?_
    simp [go_sem, Nat.reduceLT, Nat.reduceAdd, Nat.reduceEqDiff, Nat.reduceLeDiff, Nat.reduceSub, Nat.reduceMul, Int.reduceEq, eq_self, reduceIte, L31, R31, checkEntry, h1, h2]
  by_cases h3 : 12 < e.t.size
  · have h3' : decide ((12 : Int) < e.t.size) = true := by simp; omega
    simp only [go_sem, Nat.reduceLT, Nat.reduceAdd, Nat.reduceEqDiff, Nat.reduceLeDiff, Nat.reduceSub, Nat.reduceMul, Int.reduceEq, eq_self, reduceIte, h3']
    refine ret_pure hx ?_
    simp [go_sem, Nat.reduceLT, Nat.reduceAdd, Nat.reduceEqDiff, Nat.reduceLeDiff, Nat.reduceSub, Nat.reduceMul, Int.reduceEq, eq_self, reduceIte, L31, R31, checkEntry, h1, h2, h3]
  have h3' : decide ((12 : Int) < e.t.size) = false := by simp; omega
  by_cases h4 : 6 < e.ls.length
  · have h4' : decide ((6 : Int) < (e.ls.length : Nat)) = true := by simp; omega
    simp only [go_sem, Nat.reduceLT, Nat.reduceAdd, Nat.reduceEqDiff, Nat.reduceLeDiff, Nat.reduceSub, Nat.reduceMul, Int.reduceEq, eq_self, reduceIte, h3', h4']
    refine ret_pure hx ?_
    simp [go_sem, Nat.reduceLT, Nat.reduceAdd, Nat.reduceEqDiff, Nat.reduceLeDiff, Nat.reduceSub, Nat.reduceMul, Int.reduceEq, eq_self, reduceIte, L31, R31, checkEntry, h1, h2, h3, h4]
  have h4' : decide ((6 : Int) < (e.ls.length : Nat)) = false := by simp; omega
  have hc : checkEntry e = firstNZ (linkErr e.id e.ls) e.ls.length := by simp [checkEntry, h1, h2, h3, h4]
  simp only [go_sem, Nat.reduceLT, Nat.reduceAdd, Nat.reduceEqDiff, Nat.reduceLeDiff, Nat.reduceSub, Nat.reduceMul, Int.reduceEq, eq_self, reduceIte, h3', h4', hc]
  refine loop_inv [1, 3] 1 (fun n st => ∃ k : Nat, k + n = e.ls.length ∧ firstNZ (linkErr e.id e.ls) k = 0 ∧
    st = ⟨mkE .top [(1, .ptr 0 0), (3, .int .i64 k)], [.box (cE e)]⟩) e.ls.length (by simp [hx]) (by simp) ?_ ?_
  · refine ⟨0, by omega, rfl, ?_⟩
    simp [trim_mk, go_sem, Nat.reduceLT, Nat.reduceAdd, Nat.reduceEqDiff, Nat.reduceLeDiff, Nat.reduceSub, Nat.reduceMul, Int.reduceEq, eq_self, reduceIte, subHeap, renObj, pos, List.range_succ, cE]
  · rintro n st ⟨k, hk, hz, rfl⟩
    simp only [go_sem, Nat.reduceLT, Nat.reduceAdd, Nat.reduceEqDiff, Nat.reduceLeDiff, Nat.reduceSub, Nat.reduceMul, Int.reduceEq, eq_self, reduceIte, cE]
    by_cases hlt : k < e.ls.length
    · have hg : e.ls[k]? = some (nth e.ls k) := nth_get? _ _ hlt
      have w1 := i64_up (k := k) (by omega)
      simp only [go_sem, Nat.reduceLT, Nat.reduceAdd, Nat.reduceEqDiff, Nat.reduceLeDiff, Nat.reduceSub, Nat.reduceMul, Int.reduceEq, eq_self, reduceIte, hlt, hg, cId]
      refine ops_call (.pure (isId_meets (nth e.ls k))) ?_
      cases h5 : okId (nth e.ls k)
      · simp only [go_sem, Nat.reduceLT, Nat.reduceAdd, Nat.reduceEqDiff, Nat.reduceLeDiff, Nat.reduceSub, Nat.reduceMul, Int.reduceEq, eq_self, reduceIte]
        refine ret_pure hx ?_
        have : linkErr e.id e.ls k = 3 := by simp [linkErr, h5]
        simp only [go_sem, Nat.reduceLT, Nat.reduceAdd, Nat.reduceEqDiff, Nat.reduceLeDiff, Nat.reduceSub, Nat.reduceMul, Int.reduceEq, eq_self, reduceIte, hc, firstNZ_hit hz (by rw [this]; decide) hlt, this]
      have fin : ∀ r : Int, linkErr e.id e.ls k = r → r ≠ 0 → firstNZ (linkErr e.id e.ls) e.ls.length = r := fun r h1 h2 => by rw [firstNZ_hit hz (by rw [h1]; exact h2) hlt, h1]
      by_cases h0 : 0 < k
      · have hg1 : e.ls[k - 1]? = some (nth e.ls (k - 1)) := nth_get? _ _ (by omega)
        have e1 : IntKind.i64.wrap ((k : Int) - 1) = ((k - 1 : Nat) : Int) := by rw [IntWalk.i64_in _ (by omega)]; omega
        have d0 : decide ((0 : Int) < (k : Int)) = true := by simp; omega
        have hlt1 : k - 1 < e.ls.length := by omega
        simp only [go_sem, Nat.reduceLT, Nat.reduceAdd, Nat.reduceEqDiff, Nat.reduceLeDiff, Nat.reduceSub, Nat.reduceMul, Int.reduceEq, eq_self, reduceIte, d0, hlt, hlt1, hg, hg1, e1, cId]
        refine ops_call (.pure (isAhead_meets (nth e.ls (k - 1)) (nth e.ls k))) ?_
        cases hl : lessB (nth e.ls (k - 1)) (nth e.ls k)
        · simp only [go_sem, Nat.reduceLT, Nat.reduceAdd, Nat.reduceEqDiff, Nat.reduceLeDiff, Nat.reduceSub, Nat.reduceMul, Int.reduceEq, eq_self, reduceIte, hlt, hg, cId]
          refine ret_pure hx ?_
          have : linkErr e.id e.ls k = 4 := by simp [linkErr, h5, h0, hl]
          simp only [go_sem, Nat.reduceLT, Nat.reduceAdd, Nat.reduceEqDiff, Nat.reduceLeDiff, Nat.reduceSub, Nat.reduceMul, Int.reduceEq, eq_self, reduceIte, fin _ this (by decide)]
        · by_cases h7 : (nth e.ls k).r = e.id.r <;> by_cases h8 : e.id.n ≤ (nth e.ls k).n <;> simp only [go_sem, Nat.reduceLT, Nat.reduceAdd, Nat.reduceEqDiff, Nat.reduceLeDiff, Nat.reduceSub, Nat.reduceMul, Int.reduceEq, eq_self, reduceIte, hlt, hg, cId, h7, h8]
          · refine ret_pure hx ?_
            have : linkErr e.id e.ls k = 4 := by simp [linkErr, h5, hl, h7, h8]
            simp only [go_sem, Nat.reduceLT, Nat.reduceAdd, Nat.reduceEqDiff, Nat.reduceLeDiff, Nat.reduceSub, Nat.reduceMul, Int.reduceEq, eq_self, reduceIte, fin _ this (by decide)]
          all_goals
            have : linkErr e.id e.ls k = 0 := by simp [linkErr, h5, hl, h7, h8]
            refine ⟨by simp, n - 1, by omega, k + 1, by omega, firstNZ_succ hz this, ?_⟩
            simp [trim_mk, go_sem, Nat.reduceLT, Nat.reduceAdd, Nat.reduceEqDiff, Nat.reduceLeDiff, Nat.reduceSub, Nat.reduceMul, Int.reduceEq, eq_self, reduceIte, subHeap, renObj, pos, List.range_succ, cE, w1]
      · have d0 : decide ((0 : Int) < (k : Int)) = false := by simp; omega
        by_cases h7 : (nth e.ls k).r = e.id.r <;> by_cases h8 : e.id.n ≤ (nth e.ls k).n <;> simp only [go_sem, Nat.reduceLT, Nat.reduceAdd, Nat.reduceEqDiff, Nat.reduceLeDiff, Nat.reduceSub, Nat.reduceMul, Int.reduceEq, eq_self, reduceIte, d0, hlt, hg, cId, h7, h8]
        · refine ret_pure hx ?_
          have : linkErr e.id e.ls k = 4 := by simp [linkErr, h5, h0, h7, h8]
          simp only [go_sem, Nat.reduceLT, Nat.reduceAdd, Nat.reduceEqDiff, Nat.reduceLeDiff, Nat.reduceSub, Nat.reduceMul, Int.reduceEq, eq_self, reduceIte, fin _ this (by decide)]
        all_goals
          have : linkErr e.id e.ls k = 0 := by simp [linkErr, h5, h0, h7, h8]
          refine ⟨by simp, n - 1, by omega, k + 1, by omega, firstNZ_succ hz this, ?_⟩
          simp [trim_mk, go_sem, Nat.reduceLT, Nat.reduceAdd, Nat.reduceEqDiff, Nat.reduceLeDiff, Nat.reduceSub, Nat.reduceMul, Int.reduceEq, eq_self, reduceIte, subHeap, renObj, pos, List.range_succ, cE, w1]
    · simp only [go_sem, Nat.reduceLT, Nat.reduceAdd, Nat.reduceEqDiff, Nat.reduceLeDiff, Nat.reduceSub, Nat.reduceMul, Int.reduceEq, eq_self, reduceIte, hlt]
      refine ret_pure hx ?_
      simp only [go_sem, Nat.reduceLT, Nat.reduceAdd, Nat.reduceEqDiff, Nat.reduceLeDiff, Nat.reduceSub, Nat.reduceMul, Int.reduceEq, eq_self, reduceIte]
      first | rw [hc, show e.ls.length = k by omega, hz] | rw [show e.ls.length = k by omega, hz]
end Go.Proofs.Ytkibfciheifphaa
/- An entry out of bytes, in the law text's words: a contract. -/
namespace Go.Proofs.Ytkibfciheifphaa
set_option linter.unusedSimpArgs false
set_option linter.unusedVariables false
open Go.RowKit
theorem BA_get (t : List UInt8) (k : Nat) : (BA t)[k]? = t[k]? := by
  by_cases h : k < t.length
  · have h2 : k < (BA t).size := by rw [BA_size]; exact h
    rw [getElem?_pos (BA t) k h2, List.getElem?_eq_getElem h]
    simp [BA, ByteArray.getElem_eq_getElem_data]
  · rw [List.getElem?_eq_none (by omega)]
    exact getElem?_neg (BA t) k (by rw [BA_size]; exact h)
theorem BA_extract (t : List UInt8) (a b : Nat) : (BA t).extract a b = BA ((t.drop a).take (b - a)) := by
  apply ByteArray.ext
  simp [BA, ByteArray.data_extract]
theorem wrap_byte (c : UInt8) : IntKind.i64.wrap (c.toNat : Int) = (c.toNat : Int) := by
  have := c.toNat_lt
  rw [IntWalk.i64_in _ (by omega)]
theorem byte_gt (c : UInt8) : decide ((1 : Int) < (c.toNat : Int)) = decide (1 < c) := by
  have : (1 < c) ↔ 1 < c.toNat := by rw [UInt8.lt_iff_toNat_lt]; rfl
  simp only [this]
  rw [decide_eq_decide]; omega
def decP (d : Entry × Int × Int) : PV := .tup [.agg (cE d.1), .int .i64 d.2.1, .int .i64 d.2.2]
theorem decOut_err {t : List UInt8} {c : Int} (h : rdEntry t = .error c) (hc : c ≠ 0) : decOut t = (zeroE, 0, c) := by
  simp [decOut, toldOut, h, hc]
theorem entryOf_meets (t : List UInt8) (ht : t.length ≤ maxLen) : Meets Try.prog 36 [.str (BA t)] [] (decP (decOut t)) [] := by
  have ht' : t.length ≤ 9223372036854775807 := by simp [maxLen] at ht; omega
  refine Meets.of_walk Try.func36 Try.ntmps36 low36 res36 (by simp) fun x hx => ?_
  have hbad : ∀ c : Int, rdEntry t = .error c → c ≠ 0 → decOut t = (zeroE, 0, c) := fun c h1 h2 => decOut_err h1 h2
  match t, ht', hbad with
  | [], _, hbad =>
    simp only [go_sem, Nat.reduceLT, Nat.reduceAdd, Nat.reduceEqDiff, Nat.reduceLeDiff, Nat.reduceSub, Nat.reduceMul, Int.reduceEq, eq_self, reduceIte, L36, R36, BA_size, Int.reduceLT, Int.cast_ofNat_Int]
    refine ret_weak (weak_ownc 0 4 0 41 2 true false rfl rfl (by omega)) ?_
    refine ret_pure hx ?_
    rw [hbad 5 rfl (by decide)]
    simp [go_sem, Nat.reduceLT, Nat.reduceAdd, Nat.reduceEqDiff, Nat.reduceLeDiff, Nat.reduceSub, Nat.reduceMul, Int.reduceEq, eq_self, reduceIte, L36, R36, decP, zeroE, cE, BA, frzAt, pos]
  | a :: t1, ht', hbad =>
    have d0 : decide ((0 : Int) < ((t1.length + 1 : Nat) : Int)) = true := by simp
    by_cases ha : 1 < a
    · simp only [go_sem, Nat.reduceLT, Nat.reduceAdd, Nat.reduceEqDiff, Nat.reduceLeDiff, Nat.reduceSub, Nat.reduceMul, Int.reduceEq, eq_self, reduceIte, L36, R36, BA_size, BA_get, d0, Int.reduceLE, Int.reduceToNat, byte_gt, ha]
      refine ret_weak (weak_ownc 0 4 0 41 2 true false rfl rfl (by omega)) ?_
      refine ret_pure hx ?_
      rw [hbad 1 (by simp [rdEntry, rdId, ha]) (by decide)]
      simp [go_sem, Nat.reduceLT, Nat.reduceAdd, Nat.reduceEqDiff, Nat.reduceLeDiff, Nat.reduceSub, Nat.reduceMul, Int.reduceEq, eq_self, reduceIte, L36, R36, decP, zeroE, cE, BA, frzAt, pos]
    by_cases hB : t1.length < 3
    · have d1 : decide (((t1.length + 1 : Nat) : Int) < 4) = true := by simp; omega
      have hz : rdEntry (a :: t1) = .error 5 := by
        match t1, hB with
        | [], _ => simp [rdEntry, rdId, ha]
        | [b], _ => simp [rdEntry, rdId, ha]
        | [b, c], _ => simp [rdEntry, rdId, ha]
        | _ :: _ :: _ :: _, hB => simp at hB; omega
      simp only [go_sem, Nat.reduceLT, Nat.reduceAdd, Nat.reduceEqDiff, Nat.reduceLeDiff, Nat.reduceSub, Nat.reduceMul, Int.reduceEq, eq_self, reduceIte, L36, R36, BA_size, BA_get, d0, d1, Int.reduceLE, Int.reduceToNat, byte_gt, ha]
      refine ret_weak (weak_ownc 0 4 0 41 2 true false rfl rfl (by omega)) ?_
      refine ret_pure hx ?_
      rw [hbad 5 hz (by decide)]
      simp [go_sem, Nat.reduceLT, Nat.reduceAdd, Nat.reduceEqDiff, Nat.reduceLeDiff, Nat.reduceSub, Nat.reduceMul, Int.reduceEq, eq_self, reduceIte, L36, R36, decP, zeroE, cE, BA, frzAt, pos]
    obtain ⟨b, c, m, u, rfl⟩ : ∃ b c m u, t1 = b :: c :: m :: u := by
      match t1, hB with
      | b :: c :: m :: u, _ => exact ⟨b, c, m, u, rfl⟩
      | [], h => simp at h
      | [_], h => simp at h
      | [_, _], h => simp at h
    have key : True := trivial
    · clear key
      have d1 : decide (((u.length + 1 + 1 + 1 + 1 : Nat) : Int) < 4) = false := by simp; omega
      simp only [List.length_cons] at d0
      simp only [go_sem, Nat.reduceLT, Nat.reduceAdd, Nat.reduceEqDiff, Nat.reduceLeDiff, Nat.reduceSub, Nat.reduceMul, Int.reduceEq, eq_self, reduceIte, L36, R36, BA_size, BA_get, d0, d1, Int.reduceLE, Int.reduceToNat, byte_gt, ha, wrap_byte]
      generalize htt : a :: b :: c :: m :: u = tt at *
      have hlen : tt.length = u.length + 4 := by rw [← htt]; simp
      have g3 : tt[3]? = some m := by rw [← htt]; rfl
      have gu : ∀ j, tt[4 + j]? = u[j]? := fun j => by rw [← htt, show 4 + j = j + 1 + 1 + 1 + 1 by omega]; rfl
      have hrd : ∀ r, rdIds m.toNat u = r → rdEntry tt = rdTail ⟨a.toNat, b.toNat⟩ c.toNat r := fun r hr => by
        rw [← htt, ← hr]; simp [rdEntry, rdId, ha]
      have hm := m.toNat_lt
      refine W_weak (weak_ownc 1 4 0 41 2 true false rfl rfl (by omega)) ?_
      refine loop_inv [0, 2, 5, 6, 7] 3 (fun n st => ∃ (k : Nat) (l : List Id) (v : List UInt8), k + n = m.toNat ∧ l.length = k ∧ v.length + 2 * k = u.length ∧ u.drop (2 * k) = v ∧ rdIds m.toNat u = rdApp l (rdIds n v) ∧
        st = ⟨mkE .top [(0, .str (BA tt)), (2, .ptr 0 0), (5, .ptr 1 0), (6, .int .i64 ((4 + 2 * k : Nat) : Int)), (7, .int .i64 k)],
          [.box [.int .i64 0, .int .i64 0, .int .i64 0, .str ⟨#[]⟩, .nilsl], .box [.int .i64 a.toNat, .int .i64 b.toNat, .int .i64 c.toNat, .str ⟨#[]⟩, .arr 2 k], .arr k true false 41 2 (l.map cId)]⟩) m.toNat (by simp [hx]) (by simp) ?_ ?_
      · refine ⟨0, [], u, by omega, rfl, by omega, by simp, ?_, ?_⟩
        · cases rdIds m.toNat u <;> simp [rdApp]
        · simp [trim_mk, go_sem, Nat.reduceLT, Nat.reduceAdd, Nat.reduceEqDiff, Nat.reduceLeDiff, Nat.reduceSub, Nat.reduceMul, Int.reduceEq, eq_self, reduceIte, subHeap, renObj, pos, List.range_succ]
      · rintro n st ⟨k, l, v, hk, hl, hv, hd, hr, rfl⟩
        simp only [go_sem, Nat.reduceLT, Nat.reduceAdd, Nat.reduceEqDiff, Nat.reduceLeDiff, Nat.reduceSub, Nat.reduceMul, Int.reduceEq, eq_self, reduceIte, BA_size, BA_get, g3, wrap_byte, Int.reduceLE, Int.reduceToNat]
        have errs : ∀ e : Int, rdIds n v = .error e → e ≠ 0 → decOut tt = (zeroE, 0, e) := fun e h1 h2 => hbad e (by rw [hrd _ hr, h1]; rfl) h2
        by_cases hlt : k < m.toNat
        · obtain ⟨n, rfl⟩ : ∃ n', n = n' + 1 := ⟨n - 1, by omega⟩
          have wr1 : IntKind.i64.wrap (((4 + 2 * k : Nat) : Int) + 1) = ((4 + 2 * k + 1 : Nat) : Int) := by rw [IntWalk.i64_in _ (by omega)]; omega
          have wr2 : IntKind.i64.wrap (((4 + 2 * k : Nat) : Int) + 2) = ((4 + 2 * k + 2 : Nat) : Int) := by rw [IntWalk.i64_in _ (by omega)]; omega
          have wk := i64_up (k := k) (by omega)
          match v, hv, hd, hr, errs with
          | [], hv, hd, hr, errs =>
            have dl : decide (4 + 2 * k < tt.length) = false := by simp at hv ⊢; omega
            have dl2 : decide (tt.length < 4 + 2 * k + 2) = true := by simp at hv ⊢; omega
            simp only [go_sem, Nat.reduceLT, Nat.reduceAdd, Nat.reduceEqDiff, Nat.reduceLeDiff, Nat.reduceSub, Nat.reduceMul, Int.reduceEq, eq_self, reduceIte, hlt, dl, dl2, BA_size, wr2]
            refine ret_weak (weak_ownc 0 4 0 41 2 true false rfl rfl (by omega)) ?_
            refine ret_pure hx ?_
            rw [errs 5 rfl (by decide)]
            simp [go_sem, Nat.reduceLT, Nat.reduceAdd, Nat.reduceEqDiff, Nat.reduceLeDiff, Nat.reduceSub, Nat.reduceMul, Int.reduceEq, eq_self, reduceIte, L36, R36, decP, zeroE, cE, BA, frzAt, pos]
          | p :: v1, hv, hd, hr, errs =>
            have dl : decide (4 + 2 * k < tt.length) = true := by simp at hv ⊢; omega
            have hp : tt[4 + 2 * k]? = some p := by
              rw [gu]; have := congrArg (·[0]?) hd; simpa using this
            by_cases hp1 : 1 < p
            · simp only [go_sem, Nat.reduceLT, Nat.reduceAdd, Nat.reduceEqDiff, Nat.reduceLeDiff, Nat.reduceSub, Nat.reduceMul, Int.reduceEq, eq_self, reduceIte, hlt, dl, BA_size, BA_get, hp, byte_gt, hp1]
              refine ret_weak (weak_ownc 0 4 0 41 2 true false rfl rfl (by omega)) ?_
              refine ret_pure hx ?_
              rw [errs 1 (by simp [rdIds, rdId, hp1]) (by decide)]
              simp [go_sem, Nat.reduceLT, Nat.reduceAdd, Nat.reduceEqDiff, Nat.reduceLeDiff, Nat.reduceSub, Nat.reduceMul, Int.reduceEq, eq_self, reduceIte, L36, R36, decP, zeroE, cE, BA, frzAt, pos]
            match v1, hv, hd, hr, errs with
            | [], hv, hd, hr, errs =>
              have dl2 : decide (tt.length < 4 + 2 * k + 2) = true := by simp at hv ⊢; omega
              simp only [go_sem, Nat.reduceLT, Nat.reduceAdd, Nat.reduceEqDiff, Nat.reduceLeDiff, Nat.reduceSub, Nat.reduceMul, Int.reduceEq, eq_self, reduceIte, hlt, dl, dl2, BA_size, BA_get, hp, byte_gt, hp1, wr2]
              refine ret_weak (weak_ownc 0 4 0 41 2 true false rfl rfl (by omega)) ?_
              refine ret_pure hx ?_
              rw [errs 5 (by simp [rdIds, rdId, hp1]) (by decide)]
              simp [go_sem, Nat.reduceLT, Nat.reduceAdd, Nat.reduceEqDiff, Nat.reduceLeDiff, Nat.reduceSub, Nat.reduceMul, Int.reduceEq, eq_self, reduceIte, L36, R36, decP, zeroE, cE, BA, frzAt, pos]
            | q :: v2, hv, hd, hr, errs =>
              have dl2 : decide (tt.length < 4 + 2 * k + 2) = false := by simp at hv ⊢; omega
              have hq : tt[4 + 2 * k + 1]? = some q := by
                rw [Nat.add_assoc, gu]; have := congrArg (·[1]?) hd; simpa using this
              have hb : (l.length + 1) * 16 ≤ 140737488355328 := by omega
              simp only [go_sem, Nat.reduceLT, Nat.reduceAdd, Nat.reduceEqDiff, Nat.reduceLeDiff, Nat.reduceSub, Nat.reduceMul, Int.reduceEq, eq_self, reduceIte, hlt, dl, dl2, BA_size, BA_get, hp, hq, byte_gt, hp1, wr1, wr2, wk, wrap_byte]
              rw [app_arr rfl rfl (by simp) (by simpa using hb)]
              simp only [go_sem, Nat.reduceLT, Nat.reduceAdd, Nat.reduceEqDiff, Nat.reduceLeDiff, Nat.reduceSub, Nat.reduceMul, Int.reduceEq, eq_self, reduceIte, wk, wr2]
              refine ⟨by simp, n, by omega, k + 1, l ++ [⟨p.toNat, q.toNat⟩], v2, by omega, by simp [hl], by simp at hv ⊢; omega, ?_, ?_, ?_⟩
              · rw [show 2 * (k + 1) = 2 * k + 2 by omega, ← List.drop_drop, hd]; rfl
              · rw [hr, rdApp_ok (t' := v2) (x := ⟨p.toNat, q.toNat⟩) (by simp [rdId, hp1])]
              · simp [trim_mk, go_sem, Nat.reduceLT, Nat.reduceAdd, Nat.reduceEqDiff, Nat.reduceLeDiff, Nat.reduceSub, Nat.reduceMul, Int.reduceEq, eq_self, reduceIte, subHeap, renObj, pos, List.range_succ, cId, show 4 + 2 * (k + 1) = 4 + 2 * k + 2 by omega]
        · obtain rfl : n = 0 := by omega
          have hr2 : rdEntry tt = rdTail ⟨a.toNat, b.toNat⟩ c.toNat (.ok (l, v)) := by rw [hrd _ hr]; simp [rdIds, rdApp]
          match v, hv, hd, hr2 with
          | [], hv, hd, hr2 =>
            have dl : decide (tt.length ≤ 4 + 2 * k) = true := by simp at hv ⊢; omega
            simp only [go_sem, Nat.reduceLT, Nat.reduceAdd, Nat.reduceEqDiff, Nat.reduceLeDiff, Nat.reduceSub, Nat.reduceMul, Int.reduceEq, eq_self, reduceIte, hlt, dl, BA_size]
            refine ret_weak (weak_ownc 0 4 0 41 2 true false rfl rfl (by omega)) ?_
            refine ret_pure hx ?_
            rw [hbad 5 hr2 (by decide)]
            simp [go_sem, Nat.reduceLT, Nat.reduceAdd, Nat.reduceEqDiff, Nat.reduceLeDiff, Nat.reduceSub, Nat.reduceMul, Int.reduceEq, eq_self, reduceIte, L36, R36, decP, zeroE, cE, BA, frzAt, pos]
          | z :: r, hv, hd, hr2 =>
            have dl : decide (tt.length ≤ 4 + 2 * k) = false := by simp at hv ⊢; omega
            have hz : tt[4 + 2 * k]? = some z := by
              rw [gu]; have := congrArg (·[0]?) hd; simpa using this
            have hzl := z.toNat_lt
            have wr1 : IntKind.i64.wrap (((4 + 2 * k : Nat) : Int) + 1) = ((4 + 2 * k + 1 : Nat) : Int) := by rw [IntWalk.i64_in _ (by omega)]; omega
            have wr3 : IntKind.i64.wrap (((4 + 2 * k + 1 : Nat) : Int) + (z.toNat : Int)) = ((4 + 2 * k + 1 + z.toNat : Nat) : Int) := by rw [IntWalk.i64_in _ (by omega)]; omega
            by_cases hsh : r.length < z.toNat
            · have dl2 : decide (tt.length < 4 + 2 * k + 1 + z.toNat) = true := by simp at hv ⊢; omega
              simp only [go_sem, Nat.reduceLT, Nat.reduceAdd, Nat.reduceEqDiff, Nat.reduceLeDiff, Nat.reduceSub, Nat.reduceMul, Int.reduceEq, eq_self, reduceIte, hlt, dl, dl2, BA_size, BA_get, hz, wr1, wr3, wrap_byte]
              refine ret_weak (weak_ownc 0 4 0 41 2 true false rfl rfl (by omega)) ?_
              refine ret_pure hx ?_
              rw [hbad 5 (by rw [hr2]; simp [rdTail, hsh]) (by decide)]
              simp [go_sem, Nat.reduceLT, Nat.reduceAdd, Nat.reduceEqDiff, Nat.reduceLeDiff, Nat.reduceSub, Nat.reduceMul, Int.reduceEq, eq_self, reduceIte, L36, R36, decP, zeroE, cE, BA, frzAt, pos]
            have dl2 : decide (tt.length < 4 + 2 * k + 1 + z.toNat) = false := by simp at hv ⊢; omega
            have dl3 : (4 + 2 * k + 1 ≤ 4 + 2 * k + 1 + z.toNat ∧ 4 + 2 * k + 1 + z.toNat ≤ tt.length) := by simp at hv ⊢; omega
            have hdr : u.drop (2 * k + 1) = r := by rw [← List.drop_drop, hd]; rfl
            have hext : (tt.drop (4 + 2 * k + 1)).take (4 + 2 * k + 1 + z.toNat - (4 + 2 * k + 1)) = r.take z.toNat := by
              rw [← htt, show 4 + 2 * k + 1 = (2 * k + 1) + 1 + 1 + 1 + 1 by omega]
              simp only [List.drop_succ_cons, hdr]
              congr 1; omega
            have hok : rdEntry tt = .ok (⟨⟨a.toNat, b.toNat⟩, c.toNat, BA (r.take z.toNat), l⟩, r.drop z.toNat) := by rw [hr2]; simp [rdTail, hsh]
            simp only [go_sem, Nat.reduceLT, Nat.reduceAdd, Nat.reduceEqDiff, Nat.reduceLeDiff, Nat.reduceSub, Nat.reduceMul, Int.reduceEq, eq_self, reduceIte, hlt, dl, dl2, BA_size, BA_get, BA_extract, hz, wr1, wr3, wrap_byte]
            rw [if_pos dl3, hext]
            simp only [go_sem, Nat.reduceLT, Nat.reduceAdd, Nat.reduceEqDiff, Nat.reduceLeDiff, Nat.reduceSub, Nat.reduceMul, Int.reduceEq, eq_self, reduceIte]
            refine ops_call (.scalarE (checkEntry_meets ⟨⟨a.toNat, b.toNat⟩, c.toNat, BA (r.take z.toNat), l⟩) rfl (by simp [go_sem, Nat.reduceLT, Nat.reduceAdd, Nat.reduceEqDiff, Nat.reduceLeDiff, Nat.reduceSub, Nat.reduceMul, Int.reduceEq, eq_self, reduceIte, frzAt, pos, cE])) ?_
            by_cases hc : checkEntry ⟨⟨a.toNat, b.toNat⟩, c.toNat, BA (r.take z.toNat), l⟩ = 0
            · simp only [go_sem, Nat.reduceLT, Nat.reduceAdd, Nat.reduceEqDiff, Nat.reduceLeDiff, Nat.reduceSub, Nat.reduceMul, Int.reduceEq, eq_self, reduceIte, hc, wr1, wr3]
              refine ret_pure hx ?_
              have : decOut tt = (⟨⟨a.toNat, b.toNat⟩, c.toNat, BA (r.take z.toNat), l⟩, ((4 + 2 * k + 1 + z.toNat : Nat) : Int), 0) := by
                simp only [decOut, toldOut, hok, hc, if_true]
                simp at hv ⊢; omega
              rw [this]
              simp [go_sem, Nat.reduceLT, Nat.reduceAdd, Nat.reduceEqDiff, Nat.reduceLeDiff, Nat.reduceSub, Nat.reduceMul, Int.reduceEq, eq_self, reduceIte, L36, R36, decP, cE, frzAt, pos]
            · simp only [go_sem, Nat.reduceLT, Nat.reduceAdd, Nat.reduceEqDiff, Nat.reduceLeDiff, Nat.reduceSub, Nat.reduceMul, Int.reduceEq, eq_self, reduceIte, hc]
              refine ret_weak (weak_ownc 0 4 0 41 2 true false rfl rfl (by omega)) ?_
              refine ret_pure hx ?_
              have : decOut tt = (zeroE, 0, checkEntry ⟨⟨a.toNat, b.toNat⟩, c.toNat, BA (r.take z.toNat), l⟩) := by
                simp [decOut, toldOut, hok, hc]
              rw [this]
              simp [go_sem, Nat.reduceLT, Nat.reduceAdd, Nat.reduceEqDiff, Nat.reduceLeDiff, Nat.reduceSub, Nat.reduceMul, Int.reduceEq, eq_self, reduceIte, L36, R36, decP, zeroE, cE, BA, frzAt, pos]
end Go.Proofs.Ytkibfciheifphaa
/- packet.Decode: what its iterator does. -/
namespace Go.Proofs.Ytkibfciheifphaa
open Go.RowKit
def pkOut : Nat → List UInt8 → List Entry → List Entry × Int
  | 0, _, es => (es, 0)
  | f + 1, r, es => if r = [] then (es, 0) else if (decOut r).2.2 ≠ 0 then ([], 1) else if es.length = 40 then ([], 2) else pkOut f (r.drop (decOut r).2.1.toNat) (es ++ [(decOut r).1])
theorem rdEntry_lt {t : List UInt8} {x : Entry} {r : List UInt8} (h : rdEntry t = .ok (x, r)) : r.length < t.length := by
  unfold rdEntry at h
  split at h
  · cases h
  · cases h
  · cases h
  · rename_i y c n u hx
    obtain ⟨l, v, hv, hr⟩ := rdTail_len h
    have := rdId_len hx
    have := (rdIds_len hv).1
    simp at *
    omega
theorem rdId_err {t : List UInt8} {c : Int} (h : rdId t = .error c) : c ≠ 0 := by
  match t, h with
  | [], h => simp [rdId] at h; omega
  | [a], h => simp only [rdId] at h; split at h <;> (cases h; decide)
  | a :: b :: t, h => simp only [rdId] at h; split at h <;> cases h; decide
theorem rdIds_err : ∀ {n : Nat} {t : List UInt8} {c : Int}, rdIds n t = .error c → c ≠ 0
  | 0, t, c, h => by cases h
  | n + 1, t, c, h => by
    rw [rdIds] at h
    cases h1 : rdId t with
    | error d => rw [h1] at h; cases h; exact rdId_err h1
    | ok v =>
      rw [h1] at h
      simp only at h
      cases h2 : rdIds n v.2 with
      | error d => rw [h2] at h; cases h; exact rdIds_err h2
      | ok u => rw [h2] at h; cases h
theorem rdEntry_err {t : List UInt8} {c : Int} (h : rdEntry t = .error c) : c ≠ 0 := by
  unfold rdEntry at h
  split at h
  · rename_i d hd; cases h; exact rdId_err hd
  · cases h; decide
  · cases h; decide
  · rename_i x y n u hx
    cases hv : rdIds n.toNat u with
    | error d => rw [hv] at h; cases h; exact rdIds_err hv
    | ok v =>
      rw [hv] at h
      unfold rdTail at h
      split at h
      · rename_i e; cases e
      · cases h; decide
      · split at h
        · cases h; decide
        · cases h
theorem dec_adv {r : List UInt8} (h : (decOut r).2.2 = 0) : ∃ m : Nat, (decOut r).2.1 = m ∧ 0 < m ∧ m ≤ r.length := by
  by_cases h0 : (toldOut r).2.2 = 0
  · have h1 : (decOut r).2.1 = (r.length : Int) - ((toldOut r).2.1.length : Int) := by rw [decOut, if_pos h0]
    have h2 : (toldOut r).2.1.length < r.length := by
      cases hr : rdEntry r with
      | error c =>
        exfalso
        have : (toldOut r).2.2 = c := by simp [toldOut, hr]
        rw [this] at h0
        exact rdEntry_err hr h0
      | ok v => 
        have : (toldOut r).2.1 = v.2 := by simp [toldOut, hr]
        rw [this]
        exact rdEntry_lt (x := v.1) (r := v.2) hr
    exact ⟨r.length - (toldOut r).2.1.length, by rw [h1]; omega, by omega, by omega⟩
  · rw [decOut, if_neg h0] at h
    exact (h0 h).elim
theorem pkOut_fuel : ∀ (f : Nat) (r : List UInt8) (es : List Entry), r.length ≤ f → pkOut f r es = pkOut r.length r es
  | 0, r, es, h => by rw [Nat.le_zero.1 h]
  | f + 1, [], es, h => by simp [pkOut]
  | f + 1, a :: r, es, h => by
    rw [List.length_cons, pkOut, pkOut]
    by_cases h1 : (decOut (a :: r)).2.2 = 0
    · obtain ⟨m, e, m0, m1⟩ := dec_adv h1
      rw [e, Int.toNat_natCast]
      have hd : ((a :: r).drop m).length ≤ r.length := by rw [List.length_drop, List.length_cons]; omega
      rw [pkOut_fuel f _ _ (by simp only [List.length_cons] at h; omega), pkOut_fuel r.length _ _ hd]
    · simp [h1]
theorem pkOut_bad {r : List UInt8} {es : List Entry} (h : r ≠ []) (h1 : (decOut r).2.2 ≠ 0) : pkOut r.length r es = ([], 1) := by
  cases r with
  | nil => exact (h rfl).elim
  | cons a r => rw [List.length_cons, pkOut, if_neg (by simp), if_pos h1]
theorem pkOut_many {r : List UInt8} {es : List Entry} (h : r ≠ []) (h1 : (decOut r).2.2 = 0) (h2 : es.length = 40) : pkOut r.length r es = ([], 2) := by
  cases r with
  | nil => exact (h rfl).elim
  | cons a r => rw [List.length_cons, pkOut, if_neg (by simp), if_neg (by simp [h1]), if_pos h2]
theorem pkOut_step {r : List UInt8} {es : List Entry} {m : Nat} (h : r ≠ []) (h1 : (decOut r).2.2 = 0) (h2 : es.length ≠ 40) (hm : (decOut r).2.1 = m) : pkOut r.length r es = pkOut (r.drop m).length (r.drop m) (es ++ [(decOut r).1]) := by
  cases r with
  | nil => exact (h rfl).elim
  | cons a r =>
    obtain ⟨m', e, m0, m1⟩ := dec_adv h1
    have : m' = m := by rw [e] at hm; exact Int.ofNat.inj hm
    subst this
    have hd : ((a :: r).drop m').length ≤ r.length := by rw [List.length_drop, List.length_cons]; omega
    rw [← pkOut_fuel r.length _ _ hd, List.length_cons, pkOut, if_neg (by simp), if_neg (by simp [h1]), if_neg h2, e, Int.toNat_natCast]
end Go.Proofs.Ytkibfciheifphaa
/- packet.Decode: its iterator, walked. -/
namespace Go.Proofs.Ytkibfciheifphaa
set_option linter.unusedSimpArgs false
set_option linter.unusedVariables false
open Go.RowKit
theorem BA_nil_iff (r : List UInt8) : (BA r = ⟨#[]⟩) = (r = []) := by
  apply propext
  constructor
  · intro h
    have := congrArg (fun b : ByteArray => b.size) h
    rw [BA_size] at this
    exact List.length_eq_zero_iff.1 this
  · rintro rfl; rfl
section
variable {P : Program} {x : Cx} {nt n : Nat} {st : St}
theorem lower_mv {op : Op} {t : Nat} (hl : lowerOp P op = some (.mv (.tmp t))) : op = .move (.tmp t) ∨ op = .assign (.tmp t) := by
  have key : ∀ X : Operand, (lopd X).map LOp.mv = some (.mv (.tmp t)) → X = .tmp t := by
    intro X h
    cases X with
    | tmp t' => simp [lopd] at h; rw [h]
    | const v => simp [lopd] at h
    | func f => simp [lopd] at h
    | global g => simp [lopd] at h
  cases op <;> simp only [lowerOp, reduceCtorEq] at hl
  case move X => exact .inl (by rw [key X hl])
  case assign X => exact .inr (by rw [key X hl])
  all_goals (revert hl; (repeat' split) <;> first | (intro h; cases h; done) | (rename_i e; cases e; done) | simp_all)
theorem mv_step {ops : Array Oper} {o : Oper} {rest : List Oper} {so : Bool} {d t : Nat} {a : Act} {w : World} {Q : Exit → Act → World → Prop} (hl : lowerOper P nt ops o = some ⟨some d, .mv (.tmp t), none, so⟩) (h : wpListIn Fence.wide n P ops Q rest (a.put (some d) (a.tmps.getD t Go.undef)) w) : wpListIn Fence.wide n P ops Q (o :: rest) a w := by
  unfold lowerOper at hl
  split at hl <;> try (cases hl; done)
  rename_i lop hop
  split at hl <;> try (cases hl; done)
  split at hl
  · rename_i hg
    simp only [Option.some.injEq, LOper.mk.injEq] at hl
    obtain ⟨e1, e2, -, -⟩ := hl
    rw [e2] at hop
    unfold wpListIn
    rw [if_pos (by simp [Region.wanted, hg])]
    refine ⟨fun f _ => trivial, ?_⟩
    rw [show Fence.wide.round = none from rfl, Oper.semAt_none]
    have hrun : (execOp a.eval o).run P w = .ok (.value (a.tmps.getD t Go.undef)) w := by
      rcases lower_mv hop with ho | ho
      · simp only [execOp, ho, Sem.run_pure]; rfl
      · simp only [execOp, ho, Sem.run_pure]; rfl
    rw [hrun]
    show wpListIn Fence.wide n P ops Q rest (a.put o.dst _) w
    rw [e1]
    exact h
  · split at hl <;> try (cases hl; done)
    split at hl <;> try (cases hl; done)
    simp at hl
theorem put_getD {a : Act} {d : Option Nat} {v : Value} {t : Nat} (h : d ≠ some t) : (a.put d v).tmps.getD t Go.undef = a.tmps.getD t Go.undef := by
  cases d with
  | none => rfl
  | some k =>
    have hk : k ≠ t := fun e => h (by rw [e])
    show (a.tmps.setIfInBounds k v).getD t Go.undef = _
    by_cases hlt : k < a.tmps.size
    · rw [getD_set hlt, if_neg (Ne.symm hk)]
    · rw [Array.setIfInBounds_eq_of_size_le (by omega)]
theorem keep1 {lops : List LOper} {t : Nat} {u : Value} (h : lops.all (fun o => o.dst != some t) = true) : ∀ o ∈ lops, ∀ v (a : Act), a.tmps.getD t Go.undef = u → (a.put o.dst v).tmps.getD t Go.undef = u := fun o ho v a hu => by
  have := List.all_eq_true.1 h o ho
  rw [put_getD (by simpa using this)]
  exact hu
theorem keep2 {lops : List LOper} {t s : Nat} {u : Value} (h : lops.all (fun o => o.dst != some t && o.dst != some s) = true) : ∀ o ∈ lops, ∀ v (a : Act), (a.tmps.getD t Go.undef = u ∧ a.tmps.getD s Go.undef = u) → (a.put o.dst v).tmps.getD t Go.undef = u ∧ (a.put o.dst v).tmps.getD s Go.undef = u := fun o ho v a hu => by
  have h1 := List.all_eq_true.1 h o ho
  simp only [Bool.and_eq_true, bne_iff_ne] at h1
  rw [put_getD h1.1, put_getD h1.2]
  exact hu
theorem lowerOper_none {ops : Array Oper} {o : Oper} {d : Option Nat} {lop : LOp} {so : Bool} (hl : lowerOper P nt ops o = some ⟨d, lop, none, so⟩) : o.dst = d ∧ lowerOp P o.op = some lop ∧ o.guard = none := by
  unfold lowerOper at hl
  split at hl <;> try (cases hl; done)
  rename_i lop' hop
  split at hl <;> try (cases hl; done)
  split at hl
  · rename_i hg
    simp only [Option.some.injEq, LOper.mk.injEq] at hl
    obtain ⟨e1, e2, -, -⟩ := hl
    exact ⟨e1, by rw [hop, e2], hg⟩
  · split at hl <;> try (cases hl; done)
    split at hl <;> try (cases hl; done)
    all_goals simp at hl
theorem lowerList_one {ops : Array Oper} {os : List Oper} {lo : LOper} (h : lowerList P nt ops os = some [lo]) : ∃ o, os = [o] ∧ lowerOper P nt ops o = some lo := by
  cases os with
  | nil => simp [lowerList] at h
  | cons o os =>
    simp only [lowerList] at h
    split at h <;> try (cases h; done)
    rename_i lo' r h1 h2
    simp only [Option.some.injEq, List.cons.injEq] at h
    obtain ⟨rfl, rfl⟩ := h
    cases os with
    | nil => exact ⟨o, rfl, h1⟩
    | cons o2 os =>
      exfalso
      simp only [lowerList] at h2
      split at h2 <;> cases h2
theorem op_step {ops : Array Oper} {o : Oper} {rest : List Oper} {a : Act} {w : World} {Q : Exit → Act → World → Prop} (hg : o.guard = none) (h : o.wpIn Fence.wide n P a w (wpListIn Fence.wide n P ops Q rest) Q) : wpListIn Fence.wide n P ops Q (o :: rest) a w := by
  unfold wpListIn
  rw [if_pos (by simp [Region.wanted, hg])]
  exact h
theorem list_to {ops : Array Oper} {os : List Oper} {lops : List LOper} {K : St → Prop} {a : Act} {w : World} {Φ : Array Value → Prop} {Q : Exit → Act → World → Prop} (hlow : lowerList P nt ops os = some lops) (h : WOps P lops K st) (hrel : Rel x nt st a w)
    (hd : ∀ o ∈ lops, ∀ v (a : Act), Φ a.tmps → Φ (a.put o.dst v).tmps) (hu : Φ a.tmps) (hk : ∀ st' a' w', K st' → Rel x nt st' a' w' → Φ a'.tmps → Q .normal a' w') : wpListIn Fence.wide n P ops Q os a w := by
  have h4 := listIn_app (n := n) (P := P) (F := Fence.wide) (ops := ops) (Q := Q) (K := fun a' w' => (∃ st', K st' ∧ Rel x nt st' a' w') ∧ Φ a'.tmps) os [] a w (list_in (n := n) hlow h hrel hd hu) (fun a w ⟨⟨st', g1, g2⟩, g3⟩ => hk st' a w g1 g2 g3)
  rwa [List.append_nil] at h4
theorem rel_less {st' : St} {a : Act} {w : World} (hh : st.heap = st'.heap) (he : ∀ t, st'.env t = .top ∨ st'.env t = st.env t) (hrel : Rel x nt st a w) : Rel x nt st' a w := by
  obtain ⟨⟨C, hr1, h1⟩, hdf, hsz⟩ := hrel
  refine ⟨⟨C, hh ▸ hr1, fun t => ?_⟩, hdf, hsz⟩
  rcases he t with e | e
  · rw [e]; exact .any
  · rw [e, ← hh]; exact h1 t
theorem rel_mv {a : Act} {w : World} {d : Nat} {v : Value} (hd : d < nt) (hrel : Rel x nt st a w) : Rel x nt (st.put (some d) .top st.heap) (a.put (some d) v) w := by
  obtain ⟨⟨C, hr1, he⟩, hdf, hsz⟩ := hrel
  exact rel_put hsz hdf hr1 he (fun _ _ h => h) .any (fun t h => by cases h; exact hd)
end
section
variable {x : Cx} {n : Nat} {B : Nat → Nat} {L D fn : Nat} {tm : Array Value} {cA cB : Code}
theorem Rnd.root (hx : x.H0 = []) {C : Conc} {w w2 : World} {c c' : Int} {v v' : Nat} {r r' : List UInt8} {es es' : List Entry} {ex : List AObj} {st : St} {a : Act} {nt : Nat} {rc : Loop}
    (hr : HR x C (hP c v r es) w) (hb : ∀ i, i < 4 → C.blk i = B i) (hLw : w.heap[L]? = some (.loop rc)) (hDw : w.heap[D]? = some (.deferred (some []))) (hst : st.heap = hP c' v' r' es' ++ ex) (hrel : Rel (rootCx x C (hP c v r es) w) nt st a w2) :
    ∃ C2, HR x C2 (hP c' v' r' es') w2 ∧ (∀ i, i < 4 → C2.blk i = B i) ∧ w2.heap[L]? = some (.loop rc) ∧ w2.heap[D]? = some (.deferred (some [])) ∧
      (∀ t e, st.env t = .agg (cE e) → RepV (Stab x C2 (hP c' v' r' es') w2) w2 C2 (.agg (cE e)) (a.tmps.getD t Go.undef)) ∧ (∀ t, st.env t = .ptr 3 0 → a.tmps.getD t Go.undef = .pointer (some ⟨B 3, 0, none⟩)) ∧
      (∀ t k m, st.env t = .int k m → a.tmps.getD t Go.undef = .int k m) ∧ ∀ t b, st.env t = .bool b → a.tmps.getD t Go.undef = .bool b := by
  obtain ⟨⟨C1, hr2, he1⟩, -, -⟩ := hrel
  have ids1 : ∀ i, i < 5 → C1.blk i = C.blk i := fun i hi => hr2.ids i hi
  rw [hst] at hr2 he1
  obtain ⟨hr3, hm3, hf3⟩ := hr.unroot hr2
  have hLlt : L < w.heap.size := (Array.getElem?_eq_some_iff.1 hLw).1
  have hDlt : D < w.heap.size := (Array.getElem?_eq_some_iff.1 hDw).1
  obtain ⟨k1, k2⟩ := hr3.restrict (ks := List.range 5) List.nodup_range (fun k hk => by have := List.mem_range.1 hk; simp [hP]; omega) (fun i hi => by rw [hx] at hi; simp at hi)
  have hs : subHeap (pos (List.range 5)) (frzAt true (hP c' v' r' es' ++ ex)) (hP c' v' r' es' ++ ex) (List.range 5) = hP c' v' r' es' := by
    simp [subHeap, renObj, renCell, renLeaf, pos, List.range_succ, hP]
  rw [hs] at k1 k2
  refine ⟨_, k1, fun i hi => ?_, (hf3 L hLlt fun i ob hi => hr.notHeld (fun cs T f h => by rw [hLw] at h; cases h) hi).trans hLw, (hf3 D hDlt fun i ob hi => hr.notHeld (fun cs T f h => by rw [hDw] at h; cases h) hi).trans hDw, fun t e ht => ?_, fun t ht => ?_, fun t k m ht => ?_, fun t b ht => ?_⟩
  · show C1.blk ((List.range 5).getD i 0) = B i
    rw [show (List.range 5).getD i 0 = i by rw [getD_of (List.getElem?_range (by omega))], ids1 i (by omega)]
    exact hb i hi
  · have h1 := hm3 _ _ (he1 t)
    rw [ht] at h1
    have h2 := renT_rep (nl := false) k2 h1
    simpa [renT, ren, renCell, renLeaf, cE] using h2
  · have h1 := he1 t
    rw [ht] at h1
    rw [h1.ptr_inv.1, ids1 3 (by omega), hb 3 (by omega)]
  · have h1 := he1 t
    rw [ht] at h1
    exact h1.int_inv
  · have h1 := he1 t
    rw [ht] at h1
    exact h1.bool_inv
def ItQ (x : Cx) (B : Nat → Nat) (L D : Nat) (rc rd : Loop) (r0 : List UInt8) (es0 : List Entry) (w' : World) : Prop :=
  (∃ es', pkOut r0.length r0 es0 = (es', 0) ∧ Rnd x B L D rc 0 [] es' w') ∨ ∃ (c : Int) (r' : List UInt8) (es' : List Entry), c ≠ 0 ∧ pkOut r0.length r0 es0 = ([], c) ∧ Rnd x B L D rd c r' es' w'
set_option maxRecDepth 10000 in
set_option maxHeartbeats 4000000 in
theorem iter_in (hx : x.H0 = []) (hA : lowerCode Try.prog 23 cA = some lcA) (hB : lowerCode Try.prog 23 cB = some lcB) (htm : tm.size = 23)
    (h2 : tm.getD 2 Go.undef = .pointer (some ⟨B 0, 0, none⟩)) (h3 : tm.getD 3 Go.undef = .pointer (some ⟨B 1, 0, none⟩)) (h4 : tm.getD 4 Go.undef = .pointer (some ⟨B 2, 0, none⟩)) (hL : x.w0.heap.size ≤ L)
    {r0 : List UInt8} {es0 : List Entry} {w0 : World} (hmx : r0.length ≤ maxLen) (it : Rnd x B L D (rcOf fn tm cA cB D .ready none) 0 r0 es0 w0) :
    CallsIn Fence.wide n Try.prog 52 #[.func (.yield L) #[] #[], .pointer (some ⟨B 3, 0, none⟩)] w0 (fun en w' => (∃ u, en = .returned u) ∧ ItQ x B L D (rcOf fn tm cA cB D .ready none) (rcOf fn tm cA cB D .done (some .ret)) r0 es0 w') := by
  obtain ⟨cd, hbody, hlc⟩ := Option.bind_eq_some_iff.1 low52
  refine callsIn_of_wp Try.func52 hbody trivial ?_ rfl
  have hres : ∀ (tm : Array Value) (w : World), ∃ u, (results Try.f52 tm).run Try.prog w = .ok u w := fun tm w => ⟨_, by
    have hq : results Try.f52 tm = (do let vs ← Try.f52.results.mapM (resVal tm); pure (if h : vs.size = 1 then vs[0] else .tuple vs)) := rfl
    rw [hq, show Try.f52.results = #[] from rfl, Sem.run_bind, Array.mapM_empty, Sem.run_pure, Result.andThen_ok, Sem.run_pure]⟩
  have hW : ∀ a0 : Act, a0.tmps.getD 0 Go.undef = .func (.yield L) #[] #[] → a0.tmps.getD 1 Go.undef = .pointer (some ⟨B 3, 0, none⟩) → a0.tmps.size = 27 → a0.defers = [] →
      WI Try.prog 27 n L52 (fun e a w' => (e = .normal ∨ e = .ret) ∧ a.defers = [] ∧ ItQ x B L D (rcOf fn tm cA cB D .ready none) (rcOf fn tm cA cB D .done (some .ret)) r0 es0 w') a0 w0 := by
    intro a0 t0 t1 hsz hdf
    unfold L52
    refine WI_block (WI_loop (fun k a w' => ∃ (r : List UInt8) (es : List Entry), r.length = k ∧ r.length ≤ maxLen ∧ Rnd x B L D (rcOf fn tm cA cB D .ready none) 0 r es w' ∧ pkOut r0.length r0 es0 = pkOut r.length r es ∧
      a.tmps.getD 0 Go.undef = .func (.yield L) #[] #[] ∧ a.tmps.getD 1 Go.undef = .pointer (some ⟨B 3, 0, none⟩) ∧ a.tmps.size = 27 ∧ a.defers = []) r0.length ⟨r0, es0, rfl, hmx, it, rfl, t0, t1, hsz, hdf⟩ ?_)
    clear t0 t1 hsz hdf it hmx
    rintro k a w ⟨r, es, hk, hmx, ⟨hle, ⟨C, v, hr, hb⟩, hLw, hDw⟩, hpk, t0, t1, hsz, hdf⟩
    have hn : C.n = 5 := hr.n
    obtain ⟨hr1, -⟩ := hr.root
    have hrel : Rel (rootCx x C (hP 0 v r es) w) 27 ⟨mkE .top [(1, .ptr 3 0)], hP 0 v r es⟩ a w := by
      refine ⟨⟨C, hr1, fun t => ?_⟩, hdf, hsz⟩
      simp only [mkE]
      by_cases e : 1 = t
      · rw [if_pos e, ← e, t1, ← hb 3 (by omega)]; exact .ptr 3 0 (by omega)
      · rw [if_neg e]; exact .any
    refine WI_seq (WI_seq (WI_reg (Φ := fun tm => tm.getD 0 Go.undef = .func (.yield L) #[] #[]) (K := fun st => st = ⟨mkE .top [(7, .bool (!decide (r = []))), (6, .str (BA r)), (1, .ptr 3 0)], hP 0 v r es⟩) ?_ hrel ?_ t0 ?_))
    · simp only [go_sem, Nat.reduceLT, Nat.reduceAdd, Nat.reduceEqDiff, Nat.reduceLeDiff, Nat.reduceSub, Nat.reduceMul, Int.reduceEq, eq_self, reduceIte, hP, BA_nil_iff]
    · exact keep1 rfl
    intro st1 a1 w1 hst1 hrel1 t01
    subst hst1
    refine WI_cond hrel1 (b := !decide (r = [])) (by simp [go_sem, Nat.reduceLT, Nat.reduceAdd, Nat.reduceEqDiff, Nat.reduceLeDiff, Nat.reduceSub, Nat.reduceMul, Int.reduceEq, eq_self, reduceIte]) (fun hne => ?_) (fun he => ?_)
    · have hne : r ≠ [] := by simpa using hne
      refine WI_skip (WI_block (WI_seq (WI_reg (Φ := fun tm => tm.getD 0 Go.undef = .func (.yield L) #[] #[]) (K := fun st => st.heap = hP 0 v r es ++ [.box (cE (decOut r).1)] ∧ st.env 1 = .ptr 3 0 ∧ st.env 3 = .ptr 5 0 ∧ st.env 4 = .int .i64 (decOut r).2.1 ∧ st.env 5 = .int .i64 (decOut r).2.2) ?_ hrel1 ?_ t01 ?_)))
      · simp only [go_sem, Nat.reduceLT, Nat.reduceAdd, Nat.reduceEqDiff, Nat.reduceLeDiff, Nat.reduceSub, Nat.reduceMul, Int.reduceEq, eq_self, reduceIte, hP]
        refine ops_call (.pureE (decode_meets r hmx) (by simp [go_sem, Nat.reduceLT, Nat.reduceAdd, Nat.reduceEqDiff, Nat.reduceLeDiff, Nat.reduceSub, Nat.reduceMul, Int.reduceEq, eq_self, reduceIte])) ?_
        simp only [go_sem, Nat.reduceLT, Nat.reduceAdd, Nat.reduceEqDiff, Nat.reduceLeDiff, Nat.reduceSub, Nat.reduceMul, Int.reduceEq, eq_self, reduceIte, cE]
        try exact ⟨rfl, rfl, rfl, rfl, rfl⟩
      · exact keep1 rfl
      intro st2 a2 w2 ⟨q1, q2, q3, q4, q5⟩ hrel2 t02
      generalize he0 : (decOut r).1 = e at *
      generalize hn0 : (decOut r).2.1 = m0 at *
      generalize hc0 : (decOut r).2.2 = c0 at *
      have hrel2 : Rel (rootCx x C (hP 0 v r es) w) 27 ⟨mkE .top [(5, .int .i64 c0), (4, .int .i64 m0), (3, .ptr 5 0), (1, .ptr 3 0)], hP 0 v r es ++ [.box (cE e)]⟩ a2 w2 := by
        refine rel_less q1 (fun t => ?_) hrel2
        simp only [mkE]
        by_cases h5 : 5 = t
        · rw [if_pos h5, ← h5]; exact .inr q5.symm
        · rw [if_neg h5]
          by_cases h4 : 4 = t
          · rw [if_pos h4, ← h4]; exact .inr q4.symm
          · rw [if_neg h4]
            by_cases h3 : 3 = t
            · rw [if_pos h3, ← h3]; exact .inr q3.symm
            · rw [if_neg h3]
              by_cases h1 : 1 = t
              · rw [if_pos h1, ← h1]; exact .inr q2.symm
              · rw [if_neg h1]; exact .inl rfl
      clear q1 q2 q3 q4 q5
      refine WI_seq (WI_seq (WI_list fun ops os hl => ?_))
      obtain ⟨os1, os', rfl, hl1, hl'⟩ := lowerList_app [_] _ os hl
      obtain ⟨os2, os'', rfl, hl2, hl''⟩ := lowerList_app [_, _, _] _ os' hl'
      obtain ⟨os3, os4, rfl, hl3, hl4⟩ := lowerList_app [_] _ os'' hl''
      obtain ⟨o1, rfl, ho1⟩ := lowerList_one hl1
      obtain ⟨o3, rfl, ho3⟩ := lowerList_one hl3
      refine mv_step ho1 ?_
      refine listIn_app os2 _ _ _ (list_in (Φ := fun tm => tm.getD 0 Go.undef = .func (.yield L) #[] #[] ∧ tm.getD 14 Go.undef = .func (.yield L) #[] #[]) (K := fun st => st.heap = hP 0 v r es ++ [.box (cE e)] ∧ st.env 1 = .ptr 3 0 ∧ st.env 4 = .int .i64 m0 ∧ st.env 5 = .int .i64 c0 ∧ st.env 15 = .agg (cE e) ∧ st.env 17 = .bool (decide (c0 = 0))) hl2 ?_ (rel_mv (by decide) hrel2) ?_ ?_) ?_
      · simp only [go_sem, Nat.reduceLT, Nat.reduceAdd, Nat.reduceEqDiff, Nat.reduceLeDiff, Nat.reduceSub, Nat.reduceMul, Int.reduceEq, eq_self, reduceIte, hP, cE]
      · exact keep2 rfl
      · refine ⟨by rw [put_getD (by decide)]; exact t02, ?_⟩
        show (a2.tmps.setIfInBounds 14 _).getD 14 Go.undef = _
        rw [getD_set (by rw [hrel2.size]; decide), if_pos rfl, t02]
      rintro a3 w3 ⟨⟨st3, ⟨r1, r2, r3, r4, r5, r6⟩, hrel3⟩, t03, t143⟩
      obtain ⟨C3, k1, k2, k3, k4, k5, k6, k7, k8⟩ := Rnd.root hx hr hb hLw hDw r1 hrel3
      have hve := k5 15 e r5
      have v1 := k6 1 r2
      have v4 := k7 4 _ _ r3
      have v5 := k7 5 _ _ r4
      have v17 := k8 17 _ r6
      have hsz3 := hrel3.size
      have hdf3 := hrel3.defers
      obtain ⟨d3, hop3, hg3⟩ := lowerOper_none ho3
      have hround := round_in (n := n - 1) (fn := fn) (L := L) (D := D) hx hA hB htm h2 h3 h4 hL hle k1 k2 k3 k4 (b := decide (c0 = 0)) hve
      refine op_step hg3 (yield_in hop3 t143 k3 rfl (by rw [v17]; simpa [rcOf] using hround) ?_)
      have mkrel : ∀ {yes : Bool} {c' : Int} {vv : Nat} {ee : List Entry} {C4 : Conc} {w4 : World}, HR x C4 (hP c' vv r ee) w4 → (∀ i, i < 4 → C4.blk i = B i) → Rel (rootCx x C4 (hP c' vv r ee) w4) 27 ⟨mkE .top [(18, .bool yes), (5, .int .i64 c0), (4, .int .i64 m0), (1, .ptr 3 0)], hP c' vv r ee⟩ (a3.put (some 18) (.bool yes)) w4 := by
        intro yes c' vv ee C4 w4 hr4 hb4
        have hn4 : C4.n = 5 := hr4.n
        refine ⟨⟨C4, hr4.root.1, fun t => ?_⟩, hdf3, by rw [show (a3.put (some 18) (.bool yes)).tmps = a3.tmps.setIfInBounds 18 (.bool yes) from rfl]; simpa using hsz3⟩
        rw [show (a3.put (some 18) (.bool yes)).tmps = a3.tmps.setIfInBounds 18 (.bool yes) from rfl, getD_set (by rw [hsz3]; decide)]
        simp only [mkE]
        by_cases h18 : 18 = t
        · rw [if_pos h18, if_pos h18.symm]; exact .pure (.bool yes)
        · rw [if_neg h18, if_neg (Ne.symm h18)]
          by_cases h5 : 5 = t
          · rw [if_pos h5, ← h5, v5]; exact .pure (.int _ _)
          · rw [if_neg h5]
            by_cases h4 : 4 = t
            · rw [if_pos h4, ← h4, v4]; exact .pure (.int _ _)
            · rw [if_neg h4]
              by_cases h1 : 1 = t
              · rw [if_pos h1, ← h1, v1, ← hb4 3 (by omega)]; exact .ptr 3 0 (by omega)
              · rw [if_neg h1]; exact .any
      rintro en w4 (⟨rfl, hb1, h40, ⟨hle4, ⟨C4, v4', hr4, hb4⟩, hL4, hD4⟩⟩ | ⟨rfl, c, hc, ⟨hle4, ⟨C4, v4', hr4, hb4⟩, hL4, hD4⟩⟩)
      · have hcz : c0 = 0 := by simpa using hb1
        refine ⟨_, rfl, ?_⟩
        rw [d3]
        have hrel4 := mkrel (yes := true) hr4 hb4
        refine list_to (Φ := fun tm => tm.getD 0 Go.undef = .func (.yield L) #[] #[]) (K := fun st => st.heap = hP 0 v4' r (es ++ [e]) ∧ st.env 1 = .ptr 3 0 ∧ st.env 4 = .int .i64 m0 ∧ st.env 23 = .bool false) hl4 ?_ hrel4 ?_ (by rw [put_getD (by decide)]; exact t03) ?_
        · simp only [go_sem, Nat.reduceLT, Nat.reduceAdd, Nat.reduceEqDiff, Nat.reduceLeDiff, Nat.reduceSub, Nat.reduceMul, Int.reduceEq, eq_self, reduceIte, hP, hcz]
        · exact keep1 rfl
        intro st5 a5 w5 ⟨s1, s2, s3, s4⟩ hrel5 t05
        refine ⟨rfl, ?_⟩
        obtain ⟨m, hm, mpos, mle⟩ := dec_adv (r := r) (by rw [hc0]; exact hcz)
        have hm0 : m0 = (m : Int) := by rw [← hn0, hm]
        refine WI_cond hrel5 (b := false) s4 (fun h => by cases h) (fun _ => WI_skip ?_)
        have hrel5 : Rel (rootCx x C4 (hP 0 v4' r (es ++ [e])) w4) 27 ⟨mkE .top [(4, .int .i64 (m : Int)), (1, .ptr 3 0)], hP 0 v4' r (es ++ [e])⟩ a5 w5 := by
          refine rel_less s1 (fun t => ?_) hrel5
          simp only [mkE]
          by_cases h4 : 4 = t
          · rw [if_pos h4, ← h4, s3, hm0]; exact .inr rfl
          · rw [if_neg h4]
            by_cases h1 : 1 = t
            · rw [if_pos h1, ← h1]; exact .inr s2.symm
            · rw [if_neg h1]; exact .inl rfl
        have hsl : (BA r).extract m r.length = BA (r.drop m) := by rw [BA_extract, List.take_of_length_le (by rw [List.length_drop]; omega)]
        have hmi : (m : Int) ≤ (r.length : Int) := by omega
        refine WI_reg (Φ := fun tm => tm.getD 0 Go.undef = .func (.yield L) #[] #[]) (K := fun st => st.heap = hP 0 v4' (r.drop m) (es ++ [e]) ∧ st.env 1 = .ptr 3 0) ?_ hrel5 ?_ t05 ?_
        · simp only [go_sem, Nat.reduceLT, Nat.reduceAdd, Nat.reduceEqDiff, Nat.reduceLeDiff, Nat.reduceSub, Nat.reduceMul, Int.reduceEq, eq_self, reduceIte, hP, BA_size, Int.natCast_nonneg, hmi, Int.le_refl, Int.toNat_natCast, hsl]
        · exact keep1 rfl
        intro st6 a6 w6 ⟨u1, u2⟩ hrel6 t06
        obtain ⟨C6, g1, g2, g3, g4, -, g6, -, -⟩ := Rnd.root hx hr4 hb4 hL4 hD4 (ex := []) (c' := 0) (v' := v4') (r' := r.drop m) (es' := es ++ [e]) (by rw [u1, List.append_nil]) hrel6
        refine ⟨(r.drop m).length, by rw [List.length_drop]; omega, r.drop m, es ++ [e], rfl, by rw [List.length_drop]; omega, ⟨hle4, ⟨C6, v4', g1, g2⟩, g3, g4⟩, ?_, t06, g6 1 u2, hrel6.size, hrel6.defers⟩
        rw [hpk, pkOut_step hne (by rw [hc0]; exact hcz) h40 hm, he0]
      · refine ⟨_, rfl, ?_⟩
        rw [d3]
        have hrel4 := mkrel (yes := false) hr4 hb4
        refine list_to (Φ := fun tm => tm.getD 0 Go.undef = .func (.yield L) #[] #[]) (K := fun st => st.heap = hP c v4' r es ∧ st.env 23 = .bool true) hl4 ?_ hrel4 ?_ (by rw [put_getD (by decide)]; exact t03) ?_
        · simp only [go_sem, Nat.reduceLT, Nat.reduceAdd, Nat.reduceEqDiff, Nat.reduceLeDiff, Nat.reduceSub, Nat.reduceMul, Int.reduceEq, eq_self, reduceIte, hP]
        · exact keep1 rfl
        intro st5 a5 w5 ⟨s1, s4⟩ hrel5 t05
        refine ⟨rfl, ?_⟩
        refine WI_cond hrel5 (b := true) s4 (fun _ => WI_ret ?_) (fun h => by cases h)
        obtain ⟨C6, g1, g2, g3, g4, -⟩ := Rnd.root hx hr4 hb4 hL4 hD4 (ex := []) (c' := c) (v' := v4') (r' := r) (es' := es) (by rw [s1, List.append_nil]) hrel5
        refine ⟨.inr rfl, hrel5.defers, .inr ⟨c, r, es, ?_, ?_, hle4, ⟨C6, v4', g1, g2⟩, g3, g4⟩⟩
        · rcases hc with ⟨-, rfl⟩ | ⟨-, -, rfl⟩ <;> decide
        · rw [hpk]
          rcases hc with ⟨h1, rfl⟩ | ⟨h1, h2, rfl⟩
          · exact pkOut_bad hne (by rw [hc0]; simpa using h1)
          · exact pkOut_many hne (by rw [hc0]; simpa using h1) h2
    · have he : r = [] := by simpa using he
      subst he
      refine WI_exit ?_
      simp only [thenI, blockI, eq_self, if_true]
      obtain ⟨C2, k1, k2, k3, k4, -⟩ := Rnd.root hx hr hb hLw hDw (ex := []) (c' := 0) (v' := v) (r' := []) (es' := es) (by simp) hrel1
      exact ⟨.inl trivial, hrel1.defers, .inl ⟨es, by rw [hpk]; rfl, hle, ⟨C2, v, k1, k2⟩, k3, k4⟩⟩
  refine wpIn_mono (hW _ ?_ ?_ ?_ rfl cd hlc) ?_
  · simp
  · simp
  · simp [Try.ntmps52]
  · intro e a w' hq
    cases e <;> simp only [postI] at hq
    case normal => obtain ⟨u, hu⟩ := hres a.tmps w'; exact ⟨hq.2.1, u, hu, ⟨_, rfl⟩, hq.2.2⟩
    case ret => obtain ⟨u, hu⟩ := hres a.tmps w'; exact ⟨hq.2.1, u, hu, ⟨_, rfl⟩, hq.2.2⟩
    all_goals first | exact hq.elim | (obtain ⟨h, _⟩ := hq; rcases h with h | h <;> cases h)
end
end Go.Proofs.Ytkibfciheifphaa
/- packet.Decode, as a contract. -/
namespace Go.Proofs.Ytkibfciheifphaa
open Go.RowKit
section
variable {P : Program} {x : Cx} {nt n : Nat} {st : St} {C : Conc} {H : List AObj} {w : World}
def Obj.noCells (o : Obj) : Prop := ∀ cs T f, o ≠ .cells cs T f
theorem cell_none {L : Nat} {o : Obj} (h : w.heap[L]? = some o) (ho : Obj.noCells o) (j : Nat) : w.cell? ⟨L, j, none⟩ = none := by
  unfold World.cell?
  simp only [h]
  cases o <;> first | rfl | exact (ho _ _ _ rfl).elim
theorem HR.put (hr : HR x C H w) {L : Nat} {r r' : Obj} (h : w.heap[L]? = some r) (hn : Obj.noCells r) (hn' : Obj.noCells r') (h0 : x.w0.heap.size ≤ L) :
    HR x C H (w.putObj L r') ∧ ∀ p v, RepV (Stab x C H w) w C p v → RepV (Stab x C H (w.putObj L r')) (w.putObj L r') C p v := by
  have hlt : L < w.heap.size := (Array.getElem?_eq_some_iff.1 h).1
  have hsz : (w.putObj L r').heap.size = w.heap.size := World.putObj_size
  have hnew : (w.putObj L r').heap[L]? = some r' := World.putObj_heap_same hlt
  have hold : ∀ b, b ≠ L → (w.putObj L r').heap[b]? = w.heap[b]? := fun b hb => World.putObj_heap_other hb
  have hcell : ∀ b o, (w.putObj L r').cell? ⟨b, o, none⟩ = w.cell? ⟨b, o, none⟩ := fun b o => by
    by_cases e : b = L
    · subst e
      rw [cell_none hnew hn', cell_none h hn]
    · exact cell_eq (hold b e)
  have hS : ∀ b o, Stab x C H w b o → Stab x C H (w.putObj L r') b o := fun b o h => ⟨h.1, by rw [hsz]; exact h.2.1, h.2.2⟩
  have hm : ∀ p v, RepV (Stab x C H w) w C p v → RepV (Stab x C H (w.putObj L r')) (w.putObj L r') C p v := fun p v h => h.mono hS (fun b o _ => hcell b o) (Nat.le_refl _) (fun i _ => rfl) (fun i _ => .inl ⟨rfl, rfl⟩)
  have hne : ∀ (i : Nat) ob, H[i]? = some ob → ∀ b, ob.holds C i b → b ≠ L := fun i ob hi b hb e => by
    subst e
    exact hr.notHeld (fun cs T f e => by rw [h] at e; exact hn _ _ _ (Option.some.inj e)) hi hb
  refine ⟨⟨hr.n, fun i ob h => (hr.obj i ob h).mono hm (fun p v h => h.mono hS (fun b o _ => hcell b o)) (fun b hb => hold b (hne i ob h b hb)) rfl rfl rfl, hr.apart, hr.mine, fun b o h => ?_, by rw [hsz]; exact hr.size, hr.os, hr.tape, hr.output, fun b hb h => ?_, hr.len, hr.ids, hr.vers⟩, hm⟩
  · obtain ⟨h1, h2, h3⟩ := hr.s0 b o h
    exact ⟨h1, h2, (hcell b o).trans h3⟩
  · exact (hold b (by omega)).trans (hr.frame b hb h)
theorem plain_list {ops : Array Oper} {Q : Exit → Act → World → Prop} {K : St → Prop} : ∀ (os : List Oper) (lops : List LOper) (st : St) (a : Act) (w : World), lowerList P nt ops os = some lops → (lops.all fun o => o.op.plain && o.guard.isNone) = true → WOps P lops K st → Rel x nt st { a with defers := [] } w →
    (∀ st' a' w', K st' → Rel x nt st' { a' with defers := [] } w' → a'.defers = a.defers → Q .normal a' w') → wpListIn Fence.wide n P ops Q os a w
  | [], lops, st, a, w, hl, _, h, hrel, hk => by
    simp only [lowerList, Option.some.injEq] at hl; subst hl
    exact hk st a w h hrel rfl
  | o :: os, lops, st, a, w, hl, hp, h, hrel, hk => by
    simp only [lowerList] at hl
    split at hl <;> try (cases hl; done)
    rename_i lo r h1 h2
    cases hl
    obtain ⟨d, lop, g, so⟩ := lo
    simp only [List.all_cons, Bool.and_eq_true] at hp
    obtain ⟨⟨hp1, hp2⟩, hp3⟩ := hp
    cases g with
    | some g => cases hp2
    | none =>
      obtain ⟨e1, e2, e3⟩ := lowerOper_none h1
      rw [ops_plain' hp1] at h
      cases hv : evalOp st lop with
      | none => rw [hv] at h; exact h.elim
      | some vH =>
        obtain ⟨v, H'⟩ := vH
        rw [hv] at h
        have h : WOps P r K (st.put d v H') := h
        have hdl : ∀ t, o.dst = some t → t < nt := by
          intro t e
          unfold lowerOper at h1
          split at h1 <;> try (cases h1; done)
          split at h1 <;> try (cases h1; done)
          rename_i hd
          rw [e] at hd
          simpa [dstOK] using hd
        obtain ⟨⟨C, hr1, he⟩, hdf, hsz⟩ := hrel
        have hsz : a.tmps.size = nt := hsz
        have he : ∀ t, RepV (Stab x C st.heap w) w C (st.env t) (a.tmps.getD t Go.undef) := he
        obtain ⟨vv, w', C', hres, g2, g3, g4⟩ := sim (P := P) (a := a) hr1 he e2 hv
        refine op_step e3 ⟨fun f _ => trivial, ?_⟩
        rw [show Fence.wide.round = none from rfl, Oper.semAt_none]
        have hgo : wpListIn Fence.wide n P ops Q os (a.put o.dst vv) w' := by
          refine plain_list os r (st.put d v H') _ w' h2 hp3 h ?_ fun st' a' w' k1 k2 k3 => hk st' a' w' k1 k2 (k3.trans ?_)
          · have := rel_put (a := { a with defers := [] }) hsz rfl g2 he g3 g4 (d := o.dst) hdl
            rw [e1] at this ⊢
            cases d <;> exact this
          · cases o.dst <;> rfl
        rcases hres with hq | ⟨hq, rfl⟩ <;> rw [hq] <;> exact hgo
theorem ends_run {fn : Func} {lrs : List LRes} {r : PV} {Hs' : List AObj} {a : Act} (hres : lowerRes P fn.results.toList = some lrs) (hq : retQ x nt lrs r Hs' .ret st) (hrel : Rel x nt st a w) : ∃ v, (results fn a.tmps).run P w = .ok v w ∧ ∃ C', HR x C' Hs' w ∧ RepV (Stab x C' Hs' w) w C' r v := by
  obtain ⟨st', keep, hwk, ps, h1, h2, h3, h4, h5, h6⟩ := hq
  replace hrel := hwk a w hrel
  obtain ⟨⟨C, hr1, he⟩, hdf, hsz⟩ := hrel
  obtain ⟨us, k1, k2⟩ := evalRes_run hr1 he hres h1
  refine ⟨if h : us.toArray.size = 1 then us.toArray[0] else .tuple us.toArray, ?_, C.sub (List.range x.H0.length ++ keep), ?_⟩
  · have hm : (fn.results.mapM (resVal a.tmps)).run P w = .ok us.toArray w := by
      rw [Array.mapM_eq_mapM_toList]
      simp [k1]
    have hq : results fn a.tmps = (do let vs ← fn.results.mapM (resVal a.tmps); pure (if h : vs.size = 1 then vs[0] else .tuple vs)) := rfl
    rw [hq, Sem.run_bind, hm, Result.andThen_ok, Sem.run_pure]
  · have hlen : (List.range x.H0.length ++ keep).Nodup := by
      refine List.nodup_append.2 ⟨List.nodup_range, h2, fun a ha b hb e => ?_⟩
      have := List.mem_range.1 ha
      have := (h3 b hb).1
      omega
    obtain ⟨q1, q2⟩ := hr1.restrict (ks := List.range x.H0.length ++ keep) hlen (fun k hk => by
        rcases List.mem_append.1 hk with h | h
        · have := List.mem_range.1 h; omega
        · exact (h3 k h).2) (fun i hi => by rw [List.getElem?_append_left (by simpa using hi), List.getElem?_range hi])
    subst h5
    subst h6
    exact ⟨q1, renT_rep q2 (tupOf_rep k2)⟩
end
end Go.Proofs.Ytkibfciheifphaa
/- packet.Decode, as a contract. -/
namespace Go.Proofs.Ytkibfciheifphaa
set_option linter.unusedSimpArgs false
set_option linter.unusedVariables false
open Go.RowKit
theorem pkEntries_calls (s : ByteArray) (w : World) : Calls Try.prog 28 #[.string s] w fun e w' => e = .returned (.func (.func 52) #[] #[.pointer (some ⟨w.heap.size, 0, none⟩)]) ∧ w' = w.alloc (.cells #[.string s] 9) := by
  go_enter Try.func28, Try.ntmps28
  go_wp2
  go_ret
  exact ⟨rfl, rfl⟩
theorem pkEntries_meets (s : ByteArray) : Meets Try.prog 28 [.str s] [] (.clo 52 [.ptr 0 0]) [.box [.str s]] := by
  intro x vs hx hr hp
  obtain ⟨hlen, hp0⟩ := hp
  have hvs : vs = #[.string s] := by
    cases vs with
    | mk l =>
      match l, hlen with
      | [v], _ =>
        have := hp0 0 _ v rfl rfl
        rw [this.str_inv]
  subst hvs
  refine (pkEntries_calls s x.w0).mono ?_
  rintro e w' ⟨rfl, rfl⟩
  obtain ⟨vv, w2, C', h1, h2, h3, h4⟩ := OpRes.box (r := .ok (.value (.pointer (some ⟨x.w0.heap.size, 0, none⟩))) (x.w0.alloc (.cells #[.string s] 9))) hr (cs := #[.string s]) (cells := [.str s]) 9 rfl (fun j p v hp hv => by
    match j, hp, hv with
    | 0, hp, hv => simp at hp hv; subst hp; subst hv; exact ⟨rfl, .pure (.str s)⟩
    | j + 1, hp, hv => simp at hp) rfl
  rcases h1 with h1 | ⟨h1, -⟩
  · simp only [Result.ok.injEq, Next.value.injEq] at h1
    obtain ⟨e1, e2⟩ := h1
    subst e1; subst e2
    refine ⟨_, C', rfl, h2, ?_⟩
    refine .clo 52 [.ptr 0 0] [.pointer (some ⟨x.w0.heap.size, 0, none⟩)] rfl fun j p v hp hv => ?_
    match j, hp, hv with
    | 0, hp, hv => simp at hp hv; subst hp; subst hv; exact h4
    | j + 1, hp, hv => simp at hp
  · simp at h1
def lc0 : LC := .reg none [⟨some 2, .alloc [.nilsl], none, true⟩, ⟨some 3, .alloc [.int .i64 0], none, true⟩]
def lc1 : LC := .reg none [⟨some 4, .alloc [.nilsl], none, true⟩]
def lc2 : LC := .reg none [⟨some 7, .mv (.tmp 0), none, true⟩, ⟨some 8, .call 28 [.tmp 7] 0, none, true⟩]
def lc3 : List LOper := [⟨some 22, .load 1 false (.tmp 4), none, true⟩, ⟨none, .store 1 (.tmp 2) (.tmp 22), none, true⟩, ⟨none, .store 1 (.tmp 3) (.val (.int .i64 0)), none, true⟩]
theorem pk_shape : ∃ (c0 c1 c2 cA cB c3 : Code), Try.f8.body = some (.seq c0 (.seq c1 (.seq (.seq c2 (.block 0 (.rangeFunc (.tmp 8) #[9, 10] cA cB))) (.seq c3 .ret)))) ∧ lowerCode Try.prog 23 c0 = some lc0 ∧ lowerCode Try.prog 23 c1 = some lc1 ∧ lowerCode Try.prog 23 c2 = some lc2 ∧
    lowerCode Try.prog 23 cA = some lcA ∧ lowerCode Try.prog 23 cB = some lcB ∧ lowerCode Try.prog 23 c3 = some (.reg none lc3) :=
  ⟨_, _, _, _, _, _, rfl, by kernel_rfl, by kernel_rfl, by kernel_rfl, by kernel_rfl, by kernel_rfl, by kernel_rfl⟩
theorem pk_res : lowerRes Try.prog Try.f8.results.toList = some [.cell 2 1 false, .cell 3 1 false] := by kernel_rfl
section
variable {x : Cx} {n : Nat} {B : Nat → Nat} {L D fn : Nat} {tm : Array Value}
theorem reg_go {P : Program} {nt : Nat} {c : Code} {lops : List LOper} {st : St} {K : St → Prop} {Q : Exit → Act → World → Prop} {a : Act} {w : World} (hl : lowerCode P nt c = some (.reg none lops)) (h : WOps P lops K st) (hrel : Rel x nt st a w)
    (hk : ∀ st' a' w', K st' → Rel x nt st' a' w' → Q .normal a' w') : c.wpIn Fence.wide n P Q a w := by
  refine wpIn_mono (WI_reg (n := n) (Φ := fun _ => True) (Q := fun e a w => e = .normal ∧ Q .normal a w) h hrel (fun _ _ _ _ _ => trivial) trivial (fun st' a' w' g1 g2 _ => ⟨rfl, hk st' a' w' g1 g2⟩) c hl) fun e a w hq => ?_
  cases e <;> simp only [postI] at hq
  case normal => exact hq.2
  all_goals first | exact hq.elim | (obtain ⟨h, _⟩ := hq; cases h)
theorem rel23 {C : Conc} {H : List AObj} {w : World} {c : List Deferred} (hr : HR x C H w) (hn : 2 ≤ C.n) (h2 : tm.getD 2 Go.undef = .pointer (some ⟨C.blk 0, 0, none⟩)) (h3 : tm.getD 3 Go.undef = .pointer (some ⟨C.blk 1, 0, none⟩)) (hsz : tm.size = 23) : Rel x 23 ⟨mkE .top [(3, .ptr 1 0), (2, .ptr 0 0)], H⟩ { tmps := tm, defers := [] } w := by
  refine ⟨⟨C, hr, fun t => ?_⟩, rfl, hsz⟩
  simp only [mkE]
  by_cases t3 : 3 = t
  · rw [if_pos t3, ← t3, h3]; exact .ptr 1 0 (by omega)
  · rw [if_neg t3]
    by_cases t2 : 2 = t
    · rw [if_pos t2, ← t2, h2]; exact .ptr 0 0 (by omega)
    · rw [if_neg t2]; exact .any
theorem pk_leave {C : Conc} {H : List AObj} {w : World} {r : PV} (hr : HR x C H w) (hn : 2 ≤ C.n) (h2 : tm.getD 2 Go.undef = .pointer (some ⟨C.blk 0, 0, none⟩)) (h3 : tm.getD 3 Go.undef = .pointer (some ⟨C.blk 1, 0, none⟩)) (hsz : tm.size = 23)
    (hD : w.heap[D]? = some (.deferred (some []))) (hD0 : x.w0.heap.size ≤ D) (hq : retQ x 23 [.cell 2 1 false, .cell 3 1 false] r [] .ret ⟨mkE .top [(3, .ptr 1 0), (2, .ptr 0 0)], H⟩) :
    LeavesInM Fence.wide n Try.prog Try.f8 tm (fun e w' => ∃ v C', e = .returned v ∧ HR x C' [] w' ∧ RepV (Stab x C' [] w') w' C' r v) [{ target := .collected D, args := #[] }] .returning w := by
  obtain ⟨hr2, -⟩ := hr.put (r' := .deferred none) hD (fun _ _ _ h => by cases h) (fun _ _ _ h => by cases h) hD0
  obtain ⟨v, g1, C', g2, g3⟩ := ends_run (P := Try.prog) (fn := Try.f8) pk_res hq (rel23 (c := []) hr2 hn h2 h3 hsz)
  exact ⟨by simp, .inl ⟨D, _, rfl, run_takeDeferred hD, ⟨v, g1, v, C', rfl, g2, g3⟩⟩⟩
set_option maxHeartbeats 2000000 in
theorem packetDecode_meets (t : List UInt8) (ht : t.length ≤ maxLen) : Meets Try.prog 8 [.str (BA t)] [] (.tup [.list ((pkOut t.length t []).1.map cE), .int .i64 (pkOut t.length t []).2]) [] := by
  intro x vs hx hr hp
  obtain ⟨hlen, hp0⟩ := hp
  have hvs : vs = #[.string (BA t)] := by
    cases vs with
    | mk l =>
      match l, hlen with
      | [v], _ =>
        have := hp0 0 _ v rfl rfl
        rw [this.str_inv]
  subst hvs
  obtain ⟨c0, c1, c2, cA, cB, c3, hbody, l0, l1, l2, lA, lB, l3⟩ := pk_shape
  refine callsIn_wide.1 (callsIn_of_wp_marks (n := 0) Try.func8 hbody trivial ?_ rfl)
  have hrel0 : Rel x 23 ⟨mkE .top [(0, .str (BA t))], []⟩ { tmps := #[.string (BA t)] ++ Array.replicate (Try.f8.ntmps - 1) Go.undef, defers := [] } x.w0 := by
    refine ⟨⟨x.C0, hr, fun u => ?_⟩, rfl, by simp [Try.ntmps8]⟩
    simp only [mkE]
    by_cases h : 0 = u
    · rw [if_pos h, ← h, show (#[Value.string (BA t)] ++ Array.replicate (Try.f8.ntmps - 1) Go.undef).getD 0 Go.undef = .string (BA t) by simp]; exact .pure (.str _)
    · rw [if_neg h]; exact .any
  show Code.wpIn Fence.wide 0 Try.prog _ _ { tmps := #[.string (BA t)] ++ Array.replicate (Try.f8.ntmps - 1) Go.undef, defers := [] } x.w0
  generalize ({ tmps := #[.string (BA t)] ++ Array.replicate (Try.f8.ntmps - 1) Go.undef, defers := [] } : Act) = a0 at *
  refine wpIn_seq (reg_go (K := fun st => st = ⟨mkE .top [(3, .ptr 1 0), (2, .ptr 0 0), (0, .str (BA t))], [.box [.nilsl], .box [.int .i64 0]]⟩) l0 (by simp only [go_sem, Nat.reduceLT, Nat.reduceAdd, Nat.reduceEqDiff, Nat.reduceLeDiff, Nat.reduceSub, Nat.reduceMul, Int.reduceEq, eq_self, reduceIte]) hrel0 ?_)
  intro st1 a1 w1 hst1 hrel1
  subst hst1
  refine wpIn_seq (reg_go (K := fun st => st = ⟨mkE .top [(4, .ptr 2 0), (3, .ptr 1 0), (2, .ptr 0 0), (0, .str (BA t))], [.box [.nilsl], .box [.int .i64 0], .box [.nilsl]]⟩) l1 (by simp only [go_sem, Nat.reduceLT, Nat.reduceAdd, Nat.reduceEqDiff, Nat.reduceLeDiff, Nat.reduceSub, Nat.reduceMul, Int.reduceEq, eq_self, reduceIte]) hrel1 ?_)
  intro st2 a2 w2 hst2 hrel2
  subst hst2
  refine wpIn_seq (wpIn_seq (reg_go (K := fun st => st = ⟨mkE .top [(8, .clo 52 [.ptr 3 0]), (7, .str (BA t)), (4, .ptr 2 0), (3, .ptr 1 0), (2, .ptr 0 0), (0, .str (BA t))], [.box [.nilsl], .box [.int .i64 0], .box [.nilsl], .box [.str (BA t)]]⟩) l2 ?_ hrel2 ?_))
  · simp only [go_sem, Nat.reduceLT, Nat.reduceAdd, Nat.reduceEqDiff, Nat.reduceLeDiff, Nat.reduceSub, Nat.reduceMul, Int.reduceEq, eq_self, reduceIte]
    refine ops_call (.heapE [] (r' := .clo 52 [.ptr 3 0]) (H' := [.box [.nilsl], .box [.int .i64 0], .box [.nilsl], .box [.str (BA t)]]) (pkEntries_meets (BA t)) (by simp) (by simp) (by simp [go_sem, Nat.reduceLT, Nat.reduceAdd, Nat.reduceEqDiff, Nat.reduceLeDiff, Nat.reduceSub, Nat.reduceMul, Int.reduceEq, eq_self, reduceIte]) rfl rfl rfl) ?_
    simp only [go_sem, Nat.reduceLT, Nat.reduceAdd, Nat.reduceEqDiff, Nat.reduceLeDiff, Nat.reduceSub, Nat.reduceMul, Int.reduceEq, eq_self, reduceIte]
  intro st3 a3 w3 hst3 hrel3
  subst hst3
  have hrel3 : Rel x 23 ⟨mkE .top [(8, .clo 52 [.ptr 3 0]), (7, .str (BA t)), (4, .ptr 2 0), (3, .ptr 1 0), (2, .ptr 0 0), (0, .str (BA t))], hP 0 0 t []⟩ a3 w3 := by
    have := weak_ownc (cells := [.nilsl]) 2 0 0 44 5 true false rfl rfl (by omega) a3 w3 hrel3
    exact this
  obtain ⟨⟨C, hr3, he3⟩, hdf3, hsz3⟩ := hrel3
  have hn3 : C.n = 5 := hr3.n
  have h2 : a3.tmps.getD 2 Go.undef = .pointer (some ⟨C.blk 0, 0, none⟩) := (he3 2).ptr_inv.1
  have h3 : a3.tmps.getD 3 Go.undef = .pointer (some ⟨C.blk 1, 0, none⟩) := (he3 3).ptr_inv.1
  have h4 : a3.tmps.getD 4 Go.undef = .pointer (some ⟨C.blk 2, 0, none⟩) := (he3 4).ptr_inv.1
  have h8 : a3.tmps.getD 8 Go.undef = .func (.func 52) #[] #[.pointer (some ⟨C.blk 3, 0, none⟩)] := by
    obtain ⟨vs, e1, e2, e3⟩ := (he3 8).clo_inv
    match vs, e2, e3 with
    | [u], _, e3 =>
      have := (e3 0 _ u rfl rfl).ptr_inv.1
      rw [e1, this]
  show Code.wpIn Fence.wide 0 Try.prog (.block 0 (.rangeFunc (.tmp 8) #[9, 10] cA cB)) _ a3 w3
  refine wpIn_block (wpIn_rangeFunc fun fn hfn => ?_)
  obtain ⟨W1, hW1⟩ : ∃ W1, (w3.alloc (.deferred (some []))).alloc (.loop (rcOf fn a3.tmps cA cB w3.heap.size .ready none)) = W1 := ⟨_, rfl⟩
  have hL1 : W1.heap[w3.heap.size + 1]? = some (.loop (rcOf fn a3.tmps cA cB w3.heap.size .ready none)) := by
    rw [← hW1]; have := World.alloc_heap_new (w3.alloc (.deferred (some []))) (.loop (rcOf fn a3.tmps cA cB w3.heap.size .ready none)); rwa [World.size_alloc] at this
  have hD1 : W1.heap[w3.heap.size]? = some (.deferred (some [])) := by
    rw [← hW1]; exact (Below.heap_alloc _ _ _ (by simp)).trans (World.alloc_heap_new w3 _)
  have hstep : Step w3 W1 fun _ => False := by
    rw [← hW1]
    refine ⟨by simp; omega, rfl, rfl, rfl, fun b hb _ => ?_⟩
    exact (Below.heap_alloc _ _ b (by simp; omega)).trans (Below.heap_alloc _ _ b hb)
  obtain ⟨hr4, -, -⟩ := hr3.grow hstep
  have hx0 := hr3.size
  have hit := iter_in (n := 0 - 1) (fn := fn) (L := w3.heap.size + 1) (D := w3.heap.size) (B := C.blk) hx lA lB hsz3 h2 h3 h4 (by omega) ht ⟨by simp, ⟨C, 0, hr4, fun _ _ => rfl⟩, hL1, hD1⟩
  refine ⟨w3.heap.size + 1, [{ target := .collected w3.heap.size, args := #[] }], W1, { target := .fn (.func 52) #[.pointer (some ⟨C.blk 3, 0, none⟩)], args := #[.func (.yield (w3.heap.size + 1)) #[] #[]] }, W1, 52, #[.func (.yield (w3.heap.size + 1)) #[] #[], .pointer (some ⟨C.blk 3, 0, none⟩)], W1, ?_, ?_, fun _ _ => trivial, ?_, (fun e => by cases e), hit.mono ?_⟩
  · rw [← hW1]; exact run_enterLoop_outer _ _ _ _ _
  · have hev : a3.eval (.tmp 8) = .func (.func 52) #[] #[.pointer (some ⟨C.blk 3, 0, none⟩)] := h8
    simp only [resolve, hev]
    simp [go_sem]
  · simp [invoke, go_sem]
  rintro en w4 ⟨⟨u, rfl⟩, (⟨es', hpk, ⟨hle, ⟨C4, v4, hr5, hb5⟩, hL4, hD4⟩⟩ | ⟨c, r', es', hc, hpk, ⟨hle, ⟨C4, v4, hr5, hb5⟩, hL4, hD4⟩⟩)⟩
  · refine ⟨none, _, run_endLoop hL4 (by simp [rcOf]), ?_⟩
    have hn4 : C4.n = 5 := hr5.n
    obtain ⟨hr6, -⟩ := hr5.loop (r' := { rcOf fn a3.tmps cA cB w3.heap.size .ready none with state := .exhausted }) hL4 (by omega)
    have hD5 : (w4.putObj (w3.heap.size + 1) (.loop { rcOf fn a3.tmps cA cB w3.heap.size .ready none with state := .exhausted })).heap[w3.heap.size]? = some (.deferred (some [])) := (World.putObj_heap_other (by omega)).trans hD4
    show Code.wpIn Fence.wide 0 Try.prog (.seq c3 .ret) _ { tmps := a3.tmps, defers := [{ target := .collected w3.heap.size, args := #[] }] ++ a3.defers } (w4.putObj (w3.heap.size + 1) (.loop { rcOf fn a3.tmps cA cB w3.heap.size .ready none with state := .exhausted }))
    generalize w4.putObj (w3.heap.size + 1) (.loop { rcOf fn a3.tmps cA cB w3.heap.size .ready none with state := .exhausted }) = w5 at *
    rw [hdf3, List.append_nil]
    have hlt : w3.heap.size < w5.heap.size := (Array.getElem?_eq_some_iff.1 hD5).1
    obtain ⟨hr7, -⟩ := hr6.root
    have hrel7 : Rel (rootCx x C4 (hP 0 v4 [] es') w5) 23 ⟨mkE .top [(4, .ptr 2 0), (3, .ptr 1 0), (2, .ptr 0 0)], hP 0 v4 [] es'⟩ { tmps := a3.tmps, defers := [] } w5 := by
      refine ⟨⟨C4, hr7, fun t => ?_⟩, rfl, hsz3⟩
      simp only [mkE]
      by_cases t4 : 4 = t
      · rw [if_pos t4, ← t4, h4, ← hb5 2 (by omega)]; exact .ptr 2 0 (by omega)
      · rw [if_neg t4]
        by_cases t3 : 3 = t
        · rw [if_pos t3, ← t3, h3, ← hb5 1 (by omega)]; exact .ptr 1 0 (by omega)
        · rw [if_neg t3]
          by_cases t2 : 2 = t
          · rw [if_pos t2, ← t2, h2, ← hb5 0 (by omega)]; exact .ptr 0 0 (by omega)
          · rw [if_neg t2]; exact .any
    refine wpIn_seq (wpIn_mono (WI_list (n := 0) (lops := lc3) (Q := fun e a w => e = .normal ∧ a.defers = [{ target := .collected w3.heap.size, args := #[] }] ∧ ∃ st', st' = (⟨mkE .top [(22, .arr 4 v4), (4, .ptr 2 0), (3, .ptr 1 0), (2, .ptr 0 0)], [.box [.arr 4 v4], .box [.int .i64 0], .box [.arr 4 v4], .box [.str (BA [])], .arr v4 true false 44 5 (es'.map cE)]⟩ : St) ∧ Rel (rootCx x C4 (hP 0 v4 [] es') w5) 23 st' { a with defers := [] } w)
      (fun ops os hl => plain_list (K := fun st' => st' = (⟨mkE .top [(22, .arr 4 v4), (4, .ptr 2 0), (3, .ptr 1 0), (2, .ptr 0 0)], [.box [.arr 4 v4], .box [.int .i64 0], .box [.arr 4 v4], .box [.str (BA [])], .arr v4 true false 44 5 (es'.map cE)]⟩ : St)) os lc3 _ ({ tmps := a3.tmps, defers := [{ target := .collected w3.heap.size, args := #[] }] } : Act) w5 hl rfl ?_ hrel7 (fun st' a' w' k1 k2 k3 => ⟨rfl, rfl, k3, st', k1, k2⟩)) c3 l3) ?_)
    · unfold lc3
      simp only [go_sem, Nat.reduceLT, Nat.reduceAdd, Nat.reduceEqDiff, Nat.reduceLeDiff, Nat.reduceSub, Nat.reduceMul, Int.reduceEq, eq_self, reduceIte, hP]
    · intro e a8 w8 hq
      cases e <;> simp only [postI] at hq
      case normal =>
        obtain ⟨-, hd8, st8, rfl, ⟨C8, hr8, he8⟩, -, hsz8⟩ := hq
        have hn8 : C8.n = 5 := hr8.n
        obtain ⟨hr9, -, hf9⟩ := hr6.unroot hr8
        have hD8 : w8.heap[w3.heap.size]? = some (.deferred (some [])) := (hf9 _ hlt fun i ob hi => hr6.notHeld (fun cs T f h => by rw [hD5] at h; cases h) hi).trans hD5
        refine wpIn_ret ?_
        show LeavesInM Fence.wide 0 Try.prog Try.f8 a8.tmps _ a8.defers .returning w8
        rw [hd8, hpk]
        refine pk_leave hr9 (by omega) (he8 2).ptr_inv.1 (he8 3).ptr_inv.1 hsz8 hD8 (by omega) (ret_weak (weak_shut 4 rfl) (ret_pure hx ?_))
        simp [go_sem, Nat.reduceLT, Nat.reduceAdd, Nat.reduceEqDiff, Nat.reduceLeDiff, Nat.reduceSub, Nat.reduceMul, Int.reduceEq, eq_self, reduceIte, frzAt, pos, frz]
      all_goals first | exact hq.elim | (obtain ⟨h, _⟩ := hq; cases h)
  · refine ⟨some .ret, _, run_endLoop hL4 (by simp [rcOf]), ?_⟩
    have hn4 : C4.n = 5 := hr5.n
    obtain ⟨hr6, -⟩ := hr5.loop (r' := { rcOf fn a3.tmps cA cB w3.heap.size .done (some .ret) with state := .exhausted }) hL4 (by omega)
    refine wpIn_ret ?_
    show LeavesInM Fence.wide 0 Try.prog Try.f8 a3.tmps _ ([{ target := .collected w3.heap.size, args := #[] }] ++ a3.defers) .returning _
    rw [hdf3, List.append_nil, hpk]
    refine pk_leave hr6 (by omega) (by rw [h2, hb5 0 (by omega)]) (by rw [h3, hb5 1 (by omega)]) hsz3 ((World.putObj_heap_other (by omega)).trans hD4) (by omega) (ret_pure hx ?_)
    simp [go_sem, Nat.reduceLT, Nat.reduceAdd, Nat.reduceEqDiff, Nat.reduceLeDiff, Nat.reduceSub, Nat.reduceMul, Int.reduceEq, eq_self, reduceIte, hP]
end
end Go.Proofs.Ytkibfciheifphaa
/- Encode, by its hand walk: a contract. -/
namespace Go.Proofs.Ytkibfciheifphaa
open Go.RowKit
theorem rep_ids {T : Nat → Nat → Prop} {w : World} {v : Value} {l : List Id} (hT : ∀ b o, T b o → b < w.heap.size) (h : RepP T w (.list (l.map cId)) v) : IdsIn (fun _ => True) w v l := by
  generalize hr : l.map cId = rows at h
  cases h with
  | list rows a c sz x hc hm hsz hz hl hx =>
    subst hr
    have hlen : (l.map cId).length = l.length := by simp
    refine ⟨a, c, by rw [hlen], by simpa using hc, hm, fun k hk => ?_⟩
    have hrow : (l.map cId)[k]? = some (cId (nth l k)) := by simp [nth_get? l k hk]
    have h2 : sz = 2 := by have := hz (cId (nth l k)) (List.mem_of_getElem? hrow); simp [cId] at this; omega
    subst h2
    obtain ⟨b, o, e1, e2, e3⟩ := hl k _ 0 (.int .i64 (nth l k).r) hrow rfl
    obtain ⟨b', o', f1, f2, f3⟩ := hl k _ 1 (.int .i64 (nth l k).n) hrow rfl
    rw [e1] at f1; cases f1
    have g0 := hx k _ 0 (.int .i64 (nth l k).r) hrow rfl
    have g1 := hx k _ 1 (.int .i64 (nth l k).n) hrow rfl
    refine ⟨b, o, e1, trivial, hT _ _ e2, ?_, ?_⟩
    · rw [show o + k * 2 = o + k * 2 + 0 by omega, e3, (RepV.pure (C := ⟨0, fun _ => 0, fun _ => Go.undef, fun _ => 0⟩) g0).int_inv]
    · rw [f3, (RepV.pure (C := ⟨0, fun _ => 0, fun _ => Go.undef, fun _ => 0⟩) g1).int_inv]
end Go.Proofs.Ytkibfciheifphaa
/- Slices asked by a function: contracts of slices.IndexFunc, ContainsFunc, Index, Contains at entries, ids. -/
namespace Go.Proofs.Ytkibfciheifphaa
set_option linter.unusedSimpArgs false
set_option linter.unusedVariables false
open Go.RowKit
def idxF {α : Type} (p : α → Bool) : List α → Nat → Int
  | [], _ => -1
  | x :: l, k => if p x = true then (k : Int) else idxF p l (k + 1)
theorem idxF_drop {α : Type} [Inhabited α] (p : α → Bool) (l : List α) (k : Nat) (h : k < l.length) : idxF p (l.drop k) k = if p (nth l k) = true then (k : Int) else idxF p (l.drop (k + 1)) (k + 1) := by
  rw [List.drop_eq_getElem_cons h, idxF, nth_eq _ _ h]
instance : Inhabited Entry := ⟨⟨default, 0, ⟨#[]⟩, []⟩⟩
theorem idxF_ge {α : Type} (p : α → Bool) : ∀ (l : List α) (k : Nat), idxF p l k = -1 ∧ l.any p = false ∨ (k : Int) ≤ idxF p l k ∧ l.any p = true
  | [], k => .inl ⟨rfl, rfl⟩
  | x :: l, k => by
    simp only [idxF, List.any_cons]
    cases hx : p x
    · rcases idxF_ge p l (k + 1) with ⟨h1, h2⟩ | ⟨h1, h2⟩
      · exact .inl ⟨by simpa using h1, by simp [h2]⟩
      · exact .inr ⟨by simp; omega, by simp [h2]⟩
    · exact .inr ⟨by simp, by simp⟩
theorem idxF_any {α : Type} (p : α → Bool) (l : List α) : decide (0 ≤ idxF p l 0) = l.any p := by
  rcases idxF_ge p l 0 with ⟨h1, h2⟩ | ⟨h1, h2⟩
  · rw [h1, h2]; rfl
  · rw [h2]; simp; omega
theorem indexE_meets (l : List Entry) (g : Nat) (caps : List PV) (Hs : List AObj) (p : Entry → Bool) (hg : hasBody Try.prog g = true) (hl : l.length ≤ 9223372036854775806) (hc : ClosedH Hs caps)
    (hp : ∀ e ∈ l, Meets Try.prog g (.agg (cE e) :: caps) Hs (.bool (p e)) Hs) :
    Meets Try.prog 65 [.list (l.map cE), .clo g caps] Hs (.int .i64 (idxF p l 0)) Hs := by
  refine Meets.of_walk Try.func65 Try.ntmps65 low65 res65 (by simp) fun x hx => ?_
  simp only [go_sem, Nat.reduceLT, Nat.reduceAdd, Nat.reduceEqDiff, Nat.reduceLeDiff, Nat.reduceSub, Nat.reduceMul, Int.reduceEq, eq_self, reduceIte, L65, R65]
  refine loop_keep [0, 1, 7, 8] (fun n st => ∃ k : Nat, k + n = l.length ∧ idxF p (l.drop k) k = idxF p l 0 ∧
    st = ⟨mkE .top [(0, .list (l.map cE)), (1, .clo g caps), (7, .int .i64 l.length), (8, .int .i64 k)], Hs⟩) l.length ?_ ?_
  · refine ⟨0, by omega, by simp, ?_⟩
    simp [keep_mk, go_sem, Nat.reduceLT, Nat.reduceAdd, Nat.reduceEqDiff, Nat.reduceLeDiff, Nat.reduceSub, Nat.reduceMul, Int.reduceEq, eq_self, reduceIte]
  · rintro n st ⟨k, hk, hi, rfl⟩
    by_cases hlt : k < l.length
    · have hgt : l[k]? = some (nth l k) := nth_get? _ _ hlt
      have wk := i64_up (k := k) (by omega)
      rw [idxF_drop p l k hlt] at hi
      simp only [go_sem, Nat.reduceLT, Nat.reduceAdd, Nat.reduceEqDiff, Nat.reduceLeDiff, Nat.reduceSub, Nat.reduceMul, Int.reduceEq, eq_self, reduceIte, hlt, hgt, cE, cId]
      refine ops_callv rfl hg (.whole (hp (nth l k) (by rw [nth_eq _ _ hlt]; exact List.getElem_mem hlt)) rfl ?_ hc.sub hc.back) ?_
      · simp only [go_sem, Nat.reduceLT, Nat.reduceAdd, Nat.reduceEqDiff, Nat.reduceLeDiff, Nat.reduceSub, Nat.reduceMul, Int.reduceEq, eq_self, reduceIte, cE, cId]
        rw [hc.caps]
      cases hpk : p (nth l k)
      · rw [if_neg (by simp [hpk])] at hi
        simp only [go_sem, Nat.reduceLT, Nat.reduceAdd, Nat.reduceEqDiff, Nat.reduceLeDiff, Nat.reduceSub, Nat.reduceMul, Int.reduceEq, eq_self, reduceIte, wk]
        exact ⟨n - 1, by omega, k + 1, by omega, hi, by simp [keep_mk, go_sem, Nat.reduceLT, Nat.reduceAdd, Nat.reduceEqDiff, Nat.reduceLeDiff, Nat.reduceSub, Nat.reduceMul, Int.reduceEq, eq_self, reduceIte]⟩
      · rw [if_pos hpk] at hi
        simp only [go_sem, Nat.reduceLT, Nat.reduceAdd, Nat.reduceEqDiff, Nat.reduceLeDiff, Nat.reduceSub, Nat.reduceMul, Int.reduceEq, eq_self, reduceIte]
        refine ret_scal hx rfl hc.kept ?_
        simp [go_sem, Nat.reduceLT, Nat.reduceAdd, Nat.reduceEqDiff, Nat.reduceLeDiff, Nat.reduceSub, Nat.reduceMul, Int.reduceEq, eq_self, reduceIte, L65, R65, hi]
    · have : l.drop k = [] := List.drop_eq_nil_of_le (by omega)
      rw [this] at hi
      simp only [go_sem, Nat.reduceLT, Nat.reduceAdd, Nat.reduceEqDiff, Nat.reduceLeDiff, Nat.reduceSub, Nat.reduceMul, Int.reduceEq, eq_self, reduceIte, hlt]
      refine ret_scal hx rfl hc.kept ?_
      simp [go_sem, Nat.reduceLT, Nat.reduceAdd, Nat.reduceEqDiff, Nat.reduceLeDiff, Nat.reduceSub, Nat.reduceMul, Int.reduceEq, eq_self, reduceIte, L65, R65, ← hi, idxF]
theorem indexI_meets (l : List Id) (g : Nat) (caps : List PV) (Hs : List AObj) (p : Id → Bool) (hg : hasBody Try.prog g = true) (hl : l.length ≤ 9223372036854775806) (hc : ClosedH Hs caps)
    (hp : ∀ e ∈ l, Meets Try.prog g (.agg (cId e) :: caps) Hs (.bool (p e)) Hs) :
    Meets Try.prog 84 [.list (l.map cId), .clo g caps] Hs (.int .i64 (idxF p l 0)) Hs := by
  refine Meets.of_walk Try.func84 Try.ntmps84 low84 res84 (by simp) fun x hx => ?_
  simp only [go_sem, Nat.reduceLT, Nat.reduceAdd, Nat.reduceEqDiff, Nat.reduceLeDiff, Nat.reduceSub, Nat.reduceMul, Int.reduceEq, eq_self, reduceIte, L84, R84]
  refine loop_keep [0, 1, 7, 8] (fun n st => ∃ k : Nat, k + n = l.length ∧ idxF p (l.drop k) k = idxF p l 0 ∧
    st = ⟨mkE .top [(0, .list (l.map cId)), (1, .clo g caps), (7, .int .i64 l.length), (8, .int .i64 k)], Hs⟩) l.length ?_ ?_
  · refine ⟨0, by omega, by simp, ?_⟩
    simp [keep_mk, go_sem, Nat.reduceLT, Nat.reduceAdd, Nat.reduceEqDiff, Nat.reduceLeDiff, Nat.reduceSub, Nat.reduceMul, Int.reduceEq, eq_self, reduceIte]
  · rintro n st ⟨k, hk, hi, rfl⟩
    by_cases hlt : k < l.length
    · have hgt : l[k]? = some (nth l k) := nth_get? _ _ hlt
      have wk := i64_up (k := k) (by omega)
      rw [idxF_drop p l k hlt] at hi
      simp only [go_sem, Nat.reduceLT, Nat.reduceAdd, Nat.reduceEqDiff, Nat.reduceLeDiff, Nat.reduceSub, Nat.reduceMul, Int.reduceEq, eq_self, reduceIte, hlt, hgt, cId, cId]
      refine ops_callv rfl hg (.whole (hp (nth l k) (by rw [nth_eq _ _ hlt]; exact List.getElem_mem hlt)) rfl ?_ hc.sub hc.back) ?_
      · simp only [go_sem, Nat.reduceLT, Nat.reduceAdd, Nat.reduceEqDiff, Nat.reduceLeDiff, Nat.reduceSub, Nat.reduceMul, Int.reduceEq, eq_self, reduceIte, cId, cId]
        rw [hc.caps]
      cases hpk : p (nth l k)
      · rw [if_neg (by simp [hpk])] at hi
        simp only [go_sem, Nat.reduceLT, Nat.reduceAdd, Nat.reduceEqDiff, Nat.reduceLeDiff, Nat.reduceSub, Nat.reduceMul, Int.reduceEq, eq_self, reduceIte, wk]
        exact ⟨n - 1, by omega, k + 1, by omega, hi, by simp [keep_mk, go_sem, Nat.reduceLT, Nat.reduceAdd, Nat.reduceEqDiff, Nat.reduceLeDiff, Nat.reduceSub, Nat.reduceMul, Int.reduceEq, eq_self, reduceIte]⟩
      · rw [if_pos hpk] at hi
        simp only [go_sem, Nat.reduceLT, Nat.reduceAdd, Nat.reduceEqDiff, Nat.reduceLeDiff, Nat.reduceSub, Nat.reduceMul, Int.reduceEq, eq_self, reduceIte]
        refine ret_scal hx rfl hc.kept ?_
        simp [go_sem, Nat.reduceLT, Nat.reduceAdd, Nat.reduceEqDiff, Nat.reduceLeDiff, Nat.reduceSub, Nat.reduceMul, Int.reduceEq, eq_self, reduceIte, L84, R84, hi]
    · have : l.drop k = [] := List.drop_eq_nil_of_le (by omega)
      rw [this] at hi
      simp only [go_sem, Nat.reduceLT, Nat.reduceAdd, Nat.reduceEqDiff, Nat.reduceLeDiff, Nat.reduceSub, Nat.reduceMul, Int.reduceEq, eq_self, reduceIte, hlt]
      refine ret_scal hx rfl hc.kept ?_
      simp [go_sem, Nat.reduceLT, Nat.reduceAdd, Nat.reduceEqDiff, Nat.reduceLeDiff, Nat.reduceSub, Nat.reduceMul, Int.reduceEq, eq_self, reduceIte, L84, R84, ← hi, idxF]
theorem contFI_meets (l : List Id) (g : Nat) (caps : List PV) (Hs : List AObj) (p : Id → Bool) (hg : hasBody Try.prog g = true) (hl : l.length ≤ 9223372036854775806) (hc : ClosedH Hs caps)
    (hp : ∀ e ∈ l, Meets Try.prog g (.agg (cId e) :: caps) Hs (.bool (p e)) Hs) :
    Meets Try.prog 67 [.list (l.map cId), .clo g caps] Hs (.bool (l.any p)) Hs := by
  refine Meets.of_walk Try.func67 Try.ntmps67 low67 res67 (by simp) fun x hx => ?_
  simp only [go_sem, Nat.reduceLT, Nat.reduceAdd, Nat.reduceEqDiff, Nat.reduceLeDiff, Nat.reduceSub, Nat.reduceMul, Int.reduceEq, eq_self, reduceIte, L67, R67]
  refine ops_call (.whole (indexI_meets l g caps Hs p hg hl hc hp) rfl ?_ hc.sub hc.back) ?_
  · simp only [go_sem, Nat.reduceLT, Nat.reduceAdd, Nat.reduceEqDiff, Nat.reduceLeDiff, Nat.reduceSub, Nat.reduceMul, Int.reduceEq, eq_self, reduceIte]
    rw [hc.leaf]
  simp only [go_sem, Nat.reduceLT, Nat.reduceAdd, Nat.reduceEqDiff, Nat.reduceLeDiff, Nat.reduceSub, Nat.reduceMul, Int.reduceEq, eq_self, reduceIte]
  refine ret_scal hx rfl hc.kept ?_
  simp [go_sem, Nat.reduceLT, Nat.reduceAdd, Nat.reduceEqDiff, Nat.reduceLeDiff, Nat.reduceSub, Nat.reduceMul, Int.reduceEq, eq_self, reduceIte, L67, R67, idxF_any]
end Go.Proofs.Ytkibfciheifphaa
/- Logs: finding, counting, being ready, being right: contracts. -/
namespace Go.Proofs.Ytkibfciheifphaa
set_option linter.unusedSimpArgs false
set_option linter.unusedVariables false
open Go.RowKit
def findE (l : List Entry) (x : Id) : Int := idxF (fun e => decide (e.id = x)) l 0
theorem cE_row (l : List Entry) : ∀ row ∈ l.map cE, row.length = 5 := by simp [cE]
theorem closed1 (cells : List PV) (h : cells.map (renCell false (pos [0]) (frzAt false [.box cells])) = cells) (h2 : cells.map (renCell false (pos [0]) (frzAt true [.box cells])) = cells) (h3 : cells.map (renCell false (backF 1 [0]) noFz) = cells) :
    ClosedH [.box cells] [.ptr 0 0] := by
  refine ⟨?_, ?_, ?_, ?_, ?_⟩
  · simp [renLeaf, pos, List.range_succ]
  · simp [ren, renCell, renLeaf, pos, List.range_succ]
  · simp only [List.length_cons, List.length_nil, List.range_succ, List.range_zero, List.nil_append, subHeap, List.map_cons, List.map_nil, List.getElem?_cons_zero, Option.getD_some, renObj, h]
  · simp only [List.length_cons, List.length_nil, List.range_succ, List.range_zero, List.nil_append, merge, List.map_cons, List.map_nil, mergeObj, callId, Nat.zero_add, Nat.sub_self, Nat.add_zero]
    simp [pos, renObj, h3]
  · simp only [List.length_cons, List.length_nil, List.range_succ, List.range_zero, List.nil_append, subHeap, List.map_cons, List.map_nil, List.getElem?_cons_zero, Option.getD_some, renObj, h2]
theorem find1_meets (x : Id) (e : Entry) : Meets Try.prog 66 [.agg (cE e), .ptr 0 0] [.box (cId x)] (.bool (decide (e.id = x))) [.box (cId x)] := by
  refine Meets.of_walk Try.func66 Try.ntmps66 low66 res66 (by simp) fun xx hx => ?_
  simp only [go_sem, Nat.reduceLT, Nat.reduceAdd, Nat.reduceEqDiff, Nat.reduceLeDiff, Nat.reduceSub, Nat.reduceMul, Int.reduceEq, eq_self, reduceIte, L66, R66, cE, cId, beqId]
  refine ret_keep [] (by simp) (by simp) (by simp [hx]) ?_ ?_
  · simp [go_sem, Nat.reduceLT, Nat.reduceAdd, Nat.reduceEqDiff, Nat.reduceLeDiff, Nat.reduceSub, Nat.reduceMul, Int.reduceEq, eq_self, reduceIte, L66, R66, hx]
  · simp [subHeap, renObj, hx, go_sem, Nat.reduceLT, Nat.reduceAdd, Nat.reduceEqDiff, Nat.reduceLeDiff, Nat.reduceSub, Nat.reduceMul, Int.reduceEq, eq_self, reduceIte]
theorem closedId (x : Id) : ClosedH [.box (cId x)] [.ptr 0 0] := closed1 _ (by simp [cId, renCell, renLeaf]) (by simp [cId, renCell, renLeaf]) (by simp [cId, renCell, renLeaf])
theorem find_meets (l : List Entry) (x : Id) (hl : l.length ≤ 9223372036854775806) : Meets Try.prog 45 [.list (l.map cE), .agg (cId x)] [] (.int .i64 (findE l x)) [] := by
  refine Meets.of_walk Try.func45 Try.ntmps45 low45 res45 (by simp) fun xx hx => ?_
  simp only [go_sem, Nat.reduceLT, Nat.reduceAdd, Nat.reduceEqDiff, Nat.reduceLeDiff, Nat.reduceSub, Nat.reduceMul, Int.reduceEq, eq_self, reduceIte, L45, R45, cId]
  refine ops_call (.heapE [0] (r' := .int .i64 (findE l x)) (H' := [.box (cId x)]) (indexE_meets l 66 [.ptr 0 0] [.box (cId x)] (fun e => decide (e.id = x)) (by kernel_rfl) hl (closedId x) (fun e _ => find1_meets x e)) (by simp) (by simp) (by simp [go_sem, Nat.reduceLT, Nat.reduceAdd, Nat.reduceEqDiff, Nat.reduceLeDiff, Nat.reduceSub, Nat.reduceMul, Int.reduceEq, eq_self, reduceIte, pos]) (by simp [subHeap, renObj, go_sem, Nat.reduceLT, Nat.reduceAdd, Nat.reduceEqDiff, Nat.reduceLeDiff, Nat.reduceSub, Nat.reduceMul, Int.reduceEq, eq_self, reduceIte, cId]) rfl (by simp [merge, mergeObj, callId, renObj, pos, go_sem, Nat.reduceLT, Nat.reduceAdd, Nat.reduceEqDiff, Nat.reduceLeDiff, Nat.reduceSub, Nat.reduceMul, Int.reduceEq, eq_self, reduceIte, List.range_succ, cId])) ?_
  simp only [go_sem, Nat.reduceLT, Nat.reduceAdd, Nat.reduceEqDiff, Nat.reduceLeDiff, Nat.reduceSub, Nat.reduceMul, Int.reduceEq, eq_self, reduceIte]
  refine ret_pure hx ?_
  simp [go_sem, Nat.reduceLT, Nat.reduceAdd, Nat.reduceEqDiff, Nat.reduceLeDiff, Nat.reduceSub, Nat.reduceMul, Int.reduceEq, eq_self, reduceIte, L45, R45]
def cntR (l : List Entry) (r : Int) : Nat := l.countP fun e => decide (e.id.r = r)
theorem cntR_take (l : List Entry) (k : Nat) (r : Int) (h : k < l.length) : cntR (l.take (k + 1)) r = cntR (l.take k) r + if (nth l k).id.r = r then 1 else 0 := by
  rw [List.take_succ_eq_append_getElem h, nth_eq _ _ h]
  simp only [cntR, List.countP_append, List.countP_cons, List.countP_nil, decide_eq_true_eq]
  omega
theorem cntR_le (l : List Entry) (r : Int) : cntR l r ≤ l.length := List.countP_le_length
def okReg (l : List Entry) : Prop := ∀ e ∈ l, e.id.r = 0 ∨ e.id.r = 1
theorem many_meets (l : List Entry) (h : okReg l) (hl : l.length ≤ 1000000000000000) : Meets Try.prog 42 [.list (l.map cE)] [] (.agg [.int .i64 (cntR l 0), .int .i64 (cntR l 1)]) [] := by
  refine Meets.of_walk Try.func42 Try.ntmps42 low42 res42 (by simp) fun x hx => ?_
  simp only [go_sem, Nat.reduceLT, Nat.reduceAdd, Nat.reduceEqDiff, Nat.reduceLeDiff, Nat.reduceSub, Nat.reduceMul, Int.reduceEq, eq_self, reduceIte, L42, R42]
  refine loop_inv [2, 3, 6, 7, 8] 2 (fun n st => ∃ k : Nat, k + n = l.length ∧
    st = ⟨mkE .top [(2, .ptr 0 0), (3, .ptr 1 0), (6, .list (l.map cE)), (7, .int .i64 l.length), (8, .int .i64 k)], [.box [.int .i64 0, .int .i64 0], .box [.int .i64 (cntR (l.take k) 0), .int .i64 (cntR (l.take k) 1)]]⟩) l.length (by simp [hx]) (by simp) ?_ ?_
  · refine ⟨0, by omega, ?_⟩
    simp [trim_mk, go_sem, Nat.reduceLT, Nat.reduceAdd, Nat.reduceEqDiff, Nat.reduceLeDiff, Nat.reduceSub, Nat.reduceMul, Int.reduceEq, eq_self, reduceIte, subHeap, renObj, pos, List.range_succ, cntR]
  · rintro n st ⟨k, hk, rfl⟩
    by_cases hlt : k < l.length
    · have hg : l[k]? = some (nth l k) := nth_get? _ _ hlt
      have wk := i64_up (k := k) (by omega)
      have hle : ∀ r, cntR (l.take k) r ≤ 1000000000000000 := fun r => by have := cntR_le (l.take k) r; rw [List.length_take] at this; omega
      have w0 := i64_up (k := cntR (l.take k) 0) (by have := hle 0; omega)
      have w1 := i64_up (k := cntR (l.take k) 1) (by have := hle 1; omega)
      have c0 := cntR_take l k 0 hlt
      have c1 := cntR_take l k 1 hlt
      rcases h (nth l k) (by rw [nth_eq _ _ hlt]; exact List.getElem_mem hlt) with hr | hr
      · rw [hr] at c0 c1
        simp only [go_sem, Nat.reduceLT, Nat.reduceAdd, Nat.reduceEqDiff, Nat.reduceLeDiff, Nat.reduceSub, Nat.reduceMul, Int.reduceEq, eq_self, reduceIte, hlt, hg, cE, hr, w0, w1, wk, Int.reduceLE, Int.reduceLT, Int.reduceToNat, Int.cast_ofNat_Int, Int.ofNat_zero, Int.toNat_zero, Int.le_refl]
        refine ⟨by simp, n - 1, by omega, k + 1, by omega, ?_⟩
        simp [trim_mk, go_sem, Nat.reduceLT, Nat.reduceAdd, Nat.reduceEqDiff, Nat.reduceLeDiff, Nat.reduceSub, Nat.reduceMul, Int.reduceEq, eq_self, reduceIte, subHeap, renObj, pos, List.range_succ, c0, c1]
      · rw [hr] at c0 c1
        simp only [go_sem, Nat.reduceLT, Nat.reduceAdd, Nat.reduceEqDiff, Nat.reduceLeDiff, Nat.reduceSub, Nat.reduceMul, Int.reduceEq, eq_self, reduceIte, hlt, hg, cE, hr, w0, w1, wk, Int.reduceLE, Int.reduceLT, Int.reduceToNat, Int.cast_ofNat_Int, Int.ofNat_zero, Int.toNat_zero, Int.le_refl]
        refine ⟨by simp, n - 1, by omega, k + 1, by omega, ?_⟩
        simp [trim_mk, go_sem, Nat.reduceLT, Nat.reduceAdd, Nat.reduceEqDiff, Nat.reduceLeDiff, Nat.reduceSub, Nat.reduceMul, Int.reduceEq, eq_self, reduceIte, subHeap, renObj, pos, List.range_succ, c0, c1]
    · have : l.take k = l := List.take_of_length_le (by omega)
      simp only [go_sem, Nat.reduceLT, Nat.reduceAdd, Nat.reduceEqDiff, Nat.reduceLeDiff, Nat.reduceSub, Nat.reduceMul, Int.reduceEq, eq_self, reduceIte, hlt]
      refine ret_pure hx ?_
      simp [go_sem, Nat.reduceLT, Nat.reduceAdd, Nat.reduceEqDiff, Nat.reduceLeDiff, Nat.reduceSub, Nat.reduceMul, Int.reduceEq, eq_self, reduceIte, L42, R42, this]
end Go.Proofs.Ytkibfciheifphaa
/- Logs: being ready, being right: contracts. -/
namespace Go.Proofs.Ytkibfciheifphaa
set_option linter.unusedSimpArgs false
set_option linter.unusedVariables false
open Go.RowKit
def readyB (l : List Entry) (e : Entry) : Bool := decide ((cntR l e.id.r : Int) + 1 = e.id.n) && !(e.ls.any fun x => decide (findE l x < 0))
theorem ready1_meets (l : List Entry) (x : Id) (hl : l.length ≤ 9223372036854775806) : Meets Try.prog 68 [.agg (cId x), .ptr 0 0] [.box [.list (l.map cE)]] (.bool (decide (findE l x < 0))) [.box [.list (l.map cE)]] := by
  refine Meets.of_walk Try.func68 Try.ntmps68 low68 res68 (by simp) fun xx hx => ?_
  simp only [go_sem, Nat.reduceLT, Nat.reduceAdd, Nat.reduceEqDiff, Nat.reduceLeDiff, Nat.reduceSub, Nat.reduceMul, Int.reduceEq, eq_self, reduceIte, L68, R68, cId]
  refine ops_call (.pureE (find_meets l x hl) (by simp [go_sem, Nat.reduceLT, Nat.reduceAdd, Nat.reduceEqDiff, Nat.reduceLeDiff, Nat.reduceSub, Nat.reduceMul, Int.reduceEq, eq_self, reduceIte, cId])) ?_
  simp only [go_sem, Nat.reduceLT, Nat.reduceAdd, Nat.reduceEqDiff, Nat.reduceLeDiff, Nat.reduceSub, Nat.reduceMul, Int.reduceEq, eq_self, reduceIte]
  refine ret_keep [] (by simp) (by simp) (by simp [hx]) ?_ ?_
  · simp [go_sem, Nat.reduceLT, Nat.reduceAdd, Nat.reduceEqDiff, Nat.reduceLeDiff, Nat.reduceSub, Nat.reduceMul, Int.reduceEq, eq_self, reduceIte, L68, R68, hx]
  · simp [subHeap, renObj, hx, go_sem, Nat.reduceLT, Nat.reduceAdd, Nat.reduceEqDiff, Nat.reduceLeDiff, Nat.reduceSub, Nat.reduceMul, Int.reduceEq, eq_self, reduceIte]
theorem closedL (l : List Entry) : ClosedH [.box [.list (l.map cE)]] [.ptr 0 0] := closed1 _ (by simp [renCell, renLeaf]) (by simp [renCell, renLeaf]) (by simp [renCell, renLeaf])
theorem ready_meets (l : List Entry) (e : Entry) (h : okReg l) (hl : l.length ≤ 1000000000000000) (he : e.id.r = 0 ∨ e.id.r = 1) (hls : e.ls.length ≤ 9223372036854775806) :
    Meets Try.prog 46 [.list (l.map cE), .agg (cE e)] [] (.bool (readyB l e)) [] := by
  refine Meets.of_walk Try.func46 Try.ntmps46 low46 res46 (by simp) fun x hx => ?_
  have hw : IntKind.i64.wrap ((cntR l e.id.r : Int) + 1) = (cntR l e.id.r : Int) + 1 := by have := cntR_le l e.id.r; rw [IntWalk.i64_in _ (by omega)]
  simp only [go_sem, Nat.reduceLT, Nat.reduceAdd, Nat.reduceEqDiff, Nat.reduceLeDiff, Nat.reduceSub, Nat.reduceMul, Int.reduceEq, eq_self, reduceIte, L46, R46, cE]
  refine ops_call (.pure (many_meets l h hl)) ?_
  have hany := contFI_meets e.ls 68 [.ptr 0 0] [.box [.list (l.map cE)]] (fun x => decide (findE l x < 0)) (by kernel_rfl) hls (closedL l) (fun y _ => ready1_meets l y (by omega))
  rcases he with hr | hr
  all_goals
    rw [hr] at hw
    by_cases hc : (cntR l e.id.r : Int) + 1 = e.id.n
    · have hc' := hc
      rw [hr] at hc'
      have dc := decide_eq_true hc'
      simp only [go_sem, Nat.reduceLT, Nat.reduceAdd, Nat.reduceEqDiff, Nat.reduceLeDiff, Nat.reduceSub, Nat.reduceMul, Int.reduceEq, eq_self, reduceIte, hr, hw, dc, Int.reduceLE, Int.reduceLT, Int.reduceToNat, Int.cast_ofNat_Int, Int.ofNat_zero, Int.toNat_zero, Int.le_refl]
      refine ops_call (.heapE [0] (r' := .bool (e.ls.any fun x => decide (findE l x < 0))) (H' := [.box [.list (l.map cE)], .box (cE e)]) hany (by simp) (by simp) (by simp [go_sem, Nat.reduceLT, Nat.reduceAdd, Nat.reduceEqDiff, Nat.reduceLeDiff, Nat.reduceSub, Nat.reduceMul, Int.reduceEq, eq_self, reduceIte, pos]) (by simp [subHeap, renObj, go_sem, Nat.reduceLT, Nat.reduceAdd, Nat.reduceEqDiff, Nat.reduceLeDiff, Nat.reduceSub, Nat.reduceMul, Int.reduceEq, eq_self, reduceIte]) rfl (by simp [merge, mergeObj, callId, renObj, pos, go_sem, Nat.reduceLT, Nat.reduceAdd, Nat.reduceEqDiff, Nat.reduceLeDiff, Nat.reduceSub, Nat.reduceMul, Int.reduceEq, eq_self, reduceIte, List.range_succ, cE, hr])) ?_
      simp only [go_sem, Nat.reduceLT, Nat.reduceAdd, Nat.reduceEqDiff, Nat.reduceLeDiff, Nat.reduceSub, Nat.reduceMul, Int.reduceEq, eq_self, reduceIte]
      refine ret_pure hx ?_
      simp [go_sem, Nat.reduceLT, Nat.reduceAdd, Nat.reduceEqDiff, Nat.reduceLeDiff, Nat.reduceSub, Nat.reduceMul, Int.reduceEq, eq_self, reduceIte, L46, R46, readyB, hc]
    · have hc' := hc
      rw [hr] at hc'
      simp only [go_sem, Nat.reduceLT, Nat.reduceAdd, Nat.reduceEqDiff, Nat.reduceLeDiff, Nat.reduceSub, Nat.reduceMul, Int.reduceEq, eq_self, reduceIte, hr, hw, hc', Int.reduceLE, Int.reduceLT, Int.reduceToNat, Int.cast_ofNat_Int, Int.ofNat_zero, Int.toNat_zero, Int.le_refl]
      refine ret_pure hx ?_
      simp [go_sem, Nat.reduceLT, Nat.reduceAdd, Nat.reduceEqDiff, Nat.reduceLeDiff, Nat.reduceSub, Nat.reduceMul, Int.reduceEq, eq_self, reduceIte, L46, R46, readyB, hc]
def logErr (l : List Entry) (k : Nat) : Int :=
  if checkEntry (nth l k) ≠ 0 then checkEntry (nth l k) else if 0 ≤ findE (l.take k) (nth l k).id then 6
  else if (cntR (l.take k) (nth l k).id.r : Int) + 1 ≠ (nth l k).id.n then 4 else if readyB (l.take k) (nth l k) = false then 5 else 0
def checkLog (l : List Entry) : Int := if 40 < l.length then 2 else firstNZ (logErr l) l.length
theorem reg_of_check {e : Entry} (h : checkEntry e = 0) : e.id.r = 0 ∨ e.id.r = 1 := by
  have := (check_ok_bounds h).1
  simp only [okId, Bool.and_eq_true, wthn_iff] at this
  omega
theorem okReg_take {l : List Entry} {k : Nat} (h : firstNZ (logErr l) k = 0) (hk : k ≤ l.length) : okReg (l.take k) := by
  intro e he
  obtain ⟨j, hj, rfl⟩ := List.getElem_of_mem he
  rw [List.length_take] at hj
  have h0 := firstNZ_zero.1 h j (by omega)
  have hc : checkEntry (nth l j) = 0 := by
    unfold logErr at h0
    split at h0
    · exact h0
    · rename_i h; simpa using h
  rw [List.getElem_take, ← nth_eq l j (by omega)]
  exact reg_of_check hc
theorem dagCheck_meets (l : List Entry) (hm : l.length ≤ 9223372036854775806) : Meets Try.prog 23 [.list (l.map cE)] [] (.int .i64 (checkLog l)) [] := by
  refine Meets.of_walk Try.func23 Try.ntmps23 low23 res23 (by simp) fun x hx => ?_
  by_cases h40 : 40 < l.length
  · have d40 : decide ((40 : Int) < (l.length : Nat)) = true := by simp; omega
    simp only [go_sem, Nat.reduceLT, Nat.reduceAdd, Nat.reduceEqDiff, Nat.reduceLeDiff, Nat.reduceSub, Nat.reduceMul, Int.reduceEq, eq_self, reduceIte, L23, R23, d40]
    refine ret_pure hx ?_
    simp [go_sem, Nat.reduceLT, Nat.reduceAdd, Nat.reduceEqDiff, Nat.reduceLeDiff, Nat.reduceSub, Nat.reduceMul, Int.reduceEq, eq_self, reduceIte, L23, R23, checkLog, h40]
  have d40 : decide ((40 : Int) < (l.length : Nat)) = false := by simp; omega
  have hcl : checkLog l = firstNZ (logErr l) l.length := by simp [checkLog, h40]
  simp only [go_sem, Nat.reduceLT, Nat.reduceAdd, Nat.reduceEqDiff, Nat.reduceLeDiff, Nat.reduceSub, Nat.reduceMul, Int.reduceEq, eq_self, reduceIte, L23, R23, d40, hcl]
  refine loop_inv [0, 9, 10, 11] 0 (fun n st => ∃ k : Nat, k + n = l.length ∧ firstNZ (logErr l) k = 0 ∧
    st = ⟨mkE .top [(0, .list (l.map cE)), (9, .list (l.map cE)), (10, .int .i64 l.length), (11, .int .i64 k)], []⟩) l.length (by simp [hx]) (by simp) ?_ ?_
  · refine ⟨0, by omega, rfl, ?_⟩
    simp [trim_mk, go_sem, Nat.reduceLT, Nat.reduceAdd, Nat.reduceEqDiff, Nat.reduceLeDiff, Nat.reduceSub, Nat.reduceMul, Int.reduceEq, eq_self, reduceIte, subHeap, renObj, pos]
  · rintro n st ⟨k, hk, hz, rfl⟩
    by_cases hlt : k < l.length
    · have hg : l[k]? = some (nth l k) := nth_get? _ _ hlt
      have wk := i64_up (k := k) (by omega)
      have hle : k ≤ l.length := by omega
      have hrow : (∀ row ∈ List.map cE l, row.length = 5) = True := eq_true (cE_row l)
      have htk : List.take k (List.map cE l) = List.map cE (List.take k l) := List.map_take.symm
      have hlk : (l.take k).length ≤ 40 := by rw [List.length_take]; omega
      have hreg := okReg_take hz hle
      have fin : ∀ r : Int, logErr l k = r → r ≠ 0 → firstNZ (logErr l) l.length = r := fun r h1 h2 => by rw [firstNZ_hit hz (by rw [h1]; exact h2) hlt, h1]
      simp only [go_sem, Nat.reduceLT, Nat.reduceAdd, Nat.reduceEqDiff, Nat.reduceLeDiff, Nat.reduceSub, Nat.reduceMul, Int.reduceEq, eq_self, reduceIte, hlt, hg, cE]
      refine ops_call (.pureE (check_meets (nth l k)) (by simp [go_sem, Nat.reduceLT, Nat.reduceAdd, Nat.reduceEqDiff, Nat.reduceLeDiff, Nat.reduceSub, Nat.reduceMul, Int.reduceEq, eq_self, reduceIte, cE])) ?_
      by_cases h1 : checkEntry (nth l k) = 0
      · have hr := reg_of_check h1
        simp only [go_sem, Nat.reduceLT, Nat.reduceAdd, Nat.reduceEqDiff, Nat.reduceLeDiff, Nat.reduceSub, Nat.reduceMul, Int.reduceEq, eq_self, reduceIte, h1, hle, hrow, htk, Int.le_refl, Int.sub_zero, Int.toNat_zero, Int.natCast_nonneg, cE]
        refine ops_call (.pureE (find_meets (l.take k) (nth l k).id (by omega)) (by simp [go_sem, Nat.reduceLT, Nat.reduceAdd, Nat.reduceEqDiff, Nat.reduceLeDiff, Nat.reduceSub, Nat.reduceMul, Int.reduceEq, eq_self, reduceIte, cId])) ?_
        by_cases h2 : 0 ≤ findE (l.take k) (nth l k).id
        · simp only [go_sem, Nat.reduceLT, Nat.reduceAdd, Nat.reduceEqDiff, Nat.reduceLeDiff, Nat.reduceSub, Nat.reduceMul, Int.reduceEq, eq_self, reduceIte, h2]
          refine ret_pure hx ?_
          have : logErr l k = 6 := by simp [logErr, h1, h2]
          simp [go_sem, Nat.reduceLT, Nat.reduceAdd, Nat.reduceEqDiff, Nat.reduceLeDiff, Nat.reduceSub, Nat.reduceMul, Int.reduceEq, eq_self, reduceIte, L23, R23, fin _ this (by decide)]
        simp only [go_sem, Nat.reduceLT, Nat.reduceAdd, Nat.reduceEqDiff, Nat.reduceLeDiff, Nat.reduceSub, Nat.reduceMul, Int.reduceEq, eq_self, reduceIte, h2, hle, hrow, htk, Int.le_refl, Int.sub_zero, Int.toNat_zero, Int.natCast_nonneg, cE]
        refine ops_call (.pureE (many_meets (l.take k) hreg (by omega)) (by simp [go_sem, Nat.reduceLT, Nat.reduceAdd, Nat.reduceEqDiff, Nat.reduceLeDiff, Nat.reduceSub, Nat.reduceMul, Int.reduceEq, eq_self, reduceIte])) ?_
        have hw : ∀ r, IntKind.i64.wrap ((cntR (l.take k) r : Int) + 1) = (cntR (l.take k) r : Int) + 1 := fun r => by have := cntR_le (l.take k) r; rw [IntWalk.i64_in _ (by omega)]
        by_cases h3 : (cntR (l.take k) (nth l k).id.r : Int) + 1 = (nth l k).id.n
        · have h3e : logErr l k = if readyB (l.take k) (nth l k) = false then 5 else 0 := by simp [logErr, h1, h2, h3]
          rcases hr with hr | hr
          all_goals
            have h3' := h3
            rw [hr] at h3'
            have dc := decide_eq_true h3'
            simp only [go_sem, Nat.reduceLT, Nat.reduceAdd, Nat.reduceEqDiff, Nat.reduceLeDiff, Nat.reduceSub, Nat.reduceMul, Int.reduceEq, eq_self, reduceIte, hr, hw, dc, hle, hrow, htk, Int.sub_zero, Int.natCast_nonneg, cE, Int.reduceLE, Int.reduceLT, Int.reduceToNat, Int.cast_ofNat_Int, Int.ofNat_zero, Int.toNat_zero, Int.le_refl]
            refine ops_call (.pureE (ready_meets (l.take k) (nth l k) hreg (by omega) (by omega) (by have := (check_ok_bounds h1).2.2.2.1; omega)) (by simp [go_sem, Nat.reduceLT, Nat.reduceAdd, Nat.reduceEqDiff, Nat.reduceLeDiff, Nat.reduceSub, Nat.reduceMul, Int.reduceEq, eq_self, reduceIte, cE, hr])) ?_
            cases h4 : readyB (l.take k) (nth l k)
            · simp only [go_sem, Nat.reduceLT, Nat.reduceAdd, Nat.reduceEqDiff, Nat.reduceLeDiff, Nat.reduceSub, Nat.reduceMul, Int.reduceEq, eq_self, reduceIte]
              refine ret_pure hx ?_
              have : logErr l k = 5 := by rw [h3e, if_pos h4]
              simp [go_sem, Nat.reduceLT, Nat.reduceAdd, Nat.reduceEqDiff, Nat.reduceLeDiff, Nat.reduceSub, Nat.reduceMul, Int.reduceEq, eq_self, reduceIte, L23, R23, fin _ this (by decide)]
            · simp only [go_sem, Nat.reduceLT, Nat.reduceAdd, Nat.reduceEqDiff, Nat.reduceLeDiff, Nat.reduceSub, Nat.reduceMul, Int.reduceEq, eq_self, reduceIte, wk]
              refine ⟨by simp, n - 1, by omega, k + 1, by omega, firstNZ_succ hz (by rw [h3e, if_neg (by simp [h4])]), ?_⟩
              simp [trim_mk, go_sem, Nat.reduceLT, Nat.reduceAdd, Nat.reduceEqDiff, Nat.reduceLeDiff, Nat.reduceSub, Nat.reduceMul, Int.reduceEq, eq_self, reduceIte, subHeap, renObj, pos]
        · rcases hr with hr | hr
          all_goals
            have h3' := h3
            rw [hr] at h3'
            have dc := decide_eq_false h3'
            simp only [go_sem, Nat.reduceLT, Nat.reduceAdd, Nat.reduceEqDiff, Nat.reduceLeDiff, Nat.reduceSub, Nat.reduceMul, Int.reduceEq, eq_self, reduceIte, hr, hw, dc, Int.reduceLE, Int.reduceLT, Int.reduceToNat, Int.cast_ofNat_Int, Int.ofNat_zero, Int.toNat_zero, Int.le_refl]
            refine ret_pure hx ?_
            have : logErr l k = 4 := by simp [logErr, h1, h2, h3]
            simp [go_sem, Nat.reduceLT, Nat.reduceAdd, Nat.reduceEqDiff, Nat.reduceLeDiff, Nat.reduceSub, Nat.reduceMul, Int.reduceEq, eq_self, reduceIte, L23, R23, fin _ this (by decide)]
      · simp only [go_sem, Nat.reduceLT, Nat.reduceAdd, Nat.reduceEqDiff, Nat.reduceLeDiff, Nat.reduceSub, Nat.reduceMul, Int.reduceEq, eq_self, reduceIte, h1]
        refine ret_pure hx ?_
        have : logErr l k = checkEntry (nth l k) := by simp [logErr, h1]
        simp [go_sem, Nat.reduceLT, Nat.reduceAdd, Nat.reduceEqDiff, Nat.reduceLeDiff, Nat.reduceSub, Nat.reduceMul, Int.reduceEq, eq_self, reduceIte, L23, R23, fin _ this h1]
    · have hke : k = l.length := by omega
      subst hke
      simp only [go_sem, Nat.reduceLT, Nat.reduceAdd, Nat.reduceEqDiff, Nat.reduceLeDiff, Nat.reduceSub, Nat.reduceMul, Int.reduceEq, eq_self, reduceIte, Nat.lt_irrefl, hz]
      refine ret_pure hx ?_
      simp [go_sem, Nat.reduceLT, Nat.reduceAdd, Nat.reduceEqDiff, Nat.reduceLeDiff, Nat.reduceSub, Nat.reduceMul, Int.reduceEq, eq_self, reduceIte, L23, R23, hz]
end Go.Proofs.Ytkibfciheifphaa
/- Array objects and the rows of cells where they lie: what holds in memory of an array, and what may be said when its cells were laid anew. -/
namespace Go.Proofs.Ytkibfciheifphaa
open Go.RowKit
section
variable {x : Cx} {C : Conc} {H : List AObj} {w w' : World}
theorem HR.row (hr : HR x C H w) {id v T sz : Nat} {sto : Bool} {rows : List (List PV)} {u : Value} (hid : H[id]? = some (.arr v sto false T sz rows)) (hu : RepV (Stab x C H w) w C (.arr id v) u) :
    u = C.sv id ∧ (∀ row ∈ rows, row.length = sz) ∧ (u = .slice none 0 0 ∧ rows = [] ∨ ∃ (g cap : Nat) (cur : Array Value), u = .slice (some ⟨g, 0, none⟩) rows.length cap ∧ w.heap[g]? = some (.cells cur T (0, 0)) ∧ rows.length ≤ cap ∧ cap ≤ maxLen ∧ cur.size = cap * sz ∧
      ∀ (k : Nat) row (j : Nat) p, rows[k]? = some row → row[j]? = some p → ∃ y, cur[k * sz + j]? = some y ∧ y.oneCell' = true ∧ RepP (Stab x C H w) w p y) := by
  obtain ⟨o1, o2, o3, xs, o4, o5⟩ := hr.obj id _ hid
  obtain ⟨e, hi⟩ := hu.arr_inv o1
  refine ⟨e, o3, ?_⟩
  rcases o4.2 with ⟨g1, g2⟩ | ⟨g, cap, cur, g1, -, g2, g3, g4, g5, g6⟩
  · exact .inl ⟨e.trans g1, List.length_eq_zero_iff.1 g2⟩
  · refine .inr ⟨g, cap, cur, e.trans g1, g2, g3, g4, g5, fun k row j p a b => ?_⟩
    have hk : k < rows.length := (List.getElem?_eq_some_iff.1 a).1
    have hj : j < sz := by rw [← o3 row (List.mem_of_getElem? a)]; exact (List.getElem?_eq_some_iff.1 b).1
    have hkl : k * sz + j < rows.length * sz := by
      have : (k + 1) * sz ≤ rows.length * sz := Nat.mul_le_mul_right _ hk
      rw [Nat.add_mul] at this; omega
    have hcl : rows.length * sz ≤ cap * sz := Nat.mul_le_mul_right _ g3
    have hlt : k * sz + j < cur.size := by omega
    have hx : xs[k * sz + j]? = some cur[k * sz + j] := by rw [← g6, List.getElem?_take, if_pos hkl, Array.getElem?_toList, Array.getElem?_eq_getElem hlt]
    have := o5 k row j p _ a b hx
    simp only [Bool.false_eq_true, if_false] at this
    exact ⟨_, Array.getElem?_eq_getElem hlt, this⟩
theorem HR.drop (hr : HR x C H w) {id v T sz g cap' : Nat} {rows rows' : List (List PV)} {cur' : Array Value} {fr : Nat × Nat}
    (hid : H[id]? = some (.arr v true false T sz rows)) (hs : Step w w' fun b => (C.sv id).ownBlock = some b) (hg : (C.sv id).ownBlock = some g)
    (hc : w'.heap[g]? = some (.cells cur' T fr)) (hn : rows'.length ≤ cap') (hm : cap' ≤ maxLen) (hz : cur'.size = cap' * sz) (hrow : ∀ row ∈ rows', row.length = sz)
    (hrep : ∀ (k : Nat) row (j : Nat) p u, rows'[k]? = some row → row[j]? = some p → cur'[k * sz + j]? = some u → RepP (Stab x C H w) w p u) :
    HR x C (H.set id .gone) w' ∧ (∀ p u, RepV (Stab x C H w) w C p u → RepV (Stab x C (H.set id .gone) w') w' C p u) ∧
      RepP (Stab x C (H.set id .gone) w') w' (.list rows') (.slice (some ⟨g, 0, none⟩) rows'.length cap') := by
  obtain ⟨o1, o2, o3, xs, o4, o5⟩ := hr.obj id _ hid
  have hlt : id < H.length := (List.getElem?_eq_some_iff.1 hid).1
  have hgb : g < w'.heap.size := (Array.getElem?_eq_some_iff.1 hc).1
  have hmp : ∀ p v, RepP (Stab x C H w) w p v → RepP (Stab x C (H.set id .gone) w') w' p v := by
    intro p v h
    refine h.mono (fun b o h => ⟨h.1, Nat.lt_of_lt_of_le h.2.1 hs.size, fun i ob1 hi => ?_⟩) fun b o h => cell_eq (hs.blk b h.2.1 fun hb => ?_)
    · by_cases e : i = id
      · subst e; rw [List.getElem?_set_self hlt] at hi; cases hi; trivial
      · rw [List.getElem?_set_ne (Ne.symm e)] at hi; exact h.2.2 i ob1 hi
    · have := h.2.2 id _ hid hb; simp at this
  obtain ⟨k1, k2⟩ := hr.change (C' := C) hid (ob' := .gone) hs rfl (fun _ => rfl) (fun _ _ => ⟨rfl, rfl⟩) (.inl ⟨rfl, rfl⟩)
    (fun b o hb hf => trivial) (fun b o hb hf => by have := hf hb; simp at this) (fun b hb => hb.elim) (fun _ _ => trivial)
  refine ⟨k1, k2, ?_⟩
  refine .list rows' _ cap' sz (fun k j => cur'[k * sz + j]!) hn hm o2 hrow (fun k row j p a b => ⟨g, 0, rfl, ?_, ?_⟩) fun k row j p a b => ?_
  · refine ⟨?_, hgb, fun i ob1 hi => ?_⟩
    · rcases hr.mine id _ g hid hg with h | h
      · exact .inr (.inl h)
      · exact .inr (.inr h)
    · by_cases e : i = id
      · subst e; rw [List.getElem?_set_self hlt] at hi; cases hi; trivial
      · rw [List.getElem?_set_ne (Ne.symm e)] at hi
        exact AObj.free_of_not (fun hb => e (hr.apart i id ob1 _ g hi hid hb hg)) _
  all_goals
    have hk : k < rows'.length := (List.getElem?_eq_some_iff.1 a).1
    have hj : j < sz := by rw [← hrow row (List.mem_of_getElem? a)]; exact (List.getElem?_eq_some_iff.1 b).1
    have hkl : k * sz + j < cur'.size := by
      have h1 : (k + 1) * sz ≤ rows'.length * sz := Nat.mul_le_mul_right _ hk
      have h2 : rows'.length * sz ≤ cap' * sz := Nat.mul_le_mul_right _ hn
      rw [Nat.add_mul] at h1; omega
  · simp [World.cell?, hc, hkl]
  · exact hmp _ _ (hrep k row j p _ a b (by simp [hkl]))
end
end Go.Proofs.Ytkibfciheifphaa
/- Rows of plain cells: the kit's words on rows, and arrays of the calculus. -/
namespace Go.Proofs.Ytkibfciheifphaa
open Go.RowKit
open Go.Sort (flatK putRowK HoldsK size_flatK get_flatK putCells mapBlock onCells)
structure Flat {α : Type} (pv : α → List PV) (enc : α → List Value) (k : Nat) : Prop where
  k0 : 0 < k
  len : ∀ a, (enc a).length = k
  lenp : ∀ a, (pv a).length = k
  one : ∀ a, ∀ v ∈ enc a, v.oneCell' = true
  fit : ∀ S w a (j : Nat) p, (pv a)[j]? = some p → RepP S w p ((enc a)[j]!)
  back : ∀ S w a (j : Nat) p u, (pv a)[j]? = some p → RepP S w p u → u = (enc a)[j]!
section
variable {α : Type} [Inhabited α] {pv : α → List PV} {enc : α → List Value} {k : Nat}
end
end Go.Proofs.Ytkibfciheifphaa
/- slices.Compact at ids: in memory. -/
namespace Go.Proofs.Ytkibfciheifphaa
open Go.RowKit Go.Lib Go.Sort
open Go.Shelf
end Go.Proofs.Ytkibfciheifphaa
/- slices.Compact at ids: as a contract: an array becomes a list. -/
namespace Go.Proofs.Ytkibfciheifphaa
open Go.RowKit
open Go.Sort (flatK putRowK HoldsK size_flatK get_flatK putCells mapBlock onCells)
section
variable {x : Cx} {C : Conc} {H : List AObj} {w w' : World}
end
def compI (l : List Id) : List Id := Lib.compact l
end Go.Proofs.Ytkibfciheifphaa
/- Library functions of this seat, told apart by number (what the guide's shelf says of them is used by name). -/
namespace Go.Proofs.Ytkibfciheifphaa
open Go.Shelf Go.Proofs
end Go.Proofs.Ytkibfciheifphaa
/- slices.SortFunc at ids by entry.Order: an array of ids is put in order. -/
namespace Go.Proofs.Ytkibfciheifphaa
open Go.RowKit
def sortI (l : List Id) : List Id := l.mergeSort fun x y => !(ltOf ordI) y x
end Go.Proofs.Ytkibfciheifphaa
/- Plain laws of logs: ids in order, what a right log has, pasts. No program in sight. -/
namespace Go.Proofs.Ytkibfciheifphaa
/-! ids in order -/
theorem rise_len : ∀ (l : List Int) (a b : Int), l.Pairwise (· < ·) → (∀ x ∈ l, a ≤ x ∧ x < b) → a ≤ b → (l.length : Int) ≤ b - a
  | [], a, b, _, _, h => by simp; omega
  | x :: l, a, b, hp, hm, h => by
    have hp' := List.pairwise_cons.1 hp
    have hx := hm x (by simp)
    have := rise_len l (x + 1) b hp'.2 (fun y hy => ⟨hp'.1 y hy, (hm y (by simp [hy])).2⟩) (by omega)
    simp only [List.length_cons]; omega
def setI (l : List Id) : List Id := compI (sortI l)
/-! finding -/
theorem idxF_spec {α : Type} [Inhabited α] (p : α → Bool) : ∀ (l : List α) (i : Nat), 0 ≤ idxF p l i → ∃ k : Nat, idxF p l i = i + k ∧ k < l.length ∧ p (nth l k) = true
  | [], i, h => by simp [idxF] at h
  | x :: l, i, h => by
    simp only [idxF] at h ⊢
    split
    · rename_i hx
      exact ⟨0, by simp, by simp, by simpa [nth] using hx⟩
    · rename_i hx
      rw [if_neg hx] at h
      obtain ⟨k, h1, h2, h3⟩ := idxF_spec p l (i + 1) h
      exact ⟨k + 1, by omega, by simp; omega, by simpa [nth] using h3⟩
theorem findE_spec {l : List Entry} {x : Id} (h : 0 ≤ findE l x) : ∃ k : Nat, findE l x = k ∧ k < l.length ∧ (nth l k).id = x := by
  obtain ⟨k, h1, h2, h3⟩ := idxF_spec _ l 0 h
  exact ⟨k, by rw [findE, h1]; simp, h2, by simpa using h3⟩
theorem findE_neg {l : List Entry} {x : Id} : findE l x < 0 ↔ ∀ e ∈ l, e.id ≠ x := by
  rcases idxF_ge (fun e : Entry => decide (e.id = x)) l 0 with ⟨h1, h2⟩ | ⟨h1, h2⟩
  · rw [findE, h1]
    rw [List.any_eq_false] at h2
    exact ⟨fun _ e he => by simpa using h2 e he, fun _ => by omega⟩
  · rw [List.any_eq_true] at h2
    obtain ⟨e, he, hx⟩ := h2
    exact ⟨fun h => by rw [findE] at h; omega, fun h => (h e he (by simpa using hx)).elim⟩
/-! right logs -/
structure LogOk (l : List Entry) : Prop where
  len : l.length ≤ 40
  chk : ∀ k, k < l.length → checkEntry (nth l k) = 0
  new : ∀ k, k < l.length → findE (l.take k) (nth l k).id < 0
  num : ∀ k, k < l.length → (cntR (l.take k) (nth l k).id.r : Int) + 1 = (nth l k).id.n
  lnk : ∀ k, k < l.length → ∀ x ∈ (nth l k).ls, 0 ≤ findE (l.take k) x
theorem log_ok {l : List Entry} : checkLog l = 0 ↔ LogOk l := by
  have key : ∀ k, logErr l k = 0 ↔ checkEntry (nth l k) = 0 ∧ findE (l.take k) (nth l k).id < 0 ∧ (cntR (l.take k) (nth l k).id.r : Int) + 1 = (nth l k).id.n ∧ ∀ x ∈ (nth l k).ls, 0 ≤ findE (l.take k) x := by
    intro k
    unfold logErr
    split
    · rename_i h; exact ⟨fun e => (h e).elim, fun e => (h e.1).elim⟩
    · rename_i h0
      have h0' : checkEntry (nth l k) = 0 := by simpa using h0
      split
      · rename_i h; exact ⟨fun e => (by cases e), fun e => by omega⟩
      · rename_i h1
        split
        · rename_i h; exact ⟨fun e => (by cases e), fun e => (h e.2.2.1).elim⟩
        · rename_i h2
          have h2' : (cntR (l.take k) (nth l k).id.r : Int) + 1 = (nth l k).id.n := by simpa using h2
          have hr : readyB (l.take k) (nth l k) = true ↔ ∀ x ∈ (nth l k).ls, 0 ≤ findE (l.take k) x := by
            simp only [readyB, h2', decide_true, Bool.true_and, Bool.not_eq_true', List.any_eq_false, decide_eq_true_eq]
            exact ⟨fun h x hx => by have := h x hx; omega, fun h x hx => by have := h x hx; omega⟩
          rw [← hr]
          split
          · rename_i h; exact ⟨fun e => (by cases e), fun e => by rw [h] at e; simp at e⟩
          · rename_i h; exact ⟨fun _ => ⟨h0', by omega, h2', by simpa using h⟩, fun _ => rfl⟩
  unfold checkLog
  split
  · rename_i h; exact ⟨fun e => (by cases e), fun e => by have := e.len; omega⟩
  · rename_i h
    rw [firstNZ_zero]
    exact ⟨fun e => ⟨by omega, fun k hk => ((key k).1 (e k hk)).1, fun k hk => ((key k).1 (e k hk)).2.1, fun k hk => ((key k).1 (e k hk)).2.2.1, fun k hk => ((key k).1 (e k hk)).2.2.2⟩,
      fun e k hk => (key k).2 ⟨e.chk k hk, e.new k hk, e.num k hk, e.lnk k hk⟩⟩
theorem LogOk.id_ok {l : List Entry} (h : LogOk l) {k : Nat} (hk : k < l.length) : okId (nth l k).id = true := (check_ok_bounds (h.chk k hk)).1
theorem LogOk.link_ok {l : List Entry} (h : LogOk l) {k : Nat} (hk : k < l.length) {x : Id} (hx : x ∈ (nth l k).ls) : okId x = true := by
  obtain ⟨j, h1, h2, h3⟩ := findE_spec (h.lnk k hk x hx)
  rw [List.length_take] at h2
  have : nth (l.take k) j = nth l j := by rw [nth_eq _ _ (by rw [List.length_take]; omega), nth_eq _ _ (by omega), List.getElem_take]
  rw [← h3, this]
  exact h.id_ok (by omega)
theorem LogOk.links {l : List Entry} (h : LogOk l) {k : Nat} (hk : k < l.length) : (nth l k).ls.length ≤ 6 := (check_ok_bounds (h.chk k hk)).2.2.2.1
theorem LogOk.inj {l : List Entry} (h : LogOk l) {i k : Nat} (hi : i < l.length) (hk : k < l.length) (e : (nth l i).id = (nth l k).id) : i = k := by
  have aux : ∀ i k, i < k → k < l.length → (nth l i).id = (nth l k).id → False := fun i k hik hk e => by
    have := findE_neg.1 (h.new k hk) (nth l i) (by rw [List.mem_take_iff_getElem]; exact ⟨i, by omega, by rw [nth_eq _ _ (by omega)]⟩)
    exact this e
  rcases Nat.lt_trichotomy i k with h1 | h1 | h1
  · exact (aux i k h1 hk e).elim
  · exact h1
  · exact (aux k i h1 hi e.symm).elim
theorem LogOk.find {l : List Entry} (h : LogOk l) {k : Nat} (hk : k < l.length) : findE l (nth l k).id = k := by
  have h0 : ¬ findE l (nth l k).id < 0 := fun hn => findE_neg.1 hn (nth l k) (by rw [nth_eq _ _ hk]; exact List.getElem_mem hk) rfl
  obtain ⟨j, h1, h2, h3⟩ := findE_spec (by omega : 0 ≤ findE l (nth l k).id)
  rw [h1, h.inj h2 hk h3]
/-! pasts -/
def pastAt (ps : List (List Id)) (l : List Entry) (x : Id) : List Id := nth ps (findE l x).toNat
def allOf (ps : List (List Id)) (l : List Entry) (ls : List Id) : List Id := ls.flatMap fun x => x :: pastAt ps l x
def pastsTo (l : List Entry) : Nat → List (List Id)
  | 0 => []
  | k + 1 => pastsTo l k ++ [setI (allOf (pastsTo l k) l (nth l k).ls)]
def pasts (l : List Entry) : List (List Id) := pastsTo l l.length
@[simp] theorem pastsTo_length (l : List Entry) : ∀ k, (pastsTo l k).length = k
  | 0 => rfl
  | k + 1 => by simp [pastsTo, pastsTo_length l k]
theorem pastsTo_nth (l : List Entry) {i k : Nat} (h : i < k) : nth (pastsTo l k) i = nth (pastsTo l (i + 1)) i := by
  induction k with
  | zero => omega
  | succ k ih =>
    by_cases e : i = k
    · rw [e]
    · rw [← ih (by omega), nth_eq _ _ (by simp; omega), nth_eq _ _ (by simp; omega)]
      simp only [pastsTo]
      rw [List.getElem_append_left]
end Go.Proofs.Ytkibfciheifphaa
/- A struct that nobody writes any more: its pointer shows its cells, and its object is let go. -/
namespace Go.Proofs.Ytkibfciheifphaa
open Go.RowKit
end Go.Proofs.Ytkibfciheifphaa
/- Pasts: contracts. -/
namespace Go.Proofs.Ytkibfciheifphaa
set_option linter.unusedSimpArgs false
set_option linter.unusedVariables false
open Go.RowKit
end Go.Proofs.Ytkibfciheifphaa
/- Logs, in the law text's words: counting, finding, being right; colors; ids among others: contracts. -/
namespace Go.Proofs.Ytkibfciheifphaa
set_option linter.unusedSimpArgs false
set_option linter.unusedVariables false
open Go.RowKit
theorem countOf_meets (l : List Entry) (h : okReg l) (hl : l.length ≤ 1000000000000000) : Meets Try.prog 34 [.list (l.map cE)] [] (.agg [.int .i64 (cntR l 0), .int .i64 (cntR l 1)]) [] := by
  refine Meets.of_walk Try.func34 Try.ntmps34 low34 res34 (by simp) fun x hx => ?_
  simp only [go_sem, Nat.reduceLT, Nat.reduceAdd, Nat.reduceEqDiff, Nat.reduceLeDiff, Nat.reduceSub, Nat.reduceMul, Int.reduceEq, eq_self, reduceIte, L34, R34]
  refine loop_inv [0, 2, 3, 4] 2 (fun n st => ∃ k : Nat, k + n = l.length ∧
    st = ⟨mkE .top [(0, .list (l.map cE)), (2, .ptr 0 0), (3, .ptr 1 0), (4, .int .i64 k)], [.box [.int .i64 0, .int .i64 0], .box [.int .i64 (cntR (l.take k) 0), .int .i64 (cntR (l.take k) 1)]]⟩) l.length (by simp [hx]) (by simp) ?_ ?_
  · refine ⟨0, by omega, ?_⟩
    simp [trim_mk, go_sem, Nat.reduceLT, Nat.reduceAdd, Nat.reduceEqDiff, Nat.reduceLeDiff, Nat.reduceSub, Nat.reduceMul, Int.reduceEq, eq_self, reduceIte, subHeap, renObj, pos, List.range_succ, cntR]
  · rintro n st ⟨k, hk, rfl⟩
    by_cases hlt : k < l.length
    · have hg : l[k]? = some (nth l k) := nth_get? _ _ hlt
      have wk := i64_up (k := k) (by omega)
      have hle : ∀ r, cntR (l.take k) r ≤ 1000000000000000 := fun r => by have := cntR_le (l.take k) r; rw [List.length_take] at this; omega
      have w0 := i64_up (k := cntR (l.take k) 0) (by have := hle 0; omega)
      have w1 := i64_up (k := cntR (l.take k) 1) (by have := hle 1; omega)
      have c0 := cntR_take l k 0 hlt
      have c1 := cntR_take l k 1 hlt
      rcases h (nth l k) (by rw [nth_eq _ _ hlt]; exact List.getElem_mem hlt) with hr | hr
      · rw [hr] at c0 c1
        simp only [go_sem, Nat.reduceLT, Nat.reduceAdd, Nat.reduceEqDiff, Nat.reduceLeDiff, Nat.reduceSub, Nat.reduceMul, Int.reduceEq, eq_self, reduceIte, hlt, hg, cE, hr, w0, w1, wk, Int.reduceLE, Int.reduceLT, Int.reduceToNat, Int.cast_ofNat_Int, Int.ofNat_zero, Int.toNat_zero, Int.le_refl]
        refine ⟨by simp, n - 1, by omega, k + 1, by omega, ?_⟩
        simp [trim_mk, go_sem, Nat.reduceLT, Nat.reduceAdd, Nat.reduceEqDiff, Nat.reduceLeDiff, Nat.reduceSub, Nat.reduceMul, Int.reduceEq, eq_self, reduceIte, subHeap, renObj, pos, List.range_succ, c0, c1]
      · rw [hr] at c0 c1
        simp only [go_sem, Nat.reduceLT, Nat.reduceAdd, Nat.reduceEqDiff, Nat.reduceLeDiff, Nat.reduceSub, Nat.reduceMul, Int.reduceEq, eq_self, reduceIte, hlt, hg, cE, hr, w0, w1, wk, Int.reduceLE, Int.reduceLT, Int.reduceToNat, Int.cast_ofNat_Int, Int.ofNat_zero, Int.toNat_zero, Int.le_refl]
        refine ⟨by simp, n - 1, by omega, k + 1, by omega, ?_⟩
        simp [trim_mk, go_sem, Nat.reduceLT, Nat.reduceAdd, Nat.reduceEqDiff, Nat.reduceLeDiff, Nat.reduceSub, Nat.reduceMul, Int.reduceEq, eq_self, reduceIte, subHeap, renObj, pos, List.range_succ, c0, c1]
    · have : l.take k = l := List.take_of_length_le (by omega)
      simp only [go_sem, Nat.reduceLT, Nat.reduceAdd, Nat.reduceEqDiff, Nat.reduceLeDiff, Nat.reduceSub, Nat.reduceMul, Int.reduceEq, eq_self, reduceIte, hlt]
      refine ret_pure hx ?_
      simp [go_sem, Nat.reduceLT, Nat.reduceAdd, Nat.reduceEqDiff, Nat.reduceLeDiff, Nat.reduceSub, Nat.reduceMul, Int.reduceEq, eq_self, reduceIte, L34, R34, this]
theorem entryAt_meets (l : List Entry) (y : Id) (hl : l.length ≤ 9223372036854775806) : Meets Try.prog 33 [.list (l.map cE), .agg (cId y)] [] (.int .i64 (findE l y)) [] := by
  refine Meets.of_walk Try.func33 Try.ntmps33 low33 res33 (by simp) fun x hx => ?_
  simp only [go_sem, Nat.reduceLT, Nat.reduceAdd, Nat.reduceEqDiff, Nat.reduceLeDiff, Nat.reduceSub, Nat.reduceMul, Int.reduceEq, eq_self, reduceIte, L33, R33, cId]
  refine loop_inv [0, 3, 5] 1 (fun n st => ∃ k : Nat, k + n = l.length ∧ idxF (fun e => decide (e.id = y)) (l.drop k) k = findE l y ∧
    st = ⟨mkE .top [(0, .list (l.map cE)), (3, .ptr 0 0), (5, .int .i64 k)], [.box (cId y)]⟩) l.length (by simp [hx]) (by simp) ?_ ?_
  · refine ⟨0, by omega, by simp [findE], ?_⟩
    simp [trim_mk, go_sem, Nat.reduceLT, Nat.reduceAdd, Nat.reduceEqDiff, Nat.reduceLeDiff, Nat.reduceSub, Nat.reduceMul, Int.reduceEq, eq_self, reduceIte, subHeap, renObj, pos, List.range_succ, cId]
  · rintro n st ⟨k, hk, hi, rfl⟩
    by_cases hlt : k < l.length
    · have hg : l[k]? = some (nth l k) := nth_get? _ _ hlt
      have wk := i64_up (k := k) (by omega)
      rw [idxF_drop _ l k hlt] at hi
      by_cases he : (nth l k).id = y
      · simp only [go_sem, Nat.reduceLT, Nat.reduceAdd, Nat.reduceEqDiff, Nat.reduceLeDiff, Nat.reduceSub, Nat.reduceMul, Int.reduceEq, eq_self, reduceIte, hlt, hg, cE, cId, beqId, he]
        refine ret_pure hx ?_
        simp [he] at hi
        simp [go_sem, Nat.reduceLT, Nat.reduceAdd, Nat.reduceEqDiff, Nat.reduceLeDiff, Nat.reduceSub, Nat.reduceMul, Int.reduceEq, eq_self, reduceIte, L33, R33, hi]
      · simp only [go_sem, Nat.reduceLT, Nat.reduceAdd, Nat.reduceEqDiff, Nat.reduceLeDiff, Nat.reduceSub, Nat.reduceMul, Int.reduceEq, eq_self, reduceIte, hlt, hg, cE, cId, beqId, he, wk]
        refine ⟨by simp, n - 1, by omega, k + 1, by omega, by simpa [he] using hi, ?_⟩
        simp [trim_mk, go_sem, Nat.reduceLT, Nat.reduceAdd, Nat.reduceEqDiff, Nat.reduceLeDiff, Nat.reduceSub, Nat.reduceMul, Int.reduceEq, eq_self, reduceIte, subHeap, renObj, pos, List.range_succ, cId]
    · have : l.drop k = [] := List.drop_eq_nil_of_le (by omega)
      rw [this] at hi
      simp only [go_sem, Nat.reduceLT, Nat.reduceAdd, Nat.reduceEqDiff, Nat.reduceLeDiff, Nat.reduceSub, Nat.reduceMul, Int.reduceEq, eq_self, reduceIte, hlt]
      refine ret_pure hx ?_
      simp [go_sem, Nat.reduceLT, Nat.reduceAdd, Nat.reduceEqDiff, Nat.reduceLeDiff, Nat.reduceSub, Nat.reduceMul, Int.reduceEq, eq_self, reduceIte, L33, R33, ← hi, idxF]
theorem checkLog_meets (l : List Entry) (hm : l.length ≤ 9223372036854775806) : Meets Try.prog 12 [.list (l.map cE)] [] (.int .i64 (checkLog l)) [] := by
  refine Meets.of_walk Try.func12 Try.ntmps12 low12 res12 (by simp) fun x hx => ?_
  by_cases h40 : 40 < l.length
  · have d40 : decide ((40 : Int) < (l.length : Nat)) = true := by simp; omega
    simp only [go_sem, Nat.reduceLT, Nat.reduceAdd, Nat.reduceEqDiff, Nat.reduceLeDiff, Nat.reduceSub, Nat.reduceMul, Int.reduceEq, eq_self, reduceIte, L12, R12, d40]
    refine ret_pure hx ?_
    simp [go_sem, Nat.reduceLT, Nat.reduceAdd, Nat.reduceEqDiff, Nat.reduceLeDiff, Nat.reduceSub, Nat.reduceMul, Int.reduceEq, eq_self, reduceIte, L12, R12, checkLog, h40]
  have d40 : decide ((40 : Int) < (l.length : Nat)) = false := by simp; omega
  have hcl : checkLog l = firstNZ (logErr l) l.length := by simp [checkLog, h40]
  simp only [go_sem, Nat.reduceLT, Nat.reduceAdd, Nat.reduceEqDiff, Nat.reduceLeDiff, Nat.reduceSub, Nat.reduceMul, Int.reduceEq, eq_self, reduceIte, L12, R12, d40, hcl]
  refine loop_inv [0, 3] 0 (fun n st => ∃ k : Nat, k + n = l.length ∧ firstNZ (logErr l) k = 0 ∧
    st = ⟨mkE .top [(0, .list (l.map cE)), (3, .int .i64 k)], []⟩) l.length (by simp [hx]) (by simp) ?_ ?_
  · refine ⟨0, by omega, rfl, ?_⟩
    simp [trim_mk, go_sem, Nat.reduceLT, Nat.reduceAdd, Nat.reduceEqDiff, Nat.reduceLeDiff, Nat.reduceSub, Nat.reduceMul, Int.reduceEq, eq_self, reduceIte, subHeap, renObj, pos]
  · rintro n st ⟨k, hk, hz, rfl⟩
    by_cases hlt : k < l.length
    · have hg : l[k]? = some (nth l k) := nth_get? _ _ hlt
      have wk := i64_up (k := k) (by omega)
      have hle : k ≤ l.length := by omega
      have hrow : (∀ row ∈ List.map cE l, row.length = 5) = True := eq_true (cE_row l)
      have htk : List.take k (List.map cE l) = List.map cE (List.take k l) := List.map_take.symm
      have hlk : (l.take k).length ≤ 40 := by rw [List.length_take]; omega
      have hreg := okReg_take hz hle
      have fin : ∀ r : Int, logErr l k = r → r ≠ 0 → firstNZ (logErr l) l.length = r := fun r h1 h2 => by rw [firstNZ_hit hz (by rw [h1]; exact h2) hlt, h1]
      simp only [go_sem, Nat.reduceLT, Nat.reduceAdd, Nat.reduceEqDiff, Nat.reduceLeDiff, Nat.reduceSub, Nat.reduceMul, Int.reduceEq, eq_self, reduceIte, hlt, hg, cE]
      refine ops_call (.pureE (checkEntry_meets (nth l k)) (by simp [go_sem, Nat.reduceLT, Nat.reduceAdd, Nat.reduceEqDiff, Nat.reduceLeDiff, Nat.reduceSub, Nat.reduceMul, Int.reduceEq, eq_self, reduceIte, cE])) ?_
      by_cases h1 : checkEntry (nth l k) = 0
      · have hr := reg_of_check h1
        have hls := (check_ok_bounds h1).2.2.2.1
        simp only [go_sem, Nat.reduceLT, Nat.reduceAdd, Nat.reduceEqDiff, Nat.reduceLeDiff, Nat.reduceSub, Nat.reduceMul, Int.reduceEq, eq_self, reduceIte, h1, hlt, hg, hle, hrow, htk, Int.le_refl, Int.sub_zero, Int.toNat_zero, Int.natCast_nonneg, cE]
        refine ops_call (.pureE (entryAt_meets (l.take k) (nth l k).id (by omega)) (by simp [go_sem, Nat.reduceLT, Nat.reduceAdd, Nat.reduceEqDiff, Nat.reduceLeDiff, Nat.reduceSub, Nat.reduceMul, Int.reduceEq, eq_self, reduceIte, cId])) ?_
        by_cases h2 : 0 ≤ findE (l.take k) (nth l k).id
        · simp only [go_sem, Nat.reduceLT, Nat.reduceAdd, Nat.reduceEqDiff, Nat.reduceLeDiff, Nat.reduceSub, Nat.reduceMul, Int.reduceEq, eq_self, reduceIte, h2]
          refine ret_pure hx ?_
          have : logErr l k = 6 := by simp [logErr, h1, h2]
          simp [go_sem, Nat.reduceLT, Nat.reduceAdd, Nat.reduceEqDiff, Nat.reduceLeDiff, Nat.reduceSub, Nat.reduceMul, Int.reduceEq, eq_self, reduceIte, L12, R12, fin _ this (by decide)]
        simp only [go_sem, Nat.reduceLT, Nat.reduceAdd, Nat.reduceEqDiff, Nat.reduceLeDiff, Nat.reduceSub, Nat.reduceMul, Int.reduceEq, eq_self, reduceIte, h2, hlt, hg, hle, hrow, htk, Int.le_refl, Int.sub_zero, Int.toNat_zero, Int.natCast_nonneg, cE]
        refine ops_call (.pureE (countOf_meets (l.take k) hreg (by omega)) (by simp [go_sem, Nat.reduceLT, Nat.reduceAdd, Nat.reduceEqDiff, Nat.reduceLeDiff, Nat.reduceSub, Nat.reduceMul, Int.reduceEq, eq_self, reduceIte])) ?_
        have hw : ∀ r, IntKind.i64.wrap ((cntR (l.take k) r : Int) + 1) = (cntR (l.take k) r : Int) + 1 := fun r => by have := cntR_le (l.take k) r; rw [IntWalk.i64_in _ (by omega)]
        by_cases h3 : (cntR (l.take k) (nth l k).id.r : Int) + 1 = (nth l k).id.n
        · have h3e : logErr l k = if readyB (l.take k) (nth l k) = false then 5 else 0 := by simp [logErr, h1, h2, h3]
          have hrb : readyB (l.take k) (nth l k) = !((nth l k).ls.any fun x => decide (findE (l.take k) x < 0)) := by simp [readyB, h3]
          have looped : ∀ j, (nth l k).ls.any (fun x => decide (findE (l.take k) x < 0)) = false ∨ j ≤ (nth l k).ls.length → True := fun _ _ => trivial
          rcases hr with hr | hr
          all_goals
            have h3' := h3
            rw [hr] at h3'
            have dc := decide_eq_true h3'
            simp only [go_sem, Nat.reduceLT, Nat.reduceAdd, Nat.reduceEqDiff, Nat.reduceLeDiff, Nat.reduceSub, Nat.reduceMul, Int.reduceEq, eq_self, reduceIte, hr, hw, dc, hlt, hg, hle, hrow, htk, Int.sub_zero, Int.natCast_nonneg, cE, Int.reduceLE, Int.reduceLT, Int.reduceToNat, Int.cast_ofNat_Int, Int.ofNat_zero, Int.toNat_zero, Int.le_refl]
            refine loop_inv [0, 3, 5] 0 (fun n st => ∃ j : Nat, j + n = (nth l k).ls.length ∧ ((nth l k).ls.take j).any (fun x => decide (findE (l.take k) x < 0)) = false ∧
              st = ⟨mkE .top [(0, .list (l.map cE)), (3, .int .i64 k), (5, .int .i64 j)], []⟩) (nth l k).ls.length (by simp [hx]) (by simp) ?_ ?_
            · refine ⟨0, by omega, by simp, ?_⟩
              simp [trim_mk, go_sem, Nat.reduceLT, Nat.reduceAdd, Nat.reduceEqDiff, Nat.reduceLeDiff, Nat.reduceSub, Nat.reduceMul, Int.reduceEq, eq_self, reduceIte, subHeap, renObj, pos]
            · rintro n2 st ⟨j, hj, ha, rfl⟩
              by_cases hlj : j < (nth l k).ls.length
              · have hgj : (nth l k).ls[j]? = some (nth (nth l k).ls j) := nth_get? _ _ hlj
                have wj := i64_up (k := j) (by omega)
                simp only [go_sem, Nat.reduceLT, Nat.reduceAdd, Nat.reduceEqDiff, Nat.reduceLeDiff, Nat.reduceSub, Nat.reduceMul, Int.reduceEq, eq_self, reduceIte, hlt, hg, hlj, hgj, hle, hrow, htk, Int.sub_zero, Int.natCast_nonneg, Int.toNat_zero, Int.le_refl, cE, cId]
                refine ops_call (.pureE (entryAt_meets (l.take k) (nth (nth l k).ls j) (by omega)) (by simp [go_sem, Nat.reduceLT, Nat.reduceAdd, Nat.reduceEqDiff, Nat.reduceLeDiff, Nat.reduceSub, Nat.reduceMul, Int.reduceEq, eq_self, reduceIte, cId])) ?_
                have hsucc : ((nth l k).ls.take (j + 1)).any (fun x => decide (findE (l.take k) x < 0)) = decide (findE (l.take k) (nth (nth l k).ls j) < 0) := by
                  rw [List.take_succ_eq_append_getElem hlj, List.any_append, ha, nth_eq _ _ hlj]; simp
                by_cases h5 : findE (l.take k) (nth (nth l k).ls j) < 0
                · simp only [go_sem, Nat.reduceLT, Nat.reduceAdd, Nat.reduceEqDiff, Nat.reduceLeDiff, Nat.reduceSub, Nat.reduceMul, Int.reduceEq, eq_self, reduceIte, h5]
                  refine ret_pure hx ?_
                  have hall : (nth l k).ls.any (fun x => decide (findE (l.take k) x < 0)) = true := by
                    rw [List.any_eq_true]
                    exact ⟨nth (nth l k).ls j, by rw [nth_eq _ _ hlj]; exact List.getElem_mem hlj, by simp [h5]⟩
                  have : logErr l k = 5 := by rw [h3e, hrb, hall]; rfl
                  simp [go_sem, Nat.reduceLT, Nat.reduceAdd, Nat.reduceEqDiff, Nat.reduceLeDiff, Nat.reduceSub, Nat.reduceMul, Int.reduceEq, eq_self, reduceIte, L12, R12, fin _ this (by decide)]
                · simp only [go_sem, Nat.reduceLT, Nat.reduceAdd, Nat.reduceEqDiff, Nat.reduceLeDiff, Nat.reduceSub, Nat.reduceMul, Int.reduceEq, eq_self, reduceIte, h5, wj]
                  refine ⟨by simp, n2 - 1, by omega, j + 1, by omega, by rw [hsucc]; simp [h5], ?_⟩
                  simp [trim_mk, go_sem, Nat.reduceLT, Nat.reduceAdd, Nat.reduceEqDiff, Nat.reduceLeDiff, Nat.reduceSub, Nat.reduceMul, Int.reduceEq, eq_self, reduceIte, subHeap, renObj, pos]
              · have htl : (nth l k).ls.take j = (nth l k).ls := List.take_of_length_le (by omega)
                rw [htl] at ha
                simp only [go_sem, Nat.reduceLT, Nat.reduceAdd, Nat.reduceEqDiff, Nat.reduceLeDiff, Nat.reduceSub, Nat.reduceMul, Int.reduceEq, eq_self, reduceIte, hlt, hg, hlj, cE, wk]
                refine ⟨by simp, n - 1, by omega, k + 1, by omega, firstNZ_succ hz (by rw [h3e, hrb, ha]; rfl), ?_⟩
                simp [trim_mk, go_sem, Nat.reduceLT, Nat.reduceAdd, Nat.reduceEqDiff, Nat.reduceLeDiff, Nat.reduceSub, Nat.reduceMul, Int.reduceEq, eq_self, reduceIte, subHeap, renObj, pos]
        · rcases hr with hr | hr
          all_goals
            have h3' := h3
            rw [hr] at h3'
            have dc := decide_eq_false h3'
            simp only [go_sem, Nat.reduceLT, Nat.reduceAdd, Nat.reduceEqDiff, Nat.reduceLeDiff, Nat.reduceSub, Nat.reduceMul, Int.reduceEq, eq_self, reduceIte, hr, hw, dc, hlt, hg, cE, Int.reduceLE, Int.reduceLT, Int.reduceToNat, Int.cast_ofNat_Int, Int.ofNat_zero, Int.toNat_zero, Int.le_refl]
            refine ret_pure hx ?_
            have : logErr l k = 4 := by simp [logErr, h1, h2, h3]
            simp [go_sem, Nat.reduceLT, Nat.reduceAdd, Nat.reduceEqDiff, Nat.reduceLeDiff, Nat.reduceSub, Nat.reduceMul, Int.reduceEq, eq_self, reduceIte, L12, R12, fin _ this (by decide)]
      · simp only [go_sem, Nat.reduceLT, Nat.reduceAdd, Nat.reduceEqDiff, Nat.reduceLeDiff, Nat.reduceSub, Nat.reduceMul, Int.reduceEq, eq_self, reduceIte, h1]
        refine ret_pure hx ?_
        have : logErr l k = checkEntry (nth l k) := by simp [logErr, h1]
        simp [go_sem, Nat.reduceLT, Nat.reduceAdd, Nat.reduceEqDiff, Nat.reduceLeDiff, Nat.reduceSub, Nat.reduceMul, Int.reduceEq, eq_self, reduceIte, L12, R12, fin _ this h1]
    · have hke : k = l.length := by omega
      subst hke
      simp only [go_sem, Nat.reduceLT, Nat.reduceAdd, Nat.reduceEqDiff, Nat.reduceLeDiff, Nat.reduceSub, Nat.reduceMul, Int.reduceEq, eq_self, reduceIte, Nat.lt_irrefl, hz]
      refine ret_pure hx ?_
      simp [go_sem, Nat.reduceLT, Nat.reduceAdd, Nat.reduceEqDiff, Nat.reduceLeDiff, Nat.reduceSub, Nat.reduceMul, Int.reduceEq, eq_self, reduceIte, L12, R12, hz]
end Go.Proofs.Ytkibfciheifphaa
/- Pasts, heads, counts: contracts. -/
namespace Go.Proofs.Ytkibfciheifphaa
set_option linter.unusedSimpArgs false
set_option linter.unusedVariables false
open Go.RowKit
def hasI (l : List Id) (y : Id) : Bool := l.any fun x => decide (y = x)
def bitB (c : Int) (i : Nat) : Bool := decide (c / 2 ^ i % 2 = 1)
def meetB (a b : Int) : Bool := (bitB a 0 && bitB b 0) || (bitB a 1 && bitB b 1) || (bitB a 2 && bitB b 2)
def withC (l : List Entry) (c : Int) : List Entry := l.filter fun e => meetB e.c c
theorem LogOk.col {l : List Entry} (h : LogOk l) {k : Nat} (hk : k < l.length) : wthn (nth l k).c 1 7 = true := (check_ok_bounds (h.chk k hk)).2.1
end Go.Proofs.Ytkibfciheifphaa
/- dag.Past, dag.Heads, dag.Count: contracts. -/
namespace Go.Proofs.Ytkibfciheifphaa
set_option linter.unusedSimpArgs false
set_option linter.unusedVariables false
open Go.RowKit
/-! the same in the law text's words -/
end Go.Proofs.Ytkibfciheifphaa
/- Pasts and heads in the law text's words: contracts. -/
namespace Go.Proofs.Ytkibfciheifphaa
set_option linter.unusedSimpArgs false
set_option linter.unusedVariables false
open Go.RowKit
def markL (l : List Entry) (ls : List Id) (M : List Bool) : List Bool := ls.foldl (fun M x => M.set (findE l x).toNat true) M
def markS (l : List Entry) (a i : Nat) (M : List Bool) : List Bool := if i = a ∨ nth M i = true then markL l (nth l i).ls M else M
def marks (l : List Entry) (a : Nat) : Nat → List Bool
  | 0 => List.replicate l.length false
  | s + 1 => markS l a (a - s) (marks l a s)
end Go.Proofs.Ytkibfciheifphaa
/- Ids that are told, rising: a contract. -/
namespace Go.Proofs.Ytkibfciheifphaa
set_option linter.unusedSimpArgs false
set_option linter.unusedVariables false
open Go.RowKit
end Go.Proofs.Ytkibfciheifphaa
/- Heads in the law text's words: a contract. -/
namespace Go.Proofs.Ytkibfciheifphaa
set_option linter.unusedSimpArgs false
set_option linter.unusedVariables false
open Go.RowKit
end Go.Proofs.Ytkibfciheifphaa
/- Plain laws of pasts and heads: what the marks tell. No program in sight. -/
namespace Go.Proofs.Ytkibfciheifphaa
end Go.Proofs.Ytkibfciheifphaa
/- Players of a log: contracts. -/
namespace Go.Proofs.Ytkibfciheifphaa
set_option linter.unusedSimpArgs false
set_option linter.unusedVariables false
open Go.RowKit
theorem cloneI_meets (l : List Id) (hb : l.length ≤ 1000000000) : Meets Try.prog 77 [.list (l.map cId)] [] (.list (l.map cId)) [] := by
  refine Meets.of_walk Try.func77 Try.ntmps77 low77 res77 (by simp) fun x hx => ?_
  simp only [go_sem, Nat.reduceLT, Nat.reduceAdd, Nat.reduceEqDiff, Nat.reduceLeDiff, Nat.reduceSub, Nat.reduceMul, Int.reduceEq, eq_self, reduceIte, L77, R77]
  refine ops_isnil rfl fun b hb' => ?_
  cases b
  · simp only [go_sem, Nat.reduceLT, Nat.reduceAdd, Nat.reduceEqDiff, Nat.reduceLeDiff, Nat.reduceSub, Nat.reduceMul, Int.reduceEq, eq_self, reduceIte]
    rw [app_arr rfl rfl (by simp [cId]) (by simp; omega)]
    simp only [go_sem, Nat.reduceLT, Nat.reduceAdd, Nat.reduceEqDiff, Nat.reduceLeDiff, Nat.reduceSub, Nat.reduceMul, Int.reduceEq, eq_self, reduceIte]
    refine ret_pure hx ?_
    simp [go_sem, Nat.reduceLT, Nat.reduceAdd, Nat.reduceEqDiff, Nat.reduceLeDiff, Nat.reduceSub, Nat.reduceMul, Int.reduceEq, eq_self, reduceIte, L77, R77, pos, frzAt]
  · simp only [go_sem, Nat.reduceLT, Nat.reduceAdd, Nat.reduceEqDiff, Nat.reduceLeDiff, Nat.reduceSub, Nat.reduceMul, Int.reduceEq, eq_self, reduceIte]
    have : l = [] := by simpa using hb' rfl
    subst this
    refine ret_pure hx ?_
    simp [go_sem, Nat.reduceLT, Nat.reduceAdd, Nat.reduceEqDiff, Nat.reduceLeDiff, Nat.reduceSub, Nat.reduceMul, Int.reduceEq, eq_self, reduceIte, L77, R77]
def blkB (l : List Entry) (out : List Id) (y : Id) (e : Entry) : Bool := hasI (pastAt (pasts l) l y) e.id && !hasI out e.id
def mayB (l : List Entry) (c : Int) (out : List Id) (y : Id) : Bool := !(withC l c).any (blkB l out y)
end Go.Proofs.Ytkibfciheifphaa
/- Plain laws of orders: what comes next, and what comes at all. No program in sight. -/
namespace Go.Proofs.Ytkibfciheifphaa
end Go.Proofs.Ytkibfciheifphaa
/- A loop whose objects change places: what stays is chosen anew in each round. -/
namespace Go.Proofs.Ytkibfciheifphaa
open Go.RowKit
section
variable {P : Program} {x : Cx} {nt : Nat} {st : St}
end
end Go.Proofs.Ytkibfciheifphaa
/- Orders: contracts. -/
namespace Go.Proofs.Ytkibfciheifphaa
set_option linter.unusedSimpArgs false
set_option linter.unusedVariables false
open Go.RowKit
structure SomeOk (l : List Entry) (ids : List Id) : Prop where
  there : ∀ x ∈ ids, 0 ≤ findE l x
  once : ids.Nodup
end Go.Proofs.Ytkibfciheifphaa
/- order.Begun, Is, More, First: contracts. -/
namespace Go.Proofs.Ytkibfciheifphaa
set_option linter.unusedSimpArgs false
set_option linter.unusedVariables false
open Go.RowKit
end Go.Proofs.Ytkibfciheifphaa
/- Orders in the law text's words: contracts. -/
namespace Go.Proofs.Ytkibfciheifphaa
set_option linter.unusedSimpArgs false
set_option linter.unusedVariables false
open Go.RowKit
theorem nthM {α : Type} [Inhabited α] {l : List α} {k : Nat} (h : k < l.length) : nth l k ∈ l := by rw [nth_eq _ _ h]; exact List.getElem_mem h
end Go.Proofs.Ytkibfciheifphaa
/- All that comes, in the law text's words: a contract. -/
namespace Go.Proofs.Ytkibfciheifphaa
set_option linter.unusedSimpArgs false
set_option linter.unusedVariables false
open Go.RowKit
end Go.Proofs.Ytkibfciheifphaa
/- Plain laws of orders: what is begun, and how it goes on. No program in sight. -/
namespace Go.Proofs.Ytkibfciheifphaa
structure Good (l : List Entry) (c : Int) (out : List Id) : Prop where
  once : out.Nodup
  col : ∀ x ∈ out, ∃ k, k < l.length ∧ (nth l k).id = x ∧ meetB (nth l k).c c = true
  may : ∀ x ∈ out, mayB l c out x = true
  ord : ∀ i k, i < k → k < out.length → hasI (pastAt (pasts l) l (nth out i)) (nth out k) = false
theorem Good.there {l : List Entry} (h : LogOk l) {c : Int} {out : List Id} (g : Good l c out) : ∀ x ∈ out, 0 ≤ findE l x := fun x hx => by
  obtain ⟨k, k1, rfl, -⟩ := g.col x hx
  rw [h.find k1]; omega
end Go.Proofs.Ytkibfciheifphaa
/- Plain laws of what a vector has of a log. No program in sight. -/
namespace Go.Proofs.Ytkibfciheifphaa
def vAt (v0 v1 r : Int) : Int := if r = 0 then v0 else v1
def inB (v0 v1 : Int) (x : Id) : Bool := decide (x.n ≤ vAt v0 v1 x.r)
end Go.Proofs.Ytkibfciheifphaa
/- Vectors, readers of a log: contracts. -/
namespace Go.Proofs.Ytkibfciheifphaa
set_option linter.unusedSimpArgs false
set_option linter.unusedVariables false
open Go.RowKit
def vErr (v0 v1 : Int) : Int := if wthn v0 0 20 = true ∧ wthn v1 0 20 = true then 0 else 3
theorem vErr_ok {v0 v1 : Int} : vErr v0 v1 = 0 ↔ wthn v0 0 20 = true ∧ wthn v1 0 20 = true := by
  unfold vErr; split <;> simp_all
theorem vecCheck_meets (v0 v1 : Int) : Meets Try.prog 29 [.agg [.int .i64 v0, .int .i64 v1]] [] (.int .i64 (vErr v0 v1)) [] := by
  refine Meets.of_walk Try.func29 Try.ntmps29 low29 res29 (by simp) fun x hx => ?_
  simp only [go_sem, Nat.reduceLT, Nat.reduceAdd, Nat.reduceEqDiff, Nat.reduceLeDiff, Nat.reduceSub, Nat.reduceMul, Int.reduceEq, eq_self, reduceIte, L29, R29]
  refine loop_inv [5, 6] 0 (fun n st => ∃ k : Int, ((n = 2 ∧ k = 0) ∨ (n = 1 ∧ k = 1 ∧ wthn v0 0 20 = true) ∨ (n = 0 ∧ k = 2 ∧ wthn v0 0 20 = true ∧ wthn v1 0 20 = true)) ∧
    st = ⟨mkE .top [(5, .agg [.int .i64 v0, .int .i64 v1]), (6, .int .i64 k)], []⟩) 2 (by simp [hx]) (by simp) ?_ ?_
  · refine ⟨0, .inl ⟨rfl, rfl⟩, ?_⟩
    simp [trim_mk, go_sem, Nat.reduceLT, Nat.reduceAdd, Nat.reduceEqDiff, Nat.reduceLeDiff, Nat.reduceSub, Nat.reduceMul, Int.reduceEq, eq_self, reduceIte, subHeap, renObj, pos]
  · have wr : ∀ k : Int, 0 ≤ k → k ≤ 5 → IntKind.i64.wrap (k + 1) = k + 1 := fun k h1 h2 => IntWalk.i64_in _ (by omega)
    rintro n st ⟨k, hk, rfl⟩
    rcases hk with ⟨rfl, rfl⟩ | ⟨rfl, rfl, h0⟩ | ⟨rfl, rfl, h0, h1⟩
    · by_cases a : v0 < 0
      · simp only [go_sem, Nat.reduceLT, Nat.reduceAdd, Nat.reduceEqDiff, Nat.reduceLeDiff, Nat.reduceSub, Nat.reduceMul, Int.reduceEq, eq_self, reduceIte, a, Int.reduceLT, Int.reduceLE, Int.reduceToNat, Int.toNat_zero, Int.cast_ofNat_Int, Int.le_refl]
        refine ret_pure hx ?_
        have : vErr v0 v1 = 3 := by unfold vErr; rw [if_neg (by rw [wthn_iff]; omega)]
        simp [go_sem, Nat.reduceLT, Nat.reduceAdd, Nat.reduceEqDiff, Nat.reduceLeDiff, Nat.reduceSub, Nat.reduceMul, Int.reduceEq, eq_self, reduceIte, L29, R29, this]
      · by_cases b : 20 < v0
        · simp only [go_sem, Nat.reduceLT, Nat.reduceAdd, Nat.reduceEqDiff, Nat.reduceLeDiff, Nat.reduceSub, Nat.reduceMul, Int.reduceEq, eq_self, reduceIte, a, b, Int.reduceLT, Int.reduceLE, Int.reduceToNat, Int.toNat_zero, Int.cast_ofNat_Int, Int.le_refl]
          refine ret_pure hx ?_
          have : vErr v0 v1 = 3 := by unfold vErr; rw [if_neg (by rw [wthn_iff]; omega)]
          simp [go_sem, Nat.reduceLT, Nat.reduceAdd, Nat.reduceEqDiff, Nat.reduceLeDiff, Nat.reduceSub, Nat.reduceMul, Int.reduceEq, eq_self, reduceIte, L29, R29, this]
        · have w1 := wr 0 (by omega) (by omega)
          simp only [go_sem, Nat.reduceLT, Nat.reduceAdd, Nat.reduceEqDiff, Nat.reduceLeDiff, Nat.reduceSub, Nat.reduceMul, Int.reduceEq, eq_self, reduceIte, a, b, w1, Int.reduceLT, Int.reduceLE, Int.reduceToNat, Int.toNat_zero, Int.cast_ofNat_Int, Int.le_refl]
          refine ⟨by simp, 1, by omega, 1, .inr (.inl ⟨rfl, rfl, by rw [wthn_iff]; omega⟩), ?_⟩
          simp [trim_mk, go_sem, Nat.reduceLT, Nat.reduceAdd, Nat.reduceEqDiff, Nat.reduceLeDiff, Nat.reduceSub, Nat.reduceMul, Int.reduceEq, eq_self, reduceIte, subHeap, renObj, pos]
    · by_cases a : v1 < 0
      · simp only [go_sem, Nat.reduceLT, Nat.reduceAdd, Nat.reduceEqDiff, Nat.reduceLeDiff, Nat.reduceSub, Nat.reduceMul, Int.reduceEq, eq_self, reduceIte, a, Int.reduceLT, Int.reduceLE, Int.reduceToNat, Int.toNat_one, Int.cast_ofNat_Int, Int.le_refl]
        refine ret_pure hx ?_
        have : vErr v0 v1 = 3 := by unfold vErr; rw [if_neg (by rw [wthn_iff, wthn_iff]; omega)]
        simp [go_sem, Nat.reduceLT, Nat.reduceAdd, Nat.reduceEqDiff, Nat.reduceLeDiff, Nat.reduceSub, Nat.reduceMul, Int.reduceEq, eq_self, reduceIte, L29, R29, this]
      · by_cases b : 20 < v1
        · simp only [go_sem, Nat.reduceLT, Nat.reduceAdd, Nat.reduceEqDiff, Nat.reduceLeDiff, Nat.reduceSub, Nat.reduceMul, Int.reduceEq, eq_self, reduceIte, a, b, Int.reduceLT, Int.reduceLE, Int.reduceToNat, Int.toNat_one, Int.cast_ofNat_Int, Int.le_refl]
          refine ret_pure hx ?_
          have : vErr v0 v1 = 3 := by unfold vErr; rw [if_neg (by rw [wthn_iff, wthn_iff]; omega)]
          simp [go_sem, Nat.reduceLT, Nat.reduceAdd, Nat.reduceEqDiff, Nat.reduceLeDiff, Nat.reduceSub, Nat.reduceMul, Int.reduceEq, eq_self, reduceIte, L29, R29, this]
        · have w1 := wr 1 (by omega) (by omega)
          simp only [go_sem, Nat.reduceLT, Nat.reduceAdd, Nat.reduceEqDiff, Nat.reduceLeDiff, Nat.reduceSub, Nat.reduceMul, Int.reduceEq, eq_self, reduceIte, a, b, w1, Int.reduceLT, Int.reduceLE, Int.reduceToNat, Int.toNat_one, Int.cast_ofNat_Int, Int.le_refl]
          refine ⟨by simp, 0, by omega, 2, .inr (.inr ⟨rfl, rfl, h0, by rw [wthn_iff]; omega⟩), ?_⟩
          simp [trim_mk, go_sem, Nat.reduceLT, Nat.reduceAdd, Nat.reduceEqDiff, Nat.reduceLeDiff, Nat.reduceSub, Nat.reduceMul, Int.reduceEq, eq_self, reduceIte, subHeap, renObj, pos]
    · simp only [go_sem, Nat.reduceLT, Nat.reduceAdd, Nat.reduceEqDiff, Nat.reduceLeDiff, Nat.reduceSub, Nat.reduceMul, Int.reduceEq, eq_self, reduceIte, Int.reduceLT]
      refine ret_pure hx ?_
      simp [go_sem, Nat.reduceLT, Nat.reduceAdd, Nat.reduceEqDiff, Nat.reduceLeDiff, Nat.reduceSub, Nat.reduceMul, Int.reduceEq, eq_self, reduceIte, L29, R29, vErr_ok.2 ⟨h0, h1⟩]
theorem checkVec_meets (v0 v1 : Int) : Meets Try.prog 13 [.agg [.int .i64 v0, .int .i64 v1]] [] (.int .i64 (vErr v0 v1)) [] := by
  refine Meets.of_walk Try.func13 Try.ntmps13 low13 res13 (by simp) fun x hx => ?_
  simp only [go_sem, Nat.reduceLT, Nat.reduceAdd, Nat.reduceEqDiff, Nat.reduceLeDiff, Nat.reduceSub, Nat.reduceMul, Int.reduceEq, eq_self, reduceIte, L13, R13, Int.reduceLT, Int.reduceLE, Int.reduceToNat, Int.toNat_zero, Int.toNat_one, Int.cast_ofNat_Int, Int.le_refl]
  refine ops_call (.pureE (between_meets v0 0 20) (by simp [go_sem, Nat.reduceLT, Nat.reduceAdd, Nat.reduceEqDiff, Nat.reduceLeDiff, Nat.reduceSub, Nat.reduceMul, Int.reduceEq, eq_self, reduceIte])) ?_
  cases h0 : wthn v0 0 20
  · simp only [go_sem, Nat.reduceLT, Nat.reduceAdd, Nat.reduceEqDiff, Nat.reduceLeDiff, Nat.reduceSub, Nat.reduceMul, Int.reduceEq, eq_self, reduceIte]
    refine ret_pure hx ?_
    simp [go_sem, Nat.reduceLT, Nat.reduceAdd, Nat.reduceEqDiff, Nat.reduceLeDiff, Nat.reduceSub, Nat.reduceMul, Int.reduceEq, eq_self, reduceIte, L13, R13, vErr, h0]
  · simp only [go_sem, Nat.reduceLT, Nat.reduceAdd, Nat.reduceEqDiff, Nat.reduceLeDiff, Nat.reduceSub, Nat.reduceMul, Int.reduceEq, eq_self, reduceIte, Int.reduceLT, Int.reduceLE, Int.reduceToNat, Int.toNat_zero, Int.toNat_one, Int.cast_ofNat_Int, Int.le_refl]
    refine ops_call (.pureE (between_meets v1 0 20) (by simp [go_sem, Nat.reduceLT, Nat.reduceAdd, Nat.reduceEqDiff, Nat.reduceLeDiff, Nat.reduceSub, Nat.reduceMul, Int.reduceEq, eq_self, reduceIte])) ?_
    cases h1 : wthn v1 0 20
    · simp only [go_sem, Nat.reduceLT, Nat.reduceAdd, Nat.reduceEqDiff, Nat.reduceLeDiff, Nat.reduceSub, Nat.reduceMul, Int.reduceEq, eq_self, reduceIte]
      refine ret_pure hx ?_
      simp [go_sem, Nat.reduceLT, Nat.reduceAdd, Nat.reduceEqDiff, Nat.reduceLeDiff, Nat.reduceSub, Nat.reduceMul, Int.reduceEq, eq_self, reduceIte, L13, R13, vErr, h0, h1]
    · simp only [go_sem, Nat.reduceLT, Nat.reduceAdd, Nat.reduceEqDiff, Nat.reduceLeDiff, Nat.reduceSub, Nat.reduceMul, Int.reduceEq, eq_self, reduceIte]
      refine ret_pure hx ?_
      simp [go_sem, Nat.reduceLT, Nat.reduceAdd, Nat.reduceEqDiff, Nat.reduceLeDiff, Nat.reduceSub, Nat.reduceMul, Int.reduceEq, eq_self, reduceIte, L13, R13, vErr, h0, h1]
theorem holds_meets (v0 v1 : Int) (y : Id) (hr : y.r = 0 ∨ y.r = 1) : Meets Try.prog 55 [.agg [.int .i64 v0, .int .i64 v1], .agg (cId y)] [] (.bool (inB v0 v1 y)) [] := by
  refine Meets.of_walk Try.func55 Try.ntmps55 low55 res55 (by simp) fun x hx => ?_
  rcases hr with hr | hr
  all_goals
    simp only [go_sem, Nat.reduceLT, Nat.reduceAdd, Nat.reduceEqDiff, Nat.reduceLeDiff, Nat.reduceSub, Nat.reduceMul, Int.reduceEq, eq_self, reduceIte, L55, R55, cId, hr, Int.reduceLT, Int.reduceLE, Int.reduceToNat, Int.toNat_zero, Int.toNat_one, Int.cast_ofNat_Int, Int.le_refl]
    refine ret_pure hx ?_
    simp [go_sem, Nat.reduceLT, Nat.reduceAdd, Nat.reduceEqDiff, Nat.reduceLeDiff, Nat.reduceSub, Nat.reduceMul, Int.reduceEq, eq_self, reduceIte, L55, R55, inB, vAt, hr]
/-! method values asked by a function -/
end Go.Proofs.Ytkibfciheifphaa
/- slices.Delete of one element of k cells: in memory, and as a contract. -/
namespace Go.Proofs.Ytkibfciheifphaa
open Go.RowKit Go.Lib Go.Sort
open Go.Shelf
end Go.Proofs.Ytkibfciheifphaa
/- slices.Insert of one element of k cells: in memory. -/
namespace Go.Proofs.Ytkibfciheifphaa
open Go.RowKit Go.Lib Go.Sort
open Go.Shelf
end Go.Proofs.Ytkibfciheifphaa
/- slices.Insert of one element of k cells where there is no room: in memory. -/
namespace Go.Proofs.Ytkibfciheifphaa
open Go.RowKit Go.Lib Go.Sort
open Go.Shelf
end Go.Proofs.Ytkibfciheifphaa
/- slices.Insert of one element of k cells, as a contract. -/
namespace Go.Proofs.Ytkibfciheifphaa
open Go.RowKit Go.Lib Go.Sort
open Go.Shelf
end Go.Proofs.Ytkibfciheifphaa
/- Sites: copies of one's own, those that wait and are ready: contracts. -/
namespace Go.Proofs.Ytkibfciheifphaa
set_option linter.unusedSimpArgs false
set_option linter.unusedVariables false
open Go.RowKit
def fitE (l : List Entry) : Prop := ∀ e ∈ l, (e.id.r = 0 ∨ e.id.r = 1) ∧ e.ls.length ≤ 1000000
theorem entOwn_meets (e : Entry) (hb : e.ls.length ≤ 1000000) : Meets Try.prog 56 [.agg (cE e)] [] (.agg (cE e)) [] := by
  refine Meets.of_walk Try.func56 Try.ntmps56 low56 res56 (by simp) fun x hx => ?_
  simp only [go_sem, Nat.reduceLT, Nat.reduceAdd, Nat.reduceEqDiff, Nat.reduceLeDiff, Nat.reduceSub, Nat.reduceMul, Int.reduceEq, eq_self, reduceIte, L56, R56, cE]
  refine ops_call (.pureE (cloneI_meets e.ls (by omega)) (by simp [go_sem, Nat.reduceLT, Nat.reduceAdd, Nat.reduceEqDiff, Nat.reduceLeDiff, Nat.reduceSub, Nat.reduceMul, Int.reduceEq, eq_self, reduceIte])) ?_
  simp only [go_sem, Nat.reduceLT, Nat.reduceAdd, Nat.reduceEqDiff, Nat.reduceLeDiff, Nat.reduceSub, Nat.reduceMul, Int.reduceEq, eq_self, reduceIte, cE]
  refine ret_pure hx ?_
  simp [go_sem, Nat.reduceLT, Nat.reduceAdd, Nat.reduceEqDiff, Nat.reduceLeDiff, Nat.reduceSub, Nat.reduceMul, Int.reduceEq, eq_self, reduceIte, L56, R56, cE]
theorem end_keep {x : Cx} {nt : Nat} {lrs : List LRes} {r : PV} {Hs' : List AObj} {st : St} (keep : List Nat) (hnd : keep.Nodup) (hlt : ∀ k ∈ keep, x.H0.length ≤ k ∧ k < st.heap.length) (hle : x.H0.length ≤ st.heap.length)
    (h : (evalRes st lrs).map (fun ps => renT true (pos (List.range x.H0.length ++ keep)) (frzAt true st.heap) (tupOf ps)) = some r)
    (h2 : subHeap (pos (List.range x.H0.length ++ keep)) (frzAt true st.heap) st.heap (List.range x.H0.length ++ keep) = Hs') : retQ x nt lrs r Hs' .normal st := by
  obtain ⟨ps, g1, g2⟩ := Option.map_eq_some_iff.1 h
  exact ⟨st, keep, Weak.refl _ _ _, ps, g1, hnd, hlt, hle, g2.symm, h2.symm⟩
end Go.Proofs.Ytkibfciheifphaa
/- Sites: New, Check: contracts. -/
namespace Go.Proofs.Ytkibfciheifphaa
set_option linter.unusedSimpArgs false
set_option linter.unusedVariables false
open Go.RowKit
def siBad (r : Int) (lg ws : List Entry) (k : Nat) : Bool := (decide (0 < k) && !lessB (nth ws (k - 1)).id (nth ws k).id) || decide ((nth ws k).id.r = r) || decide (0 ≤ findE lg (nth ws k).id) || readyB lg (nth ws k)
def siWait (r : Int) (lg ws : List Entry) (k : Nat) : Int := if checkEntry (nth ws k) ≠ 0 then checkEntry (nth ws k) else if siBad r lg ws k = true then 4 else 0
def siErr (r : Int) (lg ws : List Entry) : Int := if ¬ (r = 0 ∨ r = 1) then 3 else if checkLog lg ≠ 0 then checkLog lg else if 20 < ws.length then 2 else firstNZ (siWait r lg ws) ws.length
theorem check_fit {e : Entry} (h : checkEntry e = 0) : (e.id.r = 0 ∨ e.id.r = 1) ∧ e.ls.length ≤ 1000000 := by
  have := (check_ok_bounds h).2.2.2.1
  exact ⟨reg_of_check h, by omega⟩
theorem log_fit {lg : List Entry} (h : LogOk lg) : fitE lg := fun e he => by
  obtain ⟨k, hk, rfl⟩ := List.getElem_of_mem he
  rw [← nth_eq _ _ hk]
  exact check_fit (h.chk k hk)
end Go.Proofs.Ytkibfciheifphaa
/- Sites: Append: contracts. -/
namespace Go.Proofs.Ytkibfciheifphaa
set_option linter.unusedSimpArgs false
set_option linter.unusedVariables false
open Go.RowKit
end Go.Proofs.Ytkibfciheifphaa
/- Sites: Receive: contracts. -/
namespace Go.Proofs.Ytkibfciheifphaa
set_option linter.unusedSimpArgs false
set_option linter.unusedVariables false
open Go.RowKit
def upE (ws : List Entry) : Prop := ∀ i j, i < j → j < ws.length → lessB (nth ws i).id (nth ws j).id = true
end Go.Proofs.Ytkibfciheifphaa
/- Sites, in the law text's words: IsReady, CheckSite, Settled: contracts. -/
namespace Go.Proofs.Ytkibfciheifphaa
set_option linter.unusedSimpArgs false
set_option linter.unusedVariables false
open Go.RowKit
end Go.Proofs.Ytkibfciheifphaa
/- Sites, in the law text's words: AppendOf, ReceiveOf, SameLog and SameSite at one thing twice, siteIs: contracts. -/
namespace Go.Proofs.Ytkibfciheifphaa
set_option linter.unusedSimpArgs false
set_option linter.unusedVariables false
open Go.RowKit
theorem sameLog_meets (l : List Entry) (hl : l.length ≤ 9223372036854775806) : Meets Try.prog 18 [.list (l.map cE), .list (l.map cE)] [] (.bool true) [] := by
  refine Meets.of_walk Try.func18 Try.ntmps18 low18 res18 (by simp) fun x hx => ?_
  simp only [go_sem, Nat.reduceLT, Nat.reduceAdd, Nat.reduceEqDiff, Nat.reduceLeDiff, Nat.reduceSub, Nat.reduceMul, Int.reduceEq, eq_self, reduceIte, L18, R18]
  refine loop_inv [0, 1, 5] 0 (fun n st => ∃ k : Nat, k + n = l.length ∧
    st = ⟨mkE .top [(0, .list (l.map cE)), (1, .list (l.map cE)), (5, .int .i64 k)], []⟩) l.length (by simp [hx]) (by simp) ?_ ?_
  · refine ⟨0, by omega, ?_⟩
    simp [trim_mk, go_sem, Nat.reduceLT, Nat.reduceAdd, Nat.reduceEqDiff, Nat.reduceLeDiff, Nat.reduceSub, Nat.reduceMul, Int.reduceEq, eq_self, reduceIte, subHeap, renObj, pos]
  · rintro n st ⟨k, hk, rfl⟩
    by_cases hlt : k < l.length
    · have hg : l[k]? = some (nth l k) := nth_get? _ _ hlt
      have wk := i64_up (k := k) (by omega)
      have hs : sameE (nth l k) (nth l k) = true := by simp [sameE]
      simp only [go_sem, Nat.reduceLT, Nat.reduceAdd, Nat.reduceEqDiff, Nat.reduceLeDiff, Nat.reduceSub, Nat.reduceMul, Int.reduceEq, eq_self, reduceIte, hlt, hg, cE]
      refine ops_call (.pureE (sameEntry_meets (nth l k) (nth l k)) (by simp [go_sem, Nat.reduceLT, Nat.reduceAdd, Nat.reduceEqDiff, Nat.reduceLeDiff, Nat.reduceSub, Nat.reduceMul, Int.reduceEq, eq_self, reduceIte, cE])) ?_
      rw [hs]
      simp only [go_sem, Nat.reduceLT, Nat.reduceAdd, Nat.reduceEqDiff, Nat.reduceLeDiff, Nat.reduceSub, Nat.reduceMul, Int.reduceEq, eq_self, reduceIte, wk]
      repeat refine ⟨rfl, ?_⟩
      refine ⟨by simp, n - 1, by omega, k + 1, by omega, ?_⟩
      simp [trim_mk, go_sem, Nat.reduceLT, Nat.reduceAdd, Nat.reduceEqDiff, Nat.reduceLeDiff, Nat.reduceSub, Nat.reduceMul, Int.reduceEq, eq_self, reduceIte, subHeap, renObj, pos]
    · simp only [go_sem, Nat.reduceLT, Nat.reduceAdd, Nat.reduceEqDiff, Nat.reduceLeDiff, Nat.reduceSub, Nat.reduceMul, Int.reduceEq, eq_self, reduceIte, hlt]
      refine ret_pure hx ?_
      simp [go_sem, Nat.reduceLT, Nat.reduceAdd, Nat.reduceEqDiff, Nat.reduceLeDiff, Nat.reduceSub, Nat.reduceMul, Int.reduceEq, eq_self, reduceIte, L18, R18]
end Go.Proofs.Ytkibfciheifphaa
/- Sites, in the law text's words: ReceiveOf: a contract. -/
namespace Go.Proofs.Ytkibfciheifphaa
set_option linter.unusedSimpArgs false
set_option linter.unusedVariables false
open Go.RowKit
theorem takeE_succ {l : List Entry} {k : Nat} (h : k < l.length) : l.take (k + 1) = l.take k ++ [nth l k] := by rw [List.take_succ_eq_append_getElem h, nth_eq _ _ h]
end Go.Proofs.Ytkibfciheifphaa
/- Bytes of entries: what is written is read as it was, and what is read is written as it was. No program in sight. -/
namespace Go.Proofs.Ytkibfciheifphaa
open Go.RowKit
theorem bytV_toNat {n : Int} (h0 : 0 ≤ n) (h1 : n < 256) : ((byt n).toNat : Int) = n := by
  have e : n % 256 = n := Int.emod_eq_of_lt h0 h1
  simp only [byt, e, UInt8.toNat_ofNat']
  omega
theorem bytV_small {n : Int} (h0 : 0 ≤ n) (h1 : n ≤ 1) : ¬ 1 < byt n := by
  rw [UInt8.lt_iff_toNat_lt]
  have := bytV_toNat h0 (show n < 256 by omega)
  have e : (1 : UInt8).toNat = 1 := rfl
  omega
theorem okId_bounds {x : Id} (h : okId x = true) : 0 ≤ x.r ∧ x.r ≤ 1 ∧ 1 ≤ x.n ∧ x.n ≤ 20 := by
  simp only [okId, Bool.and_eq_true, wthn_iff] at h
  omega
theorem rdId_idL {x : Id} (h : okId x = true) (r : List UInt8) : rdId (idL x ++ r) = .ok (x, r) := by
  obtain ⟨h1, h2, h3, h4⟩ := okId_bounds h
  simp only [idL, List.cons_append, List.nil_append, rdId, bytV_small h1 h2, if_false, bytV_toNat h1 (show x.r < 256 by omega), bytV_toNat (show 0 ≤ x.n by omega) (show x.n < 256 by omega)]
theorem rdIds_flat : ∀ {l : List Id}, (∀ x ∈ l, okId x = true) → ∀ r, rdIds l.length (l.flatMap idL ++ r) = .ok (l, r)
  | [], _, r => rfl
  | x :: l, h, r => by
    simp only [List.flatMap_cons, List.length_cons, rdIds, List.append_assoc]
    have ih := rdIds_flat (l := l) (fun y hy => h y (by simp [hy])) r
    simp only [rdId_idL (h x (by simp)), ih]
theorem link_ok {e : Id} {ls : List Id} (h : firstNZ (linkErr e ls) ls.length = 0) : ∀ x ∈ ls, okId x = true := by
  intro x hx
  obtain ⟨k, hk, rfl⟩ := List.getElem_of_mem hx
  have := firstNZ_zero.1 h k hk
  rw [← nth_eq ls k hk]
  cases h5 : okId (nth ls k) with
  | true => rfl
  | false => simp [linkErr, h5] at this
theorem rdEntry_enc {e : Entry} (h : checkEntry e = 0) (s : List UInt8) : rdEntry (encL e ++ s) = .ok (e, s) := by
  obtain ⟨h1, h2, h3, h4, h5⟩ := check_ok_bounds h
  obtain ⟨b1, b2, b3, b4⟩ := okId_bounds h1
  rw [wthn_iff] at h2
  have e1 : encL e ++ s = idL e.id ++ (byt e.c :: byt e.ls.length :: (e.ls.flatMap idL ++ (byt e.t.size :: (e.t.data.toList ++ s)))) := by simp [encL, headL, idL]
  rw [e1, rdEntry, rdId_idL h1]
  have e2 : (byt e.ls.length).toNat = e.ls.length := by have := bytV_toNat (show (0 : Int) ≤ (e.ls.length : Int) by omega) (by omega); omega
  have e3 : (byt e.t.size).toNat = e.t.size := by have := bytV_toNat (show (0 : Int) ≤ (e.t.size : Int) by omega) (by omega); omega
  have e4 : e.t.size = e.t.data.toList.length := by show e.t.data.size = _; simp
  simp only [e2, rdIds_flat (link_ok h5), rdTail, e3, bytV_toNat (show 0 ≤ e.c by omega) (show e.c < 256 by omega)]
  rw [if_neg (by rw [e4]; simp), e4, List.take_left, List.drop_left, BA_data]
theorem encL_len (e : Entry) : (encL e).length = 5 + 2 * e.ls.length + e.t.size := by
  have : encL e = preL e e.ls.length ++ (byt e.t.size :: e.t.data.toList) := by simp [encL, preL]
  rw [this, List.length_append, preL_len e _ (Nat.le_refl _)]
  have e4 : e.t.size = e.t.data.toList.length := by show e.t.data.size = _; simp
  rw [List.length_cons, ← e4]; omega
theorem decOut_enc {e : Entry} (h : checkEntry e = 0) (s : List UInt8) : decOut (encL e ++ s) = (e, ((encL e).length : Int), 0) := by
  simp only [decOut, toldOut, rdEntry_enc h, h, if_true, List.length_append]
  simp
end Go.Proofs.Ytkibfciheifphaa
/- Packets: Encode, CheckEntries, PacketBytes, PacketOf, logIs: contracts. -/
namespace Go.Proofs.Ytkibfciheifphaa
set_option linter.unusedSimpArgs false
set_option linter.unusedVariables false
open Go.RowKit
def pkErr (l : List Entry) : Int := if 40 < l.length then 2 else firstNZ (fun k => checkEntry (nth l k)) l.length
def pkB (l : List Entry) : List UInt8 := l.flatMap encL
theorem pkB_take {l : List Entry} {k : Nat} (h : k < l.length) : pkB (l.take (k + 1)) = pkB (l.take k) ++ encL (nth l k) := by
  rw [takeE_succ h]; simp [pkB]
theorem encL_le {e : Entry} (h : checkEntry e = 0) : (encL e).length ≤ 29 := by
  rw [encL_len]
  have := check_ok_bounds h
  omega
theorem pkB_len (l : List Entry) (h : ∀ e ∈ l, checkEntry e = 0) : (pkB l).length ≤ 29 * l.length := by
  induction l with
  | nil => simp [pkB]
  | cons e l ih =>
    have h1 := encL_le (h e List.mem_cons_self)
    have h2 := ih fun x hx => h x (List.mem_cons_of_mem _ hx)
    simp only [pkB, List.flatMap_cons, List.length_append, List.length_cons] at h2 ⊢
    omega
theorem pk_chk {l : List Entry} {k : Nat} (hk : k ≤ l.length) (hz : firstNZ (fun k => checkEntry (nth l k)) k = 0) : ∀ e ∈ l.take k, checkEntry e = 0 := fun e he => by
  rw [List.mem_take_iff_getElem] at he
  obtain ⟨j, hj, rfl⟩ := he
  have := firstNZ_zero.1 hz j (by omega)
  rwa [nth_eq _ _ (by omega)] at this
theorem entBytes_meets (e : Entry) (ht : e.t.size ≤ 12) (h6 : e.ls.length ≤ 6) : Meets Try.prog 27 [.agg (cE e)] [] (.str (BA (encL e))) [] := by
  intro x vs hx hr hp
  obtain ⟨hlen, hp0⟩ := hp
  obtain ⟨v, rfl, hv⟩ : ∃ v, vs = #[v] ∧ RepV (Stab x x.C0 [] x.w0) x.w0 x.C0 (.agg (cE e)) v := by
    cases vs with
    | mk l =>
      match l, hlen with
      | [v], _ => exact ⟨v, rfl, hp0 0 _ v rfl rfl⟩
  obtain ⟨us, rfl, h1, -, h2⟩ := hv.agg_inv
  match us, h1 with
  | [a, b, c, d, lv], _ =>
    have ea := (h2 0 _ a rfl rfl).int_inv
    have eb := (h2 1 _ b rfl rfl).int_inv
    have ec := (h2 2 _ c rfl rfl).int_inv
    have ed := (h2 3 _ d rfl rfl).str_inv
    subst ea; subst eb; subst ec; subst ed
    have hl := rep_ids (fun b o h => h.2.1) (h2 4 _ lv rfl rfl).list_inv
    refine (bytes_calls _ e lv x.w0 hl ht h6).mono fun en w' ⟨he, hb⟩ => ?_
    subst he
    have hstep : Step x.w0 w' fun _ => False := ⟨hb.size, hb.os, hb.tape, hb.output, fun b h _ => hb.block b h⟩
    obtain ⟨k1, -, -⟩ := hr.grow hstep
    exact ⟨_, x.C0, rfl, k1, .pure (.str _)⟩
set_option maxHeartbeats 1000000 in
theorem pkEncode_meets (l : List Entry) (hl : l.length ≤ 1000000000000000) : Meets Try.prog 7 [.list (l.map cE)] [] (.tup [.str (BA (if pkErr l = 0 then pkB l else [])), .int .i64 (pkErr l)]) [] := by
  refine Meets.of_walk Try.func7 Try.ntmps7 low7 res7 (by simp) fun x hx => ?_
  by_cases h40 : (40 : Int) < (l.length : Int)
  · have e : pkErr l = 2 := by rw [pkErr, if_pos (by omega)]
    simp only [go_sem, Nat.reduceLT, Nat.reduceAdd, Nat.reduceEqDiff, Nat.reduceLeDiff, Nat.reduceSub, Nat.reduceMul, Int.reduceEq, eq_self, reduceIte, L7, R7, h40]
    refine ret_pure hx ?_
    simp [go_sem, Nat.reduceLT, Nat.reduceAdd, Nat.reduceEqDiff, Nat.reduceLeDiff, Nat.reduceSub, Nat.reduceMul, Int.reduceEq, eq_self, reduceIte, L7, R7, e, BA]
  · have e : pkErr l = firstNZ (fun k => checkEntry (nth l k)) l.length := by rw [pkErr, if_neg (by omega)]
    simp only [go_sem, Nat.reduceLT, Nat.reduceAdd, Nat.reduceEqDiff, Nat.reduceLeDiff, Nat.reduceSub, Nat.reduceMul, Int.reduceEq, eq_self, reduceIte, L7, R7, h40]
    refine loop_inv [4, 11, 12, 13] 0 (fun m st => ∃ k : Nat, k + m = l.length ∧ firstNZ (fun k => checkEntry (nth l k)) k = 0 ∧
      st = ⟨mkE .top [(4, .str (BA (pkB (l.take k)))), (11, .list (l.map cE)), (12, .int .i64 l.length), (13, .int .i64 k)], []⟩) l.length (by simp [hx]) (by simp) ?_ ?_
    · refine ⟨0, by omega, rfl, ?_⟩
      simp [trim_mk, go_sem, Nat.reduceLT, Nat.reduceAdd, Nat.reduceEqDiff, Nat.reduceLeDiff, Nat.reduceSub, Nat.reduceMul, Int.reduceEq, eq_self, reduceIte, subHeap, renObj, pos, List.range_succ, pkB, BA]
    · rintro m st ⟨k, hk, hz, rfl⟩
      by_cases hlt : k < l.length
      · have hg : l[k]? = some (nth l k) := nth_get? _ _ hlt
        have wk := i64_up (k := k) (by omega)
        simp only [go_sem, Nat.reduceLT, Nat.reduceAdd, Nat.reduceEqDiff, Nat.reduceLeDiff, Nat.reduceSub, Nat.reduceMul, Int.reduceEq, eq_self, reduceIte, hlt, hg, cE]
        refine ops_call (.pureE (check_meets (nth l k)) (by simp [go_sem, Nat.reduceLT, Nat.reduceAdd, Nat.reduceEqDiff, Nat.reduceLeDiff, Nat.reduceSub, Nat.reduceMul, Int.reduceEq, eq_self, reduceIte, cE])) ?_
        by_cases h1 : checkEntry (nth l k) = 0
        · have hb := check_ok_bounds h1
          have hp := pkB_len _ (pk_chk (by omega) hz)
          have hle := encL_le h1
          have htl : (l.take k).length = k := by rw [List.length_take]; omega
          rw [htl] at hp
          have hsz : ((pkB (l.take k)).length + (encL (nth l k)).length ≤ 4611686018427387904) = True := eq_true (by omega)
          simp only [go_sem, Nat.reduceLT, Nat.reduceAdd, Nat.reduceEqDiff, Nat.reduceLeDiff, Nat.reduceSub, Nat.reduceMul, Int.reduceEq, eq_self, reduceIte, h1, cE]
          refine ops_call (.pureE (entBytes_meets (nth l k) (by omega) (by omega)) (by simp [go_sem, Nat.reduceLT, Nat.reduceAdd, Nat.reduceEqDiff, Nat.reduceLeDiff, Nat.reduceSub, Nat.reduceMul, Int.reduceEq, eq_self, reduceIte, cE])) ?_
          simp only [go_sem, Nat.reduceLT, Nat.reduceAdd, Nat.reduceEqDiff, Nat.reduceLeDiff, Nat.reduceSub, Nat.reduceMul, Int.reduceEq, eq_self, reduceIte, BA_app, BA_size, hsz, wk]
          refine ⟨by simp, m - 1, by omega, k + 1, by omega, firstNZ_succ hz h1, ?_⟩
          simp [trim_mk, go_sem, Nat.reduceLT, Nat.reduceAdd, Nat.reduceEqDiff, Nat.reduceLeDiff, Nat.reduceSub, Nat.reduceMul, Int.reduceEq, eq_self, reduceIte, subHeap, renObj, pos, List.range_succ, pkB_take hlt]
        · have e2 : pkErr l = checkEntry (nth l k) := by rw [e, firstNZ_hit hz h1 hlt]
          simp only [go_sem, Nat.reduceLT, Nat.reduceAdd, Nat.reduceEqDiff, Nat.reduceLeDiff, Nat.reduceSub, Nat.reduceMul, Int.reduceEq, eq_self, reduceIte, h1]
          refine ret_pure hx ?_
          simp [go_sem, Nat.reduceLT, Nat.reduceAdd, Nat.reduceEqDiff, Nat.reduceLeDiff, Nat.reduceSub, Nat.reduceMul, Int.reduceEq, eq_self, reduceIte, L7, R7, e2, h1, BA]
      · obtain rfl : k = l.length := by omega
        simp only [go_sem, Nat.reduceLT, Nat.reduceAdd, Nat.reduceEqDiff, Nat.reduceLeDiff, Nat.reduceSub, Nat.reduceMul, Int.reduceEq, eq_self, reduceIte, hlt]
        refine ret_pure hx ?_
        simp [go_sem, Nat.reduceLT, Nat.reduceAdd, Nat.reduceEqDiff, Nat.reduceLeDiff, Nat.reduceSub, Nat.reduceMul, Int.reduceEq, eq_self, reduceIte, L7, R7, e, hz]
theorem checkEntries_meets (l : List Entry) (hl : l.length ≤ 1000000000000000) : Meets Try.prog 10 [.list (l.map cE)] [] (.int .i64 (pkErr l)) [] := by
  refine Meets.of_walk Try.func10 Try.ntmps10 low10 res10 (by simp) fun x hx => ?_
  by_cases h40 : (40 : Int) < (l.length : Int)
  · have e : pkErr l = 2 := by rw [pkErr, if_pos (by omega)]
    simp only [go_sem, Nat.reduceLT, Nat.reduceAdd, Nat.reduceEqDiff, Nat.reduceLeDiff, Nat.reduceSub, Nat.reduceMul, Int.reduceEq, eq_self, reduceIte, L10, R10, h40]
    refine ret_pure hx ?_
    simp [go_sem, Nat.reduceLT, Nat.reduceAdd, Nat.reduceEqDiff, Nat.reduceLeDiff, Nat.reduceSub, Nat.reduceMul, Int.reduceEq, eq_self, reduceIte, L10, R10, e]
  · have e : pkErr l = firstNZ (fun k => checkEntry (nth l k)) l.length := by rw [pkErr, if_neg (by omega)]
    simp only [go_sem, Nat.reduceLT, Nat.reduceAdd, Nat.reduceEqDiff, Nat.reduceLeDiff, Nat.reduceSub, Nat.reduceMul, Int.reduceEq, eq_self, reduceIte, L10, R10, h40]
    refine loop_inv [0, 3] 0 (fun m st => ∃ k : Nat, k + m = l.length ∧ firstNZ (fun k => checkEntry (nth l k)) k = 0 ∧
      st = ⟨mkE .top [(0, .list (l.map cE)), (3, .int .i64 k)], []⟩) l.length (by simp [hx]) (by simp) ?_ ?_
    · refine ⟨0, by omega, rfl, ?_⟩
      simp [trim_mk, go_sem, Nat.reduceLT, Nat.reduceAdd, Nat.reduceEqDiff, Nat.reduceLeDiff, Nat.reduceSub, Nat.reduceMul, Int.reduceEq, eq_self, reduceIte, subHeap, renObj, pos, List.range_succ]
    · rintro m st ⟨k, hk, hz, rfl⟩
      by_cases hlt : k < l.length
      · have hg : l[k]? = some (nth l k) := nth_get? _ _ hlt
        have wk := i64_up (k := k) (by omega)
        simp only [go_sem, Nat.reduceLT, Nat.reduceAdd, Nat.reduceEqDiff, Nat.reduceLeDiff, Nat.reduceSub, Nat.reduceMul, Int.reduceEq, eq_self, reduceIte, hlt, hg, cE]
        refine ops_call (.pureE (checkEntry_meets (nth l k)) (by simp [go_sem, Nat.reduceLT, Nat.reduceAdd, Nat.reduceEqDiff, Nat.reduceLeDiff, Nat.reduceSub, Nat.reduceMul, Int.reduceEq, eq_self, reduceIte, cE])) ?_
        by_cases h1 : checkEntry (nth l k) = 0
        · simp only [go_sem, Nat.reduceLT, Nat.reduceAdd, Nat.reduceEqDiff, Nat.reduceLeDiff, Nat.reduceSub, Nat.reduceMul, Int.reduceEq, eq_self, reduceIte, h1, wk]
          refine ⟨by simp, m - 1, by omega, k + 1, by omega, firstNZ_succ hz h1, ?_⟩
          simp [trim_mk, go_sem, Nat.reduceLT, Nat.reduceAdd, Nat.reduceEqDiff, Nat.reduceLeDiff, Nat.reduceSub, Nat.reduceMul, Int.reduceEq, eq_self, reduceIte, subHeap, renObj, pos, List.range_succ]
        · have e2 : pkErr l = checkEntry (nth l k) := by rw [e, firstNZ_hit hz h1 hlt]
          simp only [go_sem, Nat.reduceLT, Nat.reduceAdd, Nat.reduceEqDiff, Nat.reduceLeDiff, Nat.reduceSub, Nat.reduceMul, Int.reduceEq, eq_self, reduceIte, h1]
          refine ret_pure hx ?_
          simp [go_sem, Nat.reduceLT, Nat.reduceAdd, Nat.reduceEqDiff, Nat.reduceLeDiff, Nat.reduceSub, Nat.reduceMul, Int.reduceEq, eq_self, reduceIte, L10, R10, e2]
      · obtain rfl : k = l.length := by omega
        simp only [go_sem, Nat.reduceLT, Nat.reduceAdd, Nat.reduceEqDiff, Nat.reduceLeDiff, Nat.reduceSub, Nat.reduceMul, Int.reduceEq, eq_self, reduceIte, hlt]
        refine ret_pure hx ?_
        simp [go_sem, Nat.reduceLT, Nat.reduceAdd, Nat.reduceEqDiff, Nat.reduceLeDiff, Nat.reduceSub, Nat.reduceMul, Int.reduceEq, eq_self, reduceIte, L10, R10, e, hz]
theorem packetBytes_meets (l : List Entry) (h : pkErr l = 0) : Meets Try.prog 11 [.list (l.map cE)] [] (.str (BA (pkB l))) [] := by
  have h40 : l.length ≤ 40 := by
    by_cases h2 : 40 < l.length
    · rw [pkErr, if_pos h2] at h; cases h
    · omega
  have hz : firstNZ (fun k => checkEntry (nth l k)) l.length = 0 := by rwa [pkErr, if_neg (by omega)] at h
  have hall : ∀ k, k < l.length → checkEntry (nth l k) = 0 := firstNZ_zero.1 hz
  refine Meets.of_walk Try.func11 Try.ntmps11 low11 res11 (by simp) fun x hx => ?_
  simp only [go_sem, Nat.reduceLT, Nat.reduceAdd, Nat.reduceEqDiff, Nat.reduceLeDiff, Nat.reduceSub, Nat.reduceMul, Int.reduceEq, eq_self, reduceIte, L11, R11]
  refine loop_inv [0, 3, 4] 0 (fun m st => ∃ k : Nat, k + m = l.length ∧
    st = ⟨mkE .top [(0, .list (l.map cE)), (3, .str (BA (pkB (l.take k)))), (4, .int .i64 k)], []⟩) l.length (by simp [hx]) (by simp) ?_ ?_
  · refine ⟨0, by omega, ?_⟩
    simp [trim_mk, go_sem, Nat.reduceLT, Nat.reduceAdd, Nat.reduceEqDiff, Nat.reduceLeDiff, Nat.reduceSub, Nat.reduceMul, Int.reduceEq, eq_self, reduceIte, subHeap, renObj, pos, List.range_succ, pkB, BA]
  · rintro m st ⟨k, hk, rfl⟩
    by_cases hlt : k < l.length
    · have hg : l[k]? = some (nth l k) := nth_get? _ _ hlt
      have wk := i64_up (k := k) (by omega)
      have h1 := hall k hlt
      have hb := check_ok_bounds h1
      have hp := pkB_len (l.take k) fun e he => by
        rw [List.mem_take_iff_getElem] at he
        obtain ⟨j, hj, rfl⟩ := he
        have := hall j (by omega)
        rwa [nth_eq _ _ (by omega)] at this
      have hle := encL_le h1
      have htl : (l.take k).length = k := by rw [List.length_take]; omega
      rw [htl] at hp
      have hsz : ((pkB (l.take k)).length + (encL (nth l k)).length ≤ 4611686018427387904) = True := eq_true (by omega)
      simp only [go_sem, Nat.reduceLT, Nat.reduceAdd, Nat.reduceEqDiff, Nat.reduceLeDiff, Nat.reduceSub, Nat.reduceMul, Int.reduceEq, eq_self, reduceIte, hlt, hg, cE]
      refine ops_call (.pureE (entryBytes_meets (nth l k) (by omega) (by omega)) (by simp [go_sem, Nat.reduceLT, Nat.reduceAdd, Nat.reduceEqDiff, Nat.reduceLeDiff, Nat.reduceSub, Nat.reduceMul, Int.reduceEq, eq_self, reduceIte, cE])) ?_
      simp only [go_sem, Nat.reduceLT, Nat.reduceAdd, Nat.reduceEqDiff, Nat.reduceLeDiff, Nat.reduceSub, Nat.reduceMul, Int.reduceEq, eq_self, reduceIte, BA_app, BA_size, hsz, wk]
      refine ⟨by simp, m - 1, by omega, k + 1, by omega, ?_⟩
      simp [trim_mk, go_sem, Nat.reduceLT, Nat.reduceAdd, Nat.reduceEqDiff, Nat.reduceLeDiff, Nat.reduceSub, Nat.reduceMul, Int.reduceEq, eq_self, reduceIte, subHeap, renObj, pos, List.range_succ, pkB_take hlt]
    · obtain rfl : k = l.length := by omega
      simp only [go_sem, Nat.reduceLT, Nat.reduceAdd, Nat.reduceEqDiff, Nat.reduceLeDiff, Nat.reduceSub, Nat.reduceMul, Int.reduceEq, eq_self, reduceIte, hlt]
      refine ret_pure hx ?_
      simp [go_sem, Nat.reduceLT, Nat.reduceAdd, Nat.reduceEqDiff, Nat.reduceLeDiff, Nat.reduceSub, Nat.reduceMul, Int.reduceEq, eq_self, reduceIte, L11, R11]
theorem logIs_meets (l : List Entry) (e : Int) (hl : l.length ≤ 9223372036854775806) (h : e ≠ 0 → l = []) : Meets Try.prog 17 [.list (l.map cE), .int .i64 e, .int .i64 e, .list (l.map cE)] [] (.bool true) [] := by
  refine Meets.of_walk Try.func17 Try.ntmps17 low17 res17 (by simp) fun x hx => ?_
  by_cases h0 : e = 0
  · simp only [go_sem, Nat.reduceLT, Nat.reduceAdd, Nat.reduceEqDiff, Nat.reduceLeDiff, Nat.reduceSub, Nat.reduceMul, Int.reduceEq, eq_self, reduceIte, L17, R17, h0]
    refine ops_call (.pureE (sameLog_meets l hl) (by simp [go_sem, Nat.reduceLT, Nat.reduceAdd, Nat.reduceEqDiff, Nat.reduceLeDiff, Nat.reduceSub, Nat.reduceMul, Int.reduceEq, eq_self, reduceIte])) ?_
    simp only [go_sem, Nat.reduceLT, Nat.reduceAdd, Nat.reduceEqDiff, Nat.reduceLeDiff, Nat.reduceSub, Nat.reduceMul, Int.reduceEq, eq_self, reduceIte]
    refine ret_pure hx ?_
    simp [go_sem, Nat.reduceLT, Nat.reduceAdd, Nat.reduceEqDiff, Nat.reduceLeDiff, Nat.reduceSub, Nat.reduceMul, Int.reduceEq, eq_self, reduceIte, L17, R17]
  · obtain rfl := h h0
    simp only [go_sem, Nat.reduceLT, Nat.reduceAdd, Nat.reduceEqDiff, Nat.reduceLeDiff, Nat.reduceSub, Nat.reduceMul, Int.reduceEq, eq_self, reduceIte, L17, R17, h0]
    refine ops_call (.pureE (sameLog_meets [] (by simp)) (by simp [go_sem, Nat.reduceLT, Nat.reduceAdd, Nat.reduceEqDiff, Nat.reduceLeDiff, Nat.reduceSub, Nat.reduceMul, Int.reduceEq, eq_self, reduceIte])) ?_
    simp only [go_sem, Nat.reduceLT, Nat.reduceAdd, Nat.reduceEqDiff, Nat.reduceLeDiff, Nat.reduceSub, Nat.reduceMul, Int.reduceEq, eq_self, reduceIte]
    refine ret_pure hx ?_
    simp [go_sem, Nat.reduceLT, Nat.reduceAdd, Nat.reduceEqDiff, Nat.reduceLeDiff, Nat.reduceSub, Nat.reduceMul, Int.reduceEq, eq_self, reduceIte, L17, R17]
end Go.Proofs.Ytkibfciheifphaa
/- Packets: PacketOf, Missing, MissingOf: contracts. -/
namespace Go.Proofs.Ytkibfciheifphaa
set_option linter.unusedSimpArgs false
set_option linter.unusedVariables false
open Go.RowKit
def misL (l : List Entry) (v0 v1 : Int) : List Entry := l.filter fun e => !inB v0 v1 e.id
theorem misL_take {l : List Entry} {v0 v1 : Int} {k : Nat} (h : k < l.length) : misL (l.take (k + 1)) v0 v1 = misL (l.take k) v0 v1 ++ if inB v0 v1 (nth l k).id then [] else [nth l k] := by
  rw [takeE_succ h, misL, List.filter_append]
  cases hb : inB v0 v1 (nth l k).id <;> simp [misL, hb]
theorem misL_len (l : List Entry) (v0 v1 : Int) : (misL l v0 v1).length ≤ l.length := List.length_filter_le _ _
set_option maxHeartbeats 1000000 in
theorem packetOf_meets (t : List UInt8) (ht : t.length ≤ maxLen) : Meets Try.prog 15 [.str (BA t)] [] (.tup [.list ((pkOut t.length t []).1.map cE), .int .i64 (pkOut t.length t []).2]) [] := by
  refine Meets.of_walk Try.func15 Try.ntmps15 low15 res15 (by simp) fun x hx => ?_
  simp only [go_sem, Nat.reduceLT, Nat.reduceAdd, Nat.reduceEqDiff, Nat.reduceLeDiff, Nat.reduceSub, Nat.reduceMul, Int.reduceEq, eq_self, reduceIte, L15, R15]
  refine W_weak (weak_own 4 0 44 5 true false rfl (by omega)) ?_
  rw [put_mk]
  refine loop_inv [0, 4] 1 (fun m st => ∃ (r : List UInt8) (es : List Entry) (v : Nat), r.length = m ∧ r.length ≤ maxLen ∧ es.length ≤ 40 ∧ pkOut t.length t [] = pkOut r.length r es ∧
    st = ⟨mkE .top [(0, .str (BA r)), (4, .arr 0 v)], [.arr v true false 44 5 (es.map cE)]⟩) t.length (by simp [hx]) (by simp) ?_ ?_
  · refine ⟨t, [], 0, rfl, ht, by simp, rfl, ?_⟩
    simp [trim_mk, go_sem, Nat.reduceLT, Nat.reduceAdd, Nat.reduceEqDiff, Nat.reduceLeDiff, Nat.reduceSub, Nat.reduceMul, Int.reduceEq, eq_self, reduceIte, subHeap, renObj, renCell, renLeaf, pos, List.range_succ]
  · rintro m st ⟨r, es, v, hm, hmx, hle, hpk, rfl⟩
    by_cases hr : r = []
    · subst hr
      have e : pkOut t.length t [] = (es, 0) := hpk
      simp only [go_sem, Nat.reduceLT, Nat.reduceAdd, Nat.reduceEqDiff, Nat.reduceLeDiff, Nat.reduceSub, Nat.reduceMul, Int.reduceEq, eq_self, reduceIte, BA_nil_iff]
      refine ret_weak (weak_shut 0 rfl) ?_
      refine ret_pure hx ?_
      simp [go_sem, Nat.reduceLT, Nat.reduceAdd, Nat.reduceEqDiff, Nat.reduceLeDiff, Nat.reduceSub, Nat.reduceMul, Int.reduceEq, eq_self, reduceIte, L15, R15, e, frzAt, pos]
    · simp only [go_sem, Nat.reduceLT, Nat.reduceAdd, Nat.reduceEqDiff, Nat.reduceLeDiff, Nat.reduceSub, Nat.reduceMul, Int.reduceEq, eq_self, reduceIte, BA_nil_iff, hr]
      refine ops_call (.pureE (entryOf_meets r hmx) (by simp [go_sem, Nat.reduceLT, Nat.reduceAdd, Nat.reduceEqDiff, Nat.reduceLeDiff, Nat.reduceSub, Nat.reduceMul, Int.reduceEq, eq_self, reduceIte])) ?_
      simp only [go_sem, Nat.reduceLT, Nat.reduceAdd, Nat.reduceEqDiff, Nat.reduceLeDiff, Nat.reduceSub, Nat.reduceMul, Int.reduceEq, eq_self, reduceIte, decP, cE]
      by_cases h1 : (decOut r).2.2 = 0
      · obtain ⟨k, hk, kpos, kle⟩ := dec_adv h1
        by_cases h40 : (es.length : Int) = 40
        · have e : pkOut t.length t [] = ([], 2) := by rw [hpk, pkOut_many hr h1 (by omega)]
          simp only [go_sem, Nat.reduceLT, Nat.reduceAdd, Nat.reduceEqDiff, Nat.reduceLeDiff, Nat.reduceSub, Nat.reduceMul, Int.reduceEq, eq_self, reduceIte, h1, h40]
          refine ret_pure hx ?_
          simp [go_sem, Nat.reduceLT, Nat.reduceAdd, Nat.reduceEqDiff, Nat.reduceLeDiff, Nat.reduceSub, Nat.reduceMul, Int.reduceEq, eq_self, reduceIte, L15, R15, e]
        · have hsl : (BA r).extract k r.length = BA (r.drop k) := by rw [BA_extract, List.take_of_length_le (by rw [List.length_drop]; omega)]
          have hki : (k : Int) ≤ (r.length : Int) := by omega
          have hce : List.map cE es ++ [[PV.int .i64 (decOut r).1.id.r, .int .i64 (decOut r).1.id.n, .int .i64 (decOut r).1.c, .str (decOut r).1.t, .list ((decOut r).1.ls.map cId)]] = (es ++ [(decOut r).1]).map cE := by simp [cE]
          simp only [go_sem, Nat.reduceLT, Nat.reduceAdd, Nat.reduceEqDiff, Nat.reduceLeDiff, Nat.reduceSub, Nat.reduceMul, Int.reduceEq, eq_self, reduceIte, h1, h40, hk]
          rw [app_arr rfl rfl (by simp) (by simp; omega)]
          simp only [go_sem, Nat.reduceLT, Nat.reduceAdd, Nat.reduceEqDiff, Nat.reduceLeDiff, Nat.reduceSub, Nat.reduceMul, Int.reduceEq, eq_self, reduceIte, hce, BA_size, Int.natCast_nonneg, hki, Int.le_refl, Int.toNat_natCast, hsl]
          refine ⟨by simp, (r.drop k).length, by rw [List.length_drop]; omega, r.drop k, es ++ [(decOut r).1], v + 1, rfl, by rw [List.length_drop]; omega, by simp; omega, ?_, ?_⟩
          · rw [hpk, pkOut_step hr h1 (by omega) hk]
          · simp [trim_mk, go_sem, Nat.reduceLT, Nat.reduceAdd, Nat.reduceEqDiff, Nat.reduceLeDiff, Nat.reduceSub, Nat.reduceMul, Int.reduceEq, eq_self, reduceIte, subHeap, renObj, renCell, renLeaf, pos, List.range_succ]
      · have e : pkOut t.length t [] = ([], 1) := by rw [hpk, pkOut_bad hr h1]
        simp only [go_sem, Nat.reduceLT, Nat.reduceAdd, Nat.reduceEqDiff, Nat.reduceLeDiff, Nat.reduceSub, Nat.reduceMul, Int.reduceEq, eq_self, reduceIte, h1]
        refine ret_pure hx ?_
        simp [go_sem, Nat.reduceLT, Nat.reduceAdd, Nat.reduceEqDiff, Nat.reduceLeDiff, Nat.reduceSub, Nat.reduceMul, Int.reduceEq, eq_self, reduceIte, L15, R15, e]
set_option maxHeartbeats 1000000 in
theorem missingOf_meets (l : List Entry) (v0 v1 : Int) (hl : l.length ≤ 1000000) (h : ∀ e ∈ l, e.id.r = 0 ∨ e.id.r = 1) : Meets Try.prog 14 [.list (l.map cE), .agg [.int .i64 v0, .int .i64 v1]] [] (.list ((misL l v0 v1).map cE)) [] := by
  refine Meets.of_walk Try.func14 Try.ntmps14 low14 res14 (by simp) fun x hx => ?_
  simp only [go_sem, Nat.reduceLT, Nat.reduceAdd, Nat.reduceEqDiff, Nat.reduceLeDiff, Nat.reduceSub, Nat.reduceMul, Int.reduceEq, eq_self, reduceIte, L14, R14]
  refine W_weak (weak_own 5 0 44 5 true false rfl (by omega)) ?_
  rw [put_mk]
  refine loop_inv [0, 3, 5, 6] 2 (fun m st => ∃ k v : Nat, k + m = l.length ∧
    st = ⟨mkE .top [(0, .list (l.map cE)), (3, .ptr 0 0), (5, .arr 1 v), (6, .int .i64 k)], [.box [.int .i64 v0, .int .i64 v1], .arr v true false 44 5 ((misL (l.take k) v0 v1).map cE)]⟩) l.length (by simp [hx]) (by simp) ?_ ?_
  · refine ⟨0, 0, by omega, ?_⟩
    simp [trim_mk, go_sem, Nat.reduceLT, Nat.reduceAdd, Nat.reduceEqDiff, Nat.reduceLeDiff, Nat.reduceSub, Nat.reduceMul, Int.reduceEq, eq_self, reduceIte, subHeap, renObj, renCell, renLeaf, pos, List.range_succ, misL]
  · rintro m st ⟨k, v, hk, rfl⟩
    by_cases hlt : k < l.length
    · have hg : l[k]? = some (nth l k) := nth_get? _ _ hlt
      have wk := i64_up (k := k) (by omega)
      have hs := misL_take (v0 := v0) (v1 := v1) hlt
      have hle := misL_len (l.take k) v0 v1
      have htl : (l.take k).length ≤ k := by rw [List.length_take]; omega
      have hin : inB v0 v1 (nth l k).id = decide ((nth l k).id.n ≤ vAt v0 v1 (nth l k).id.r) := rfl
      rcases h _ (nthM hlt) with hr | hr
      all_goals
        rw [hin, hr] at hs
        by_cases hb : (nth l k).id.n ≤ vAt v0 v1 (nth l k).id.r
        · rw [hr] at hb
          rw [decide_eq_true hb, if_pos rfl, List.append_nil] at hs
          have hb : (nth l k).id.n ≤ _ := hb
          have hb2 : ¬ (vAt v0 v1 (nth l k).id.r < (nth l k).id.n) := by rw [hr]; omega
          rw [hr] at hb2
          simp only [vAt, Int.reduceEq, if_true, if_false] at hb2
          simp only [go_sem, Nat.reduceLT, Nat.reduceAdd, Nat.reduceEqDiff, Nat.reduceLeDiff, Nat.reduceSub, Nat.reduceMul, Int.reduceEq, eq_self, reduceIte, hlt, hg, cE, hr, Int.ofNat_zero, Int.natCast_one, Int.cast_ofNat_Int, Int.reduceLT, Int.reduceLE, Int.reduceToNat, Nat.reduceLT, Int.toNat_zero, Int.natCast_zero, Int.le_refl, Int.lt_irrefl, Int.reduceAdd, frz, false_or, or_true, hb2, wk]
          repeat refine ⟨rfl, ?_⟩
          try simp only [go_sem, Nat.reduceLT, Nat.reduceAdd, Nat.reduceEqDiff, Nat.reduceLeDiff, Nat.reduceSub, Nat.reduceMul, Int.reduceEq, eq_self, reduceIte, Int.ofNat_zero, Int.natCast_one, Int.cast_ofNat_Int, Int.reduceLT, Int.reduceLE, Int.reduceToNat, Nat.reduceLT, Int.toNat_zero, Int.natCast_zero, Int.le_refl, Int.lt_irrefl, Int.reduceAdd, frz, false_or, or_true, wk]
          refine ⟨by simp, m - 1, by omega, k + 1, v, by omega, ?_⟩
          simp [trim_mk, go_sem, Nat.reduceLT, Nat.reduceAdd, Nat.reduceEqDiff, Nat.reduceLeDiff, Nat.reduceSub, Nat.reduceMul, Int.reduceEq, eq_self, reduceIte, subHeap, renObj, renCell, renLeaf, pos, List.range_succ, hs]
        · rw [hr] at hb
          rw [decide_eq_false hb, if_neg (by decide)] at hs
          have hb2 : vAt v0 v1 (nth l k).id.r < (nth l k).id.n := by rw [hr]; omega
          rw [hr] at hb2
          simp only [vAt, Int.reduceEq, if_true, if_false] at hb2
          simp only [go_sem, Nat.reduceLT, Nat.reduceAdd, Nat.reduceEqDiff, Nat.reduceLeDiff, Nat.reduceSub, Nat.reduceMul, Int.reduceEq, eq_self, reduceIte, hlt, hg, cE, hr, Int.ofNat_zero, Int.natCast_one, Int.cast_ofNat_Int, Int.reduceLT, Int.reduceLE, Int.reduceToNat, Nat.reduceLT, Int.toNat_zero, Int.natCast_zero, Int.le_refl, Int.lt_irrefl, Int.reduceAdd, frz, false_or, or_true, hb2]
          repeat refine ⟨rfl, ?_⟩
          try simp only [go_sem, Nat.reduceLT, Nat.reduceAdd, Nat.reduceEqDiff, Nat.reduceLeDiff, Nat.reduceSub, Nat.reduceMul, Int.reduceEq, eq_self, reduceIte, hlt, hg, cE, Int.ofNat_zero, Int.natCast_one, Int.cast_ofNat_Int, Int.reduceLT, Int.reduceLE, Int.reduceToNat, Nat.reduceLT, Int.toNat_zero, Int.natCast_zero, Int.le_refl, Int.lt_irrefl, Int.reduceAdd, frz, false_or, or_true]
          rw [app_arr rfl rfl (by simp) (by simp; omega)]
          simp only [go_sem, Nat.reduceLT, Nat.reduceAdd, Nat.reduceEqDiff, Nat.reduceLeDiff, Nat.reduceSub, Nat.reduceMul, Int.reduceEq, eq_self, reduceIte, wk]
          refine ⟨by simp, m - 1, by omega, k + 1, v + 1, by omega, ?_⟩
          simp [trim_mk, go_sem, Nat.reduceLT, Nat.reduceAdd, Nat.reduceEqDiff, Nat.reduceLeDiff, Nat.reduceSub, Nat.reduceMul, Int.reduceEq, eq_self, reduceIte, subHeap, renObj, renCell, renLeaf, pos, List.range_succ, hs, cE, hr]
    · have htk : l.take k = l := List.take_of_length_le (by omega)
      rw [htk]
      simp only [go_sem, Nat.reduceLT, Nat.reduceAdd, Nat.reduceEqDiff, Nat.reduceLeDiff, Nat.reduceSub, Nat.reduceMul, Int.reduceEq, eq_self, reduceIte, hlt]
      refine ret_weak (weak_shut 1 rfl) ?_
      refine ret_pure hx ?_
      simp [go_sem, Nat.reduceLT, Nat.reduceAdd, Nat.reduceEqDiff, Nat.reduceLeDiff, Nat.reduceSub, Nat.reduceMul, Int.reduceEq, eq_self, reduceIte, L14, R14, frzAt, pos]
def hM (v0 v1 : Int) (v : Nat) (es : List Entry) : List AObj := [.box [.int .i64 v0, .int .i64 v1], .box [.arr 2 v], .arr v true false 44 5 (es.map cE)]
theorem restF_meets (v0 v1 : Int) (v : Nat) (es : List Entry) (e : Entry) (hr : e.id.r = 0 ∨ e.id.r = 1) (hls : e.ls.length ≤ 1000000) (hl : es.length ≤ 1000000) :
    Meets Try.prog 54 [.agg (cE e), .ptr 0 0, .ptr 1 0] (hM v0 v1 v es) (.tup []) (hM v0 v1 (if inB v0 v1 e.id then v else v + 1) (es ++ if inB v0 v1 e.id then [] else [e])) := by
  refine Meets.of_walk Try.func54 Try.ntmps54 low54 res54 (by simp) fun x hx => ?_
  simp only [go_sem, Nat.reduceLT, Nat.reduceAdd, Nat.reduceEqDiff, Nat.reduceLeDiff, Nat.reduceSub, Nat.reduceMul, Int.reduceEq, eq_self, reduceIte, L54, R54, hM, cE]
  refine ops_call (.pureE (holds_meets v0 v1 e.id hr) (by simp [go_sem, Nat.reduceLT, Nat.reduceAdd, Nat.reduceEqDiff, Nat.reduceLeDiff, Nat.reduceSub, Nat.reduceMul, Int.reduceEq, eq_self, reduceIte, cId])) ?_
  cases hb : inB v0 v1 e.id
  · simp only [go_sem, Nat.reduceLT, Nat.reduceAdd, Nat.reduceEqDiff, Nat.reduceLeDiff, Nat.reduceSub, Nat.reduceMul, Int.reduceEq, eq_self, reduceIte, cE]
    refine ops_call (.pureE (entOwn_meets e hls) (by simp [go_sem, Nat.reduceLT, Nat.reduceAdd, Nat.reduceEqDiff, Nat.reduceLeDiff, Nat.reduceSub, Nat.reduceMul, Int.reduceEq, eq_self, reduceIte, cE])) ?_
    simp only [go_sem, Nat.reduceLT, Nat.reduceAdd, Nat.reduceEqDiff, Nat.reduceLeDiff, Nat.reduceSub, Nat.reduceMul, Int.reduceEq, eq_self, reduceIte, cE]
    rw [app_arr rfl rfl (by simp) (by simp; omega)]
    simp only [go_sem, Nat.reduceLT, Nat.reduceAdd, Nat.reduceEqDiff, Nat.reduceLeDiff, Nat.reduceSub, Nat.reduceMul, Int.reduceEq, eq_self, reduceIte]
    repeat refine ⟨rfl, ?_⟩
    try simp only [go_sem, Nat.reduceLT, Nat.reduceAdd, Nat.reduceEqDiff, Nat.reduceLeDiff, Nat.reduceSub, Nat.reduceMul, Int.reduceEq, eq_self, reduceIte]
    refine end_keep [] (by simp) (by simp) (by simp [hx, hM]) ?_ ?_
    · simp [go_sem, Nat.reduceLT, Nat.reduceAdd, Nat.reduceEqDiff, Nat.reduceLeDiff, Nat.reduceSub, Nat.reduceMul, Int.reduceEq, eq_self, reduceIte, L54, R54, hx, pos, hM]
    · simp [subHeap, renObj, renCell, renLeaf, hx, pos, go_sem, Nat.reduceLT, Nat.reduceAdd, Nat.reduceEqDiff, Nat.reduceLeDiff, Nat.reduceSub, Nat.reduceMul, Int.reduceEq, eq_self, reduceIte, hM, List.range_succ, cE]
  · simp only [go_sem, Nat.reduceLT, Nat.reduceAdd, Nat.reduceEqDiff, Nat.reduceLeDiff, Nat.reduceSub, Nat.reduceMul, Int.reduceEq, eq_self, reduceIte]
    refine end_keep [] (by simp) (by simp) (by simp [hx, hM]) ?_ ?_
    · simp [go_sem, Nat.reduceLT, Nat.reduceAdd, Nat.reduceEqDiff, Nat.reduceLeDiff, Nat.reduceSub, Nat.reduceMul, Int.reduceEq, eq_self, reduceIte, L54, R54, hx, pos, hM]
    · simp [subHeap, renObj, renCell, renLeaf, hx, pos, go_sem, Nat.reduceLT, Nat.reduceAdd, Nat.reduceEqDiff, Nat.reduceLeDiff, Nat.reduceSub, Nat.reduceMul, Int.reduceEq, eq_self, reduceIte, hM, List.range_succ]
set_option maxHeartbeats 1000000 in
theorem rest_meets (l : List Entry) (v0 v1 : Int) (hl : l.length ≤ 1000000) (h : fitE l) : Meets Try.prog 30 [.list (l.map cE), .agg [.int .i64 v0, .int .i64 v1]] [] (.list ((misL l v0 v1).map cE)) [] := by
  refine Meets.of_walk Try.func30 Try.ntmps30 low30 res30 (by simp) fun x hx => ?_
  simp only [go_sem, Nat.reduceLT, Nat.reduceAdd, Nat.reduceEqDiff, Nat.reduceLeDiff, Nat.reduceSub, Nat.reduceMul, Int.reduceEq, eq_self, reduceIte, L30, R30]
  refine W_weak (weak_ownc 1 0 0 44 5 true false rfl rfl (by omega)) ?_
  refine loop_inv [5, 6, 10, 11, 12] 3 (fun m st => ∃ k v : Nat, k + m = l.length ∧
    st = ⟨mkE .top [(5, .ptr 1 0), (6, .clo 54 [.ptr 0 0, .ptr 1 0]), (10, .list (l.map cE)), (11, .int .i64 l.length), (12, .int .i64 k)], hM v0 v1 v (misL (l.take k) v0 v1)⟩) l.length (by simp [hx]) (by simp) ?_ ?_
  · refine ⟨0, 0, by omega, ?_⟩
    simp [trim_mk, go_sem, Nat.reduceLT, Nat.reduceAdd, Nat.reduceEqDiff, Nat.reduceLeDiff, Nat.reduceSub, Nat.reduceMul, Int.reduceEq, eq_self, reduceIte, subHeap, renObj, renCell, renLeaf, pos, List.range_succ, misL, hM, renT, ren]
  · rintro m st ⟨k, v, hk, rfl⟩
    by_cases hlt : k < l.length
    · have hg : l[k]? = some (nth l k) := nth_get? _ _ hlt
      have wk := i64_up (k := k) (by omega)
      have hs := misL_take (v0 := v0) (v1 := v1) hlt
      have hle := misL_len (l.take k) v0 v1
      have htl : (l.take k).length ≤ k := by rw [List.length_take]; omega
      have hf := h _ (nthM hlt)
      have hcall := restF_meets v0 v1 v (misL (l.take k) v0 v1) (nth l k) hf.1 hf.2 (by omega)
      rw [show misL (l.take k) v0 v1 ++ (if inB v0 v1 (nth l k).id then [] else [nth l k]) = misL (l.take (k + 1)) v0 v1 from hs.symm] at hcall
      generalize (if inB v0 v1 (nth l k).id then v else v + 1) = v' at hcall
      simp only [go_sem, Nat.reduceLT, Nat.reduceAdd, Nat.reduceEqDiff, Nat.reduceLeDiff, Nat.reduceSub, Nat.reduceMul, Int.reduceEq, eq_self, reduceIte, hlt, hg, cE, hM]
      refine ops_callv rfl (by kernel_rfl) (.heapE [0, 1, 2] (r' := .tup []) (H' := hM v0 v1 v' (misL (l.take (k + 1)) v0 v1) ++ [.box (cE (nth l k))]) hcall (by simp) (by simp) (by simp [go_sem, Nat.reduceLT, Nat.reduceAdd, Nat.reduceEqDiff, Nat.reduceLeDiff, Nat.reduceSub, Nat.reduceMul, Int.reduceEq, eq_self, reduceIte, pos, cE]) ?_ ?_ ?_) ?_
      · simp [subHeap, renObj, renCell, renLeaf, pos, hM]
      · simp [renT, ren]
      · simp [merge, mergeObj, callId, backF, backId, renObj, renCell, renLeaf, pos, List.range_succ, hM, cE]
      simp only [go_sem, Nat.reduceLT, Nat.reduceAdd, Nat.reduceEqDiff, Nat.reduceLeDiff, Nat.reduceSub, Nat.reduceMul, Int.reduceEq, eq_self, reduceIte, hM, wk, List.cons_append, List.nil_append]
      refine ⟨by simp, m - 1, by omega, k + 1, v', by omega, ?_⟩
      simp [trim_mk, go_sem, Nat.reduceLT, Nat.reduceAdd, Nat.reduceEqDiff, Nat.reduceLeDiff, Nat.reduceSub, Nat.reduceMul, Int.reduceEq, eq_self, reduceIte, subHeap, renObj, renCell, renLeaf, pos, List.range_succ, hM, renT, ren]
    · have htk : l.take k = l := List.take_of_length_le (by omega)
      rw [htk]
      simp only [go_sem, Nat.reduceLT, Nat.reduceAdd, Nat.reduceEqDiff, Nat.reduceLeDiff, Nat.reduceSub, Nat.reduceMul, Int.reduceEq, eq_self, reduceIte, hlt, hM]
      refine ret_weak (weak_shut 2 rfl) ?_
      refine ret_pure hx ?_
      simp [go_sem, Nat.reduceLT, Nat.reduceAdd, Nat.reduceEqDiff, Nat.reduceLeDiff, Nat.reduceSub, Nat.reduceMul, Int.reduceEq, eq_self, reduceIte, L30, R30, frzAt, pos]
def misErr (l : List Entry) (v0 v1 : Int) : Int := if checkLog l = 0 then vErr v0 v1 else checkLog l
theorem missing_meets (l : List Entry) (v0 v1 : Int) (hl : l.length ≤ 1000000000000000) : Meets Try.prog 9 [.list (l.map cE), .agg [.int .i64 v0, .int .i64 v1]] [] (.tup [.list ((if misErr l v0 v1 = 0 then misL l v0 v1 else []).map cE), .int .i64 (misErr l v0 v1)]) [] := by
  refine Meets.of_walk Try.func9 Try.ntmps9 low9 res9 (by simp) fun x hx => ?_
  simp only [go_sem, Nat.reduceLT, Nat.reduceAdd, Nat.reduceEqDiff, Nat.reduceLeDiff, Nat.reduceSub, Nat.reduceMul, Int.reduceEq, eq_self, reduceIte, L9, R9]
  refine ops_call (.pureE (dagCheck_meets l (by omega)) (by simp [go_sem, Nat.reduceLT, Nat.reduceAdd, Nat.reduceEqDiff, Nat.reduceLeDiff, Nat.reduceSub, Nat.reduceMul, Int.reduceEq, eq_self, reduceIte])) ?_
  by_cases h1 : checkLog l = 0
  · have hok := log_ok.1 h1
    have hlen := hok.len
    simp only [go_sem, Nat.reduceLT, Nat.reduceAdd, Nat.reduceEqDiff, Nat.reduceLeDiff, Nat.reduceSub, Nat.reduceMul, Int.reduceEq, eq_self, reduceIte, h1]
    refine ops_call (.pureE (vecCheck_meets v0 v1) (by simp [go_sem, Nat.reduceLT, Nat.reduceAdd, Nat.reduceEqDiff, Nat.reduceLeDiff, Nat.reduceSub, Nat.reduceMul, Int.reduceEq, eq_self, reduceIte])) ?_
    have e : misErr l v0 v1 = vErr v0 v1 := by rw [misErr, if_pos h1]
    by_cases h2 : vErr v0 v1 = 0
    · simp only [go_sem, Nat.reduceLT, Nat.reduceAdd, Nat.reduceEqDiff, Nat.reduceLeDiff, Nat.reduceSub, Nat.reduceMul, Int.reduceEq, eq_self, reduceIte, h2]
      refine ops_call (.pureE (rest_meets l v0 v1 (by omega) (log_fit hok)) (by simp [go_sem, Nat.reduceLT, Nat.reduceAdd, Nat.reduceEqDiff, Nat.reduceLeDiff, Nat.reduceSub, Nat.reduceMul, Int.reduceEq, eq_self, reduceIte])) ?_
      simp only [go_sem, Nat.reduceLT, Nat.reduceAdd, Nat.reduceEqDiff, Nat.reduceLeDiff, Nat.reduceSub, Nat.reduceMul, Int.reduceEq, eq_self, reduceIte]
      refine ret_pure hx ?_
      simp [go_sem, Nat.reduceLT, Nat.reduceAdd, Nat.reduceEqDiff, Nat.reduceLeDiff, Nat.reduceSub, Nat.reduceMul, Int.reduceEq, eq_self, reduceIte, L9, R9, e, h2]
    · simp only [go_sem, Nat.reduceLT, Nat.reduceAdd, Nat.reduceEqDiff, Nat.reduceLeDiff, Nat.reduceSub, Nat.reduceMul, Int.reduceEq, eq_self, reduceIte, h2]
      refine ret_pure hx ?_
      simp [go_sem, Nat.reduceLT, Nat.reduceAdd, Nat.reduceEqDiff, Nat.reduceLeDiff, Nat.reduceSub, Nat.reduceMul, Int.reduceEq, eq_self, reduceIte, L9, R9, e, h2]
  · have e : misErr l v0 v1 = checkLog l := by rw [misErr, if_neg h1]
    simp only [go_sem, Nat.reduceLT, Nat.reduceAdd, Nat.reduceEqDiff, Nat.reduceLeDiff, Nat.reduceSub, Nat.reduceMul, Int.reduceEq, eq_self, reduceIte, h1]
    refine ret_pure hx ?_
    simp [go_sem, Nat.reduceLT, Nat.reduceAdd, Nat.reduceEqDiff, Nat.reduceLeDiff, Nat.reduceSub, Nat.reduceMul, Int.reduceEq, eq_self, reduceIte, L9, R9, e, h1]
end Go.Proofs.Ytkibfciheifphaa
/- What must be in any case of logs; DagTells, as a contract. -/
namespace Go.Proofs.Ytkibfciheifphaa
set_option linter.unusedSimpArgs false
set_option linter.unusedVariables false
open Go.RowKit
end Go.Proofs.Ytkibfciheifphaa
/- DagPast, DagHeads, as contracts. -/
namespace Go.Proofs.Ytkibfciheifphaa
set_option linter.unusedSimpArgs false
set_option linter.unusedVariables false
open Go.RowKit
end Go.Proofs.Ytkibfciheifphaa
/- DagParts, as a contract. -/
namespace Go.Proofs.Ytkibfciheifphaa
set_option linter.unusedSimpArgs false
set_option linter.unusedVariables false
open Go.RowKit
theorem nth_take {α : Type} [Inhabited α] {l : List α} {n i : Nat} (hi : i < n) (hn : n ≤ l.length) : nth (l.take n) i = nth l i := by
  rw [nth_eq _ _ (by rw [List.length_take]; omega), nth_eq _ _ (by omega), List.getElem_take]
theorem LogOk.take {l : List Entry} (h : LogOk l) {n : Nat} (hn : n ≤ l.length) : LogOk (l.take n) where
  len := by rw [List.length_take]; have := h.len; omega
  chk := fun k hk => by
    rw [List.length_take] at hk
    rw [nth_take (by omega) hn]; exact h.chk k (by omega)
  new := fun k hk => by
    rw [List.length_take] at hk
    rw [nth_take (by omega) hn, List.take_take, Nat.min_eq_left (by omega)]; exact h.new k (by omega)
  num := fun k hk => by
    rw [List.length_take] at hk
    rw [nth_take (by omega) hn, List.take_take, Nat.min_eq_left (by omega)]; exact h.num k (by omega)
  lnk := fun k hk => by
    rw [List.length_take] at hk
    rw [nth_take (by omega) hn, List.take_take, Nat.min_eq_left (by omega)]; exact h.lnk k (by omega)
end Go.Proofs.Ytkibfciheifphaa
/- Sites: what is appended and what settles leaves a right log (plain). -/
namespace Go.Proofs.Ytkibfciheifphaa
open Go.RowKit
end Go.Proofs.Ytkibfciheifphaa
/- Sites: what comes, what is appended and what settles leaves a right site (plain). -/
namespace Go.Proofs.Ytkibfciheifphaa
open Go.RowKit
structure WaitOk (q : Int) (lg ws : List Entry) : Prop where
  up : upE ws
  chk : ∀ e ∈ ws, checkEntry e = 0
  other : ∀ e ∈ ws, e.id.r ≠ q
  new : ∀ e ∈ ws, findE lg e.id < 0
theorem memE {ws : List Entry} {e : Entry} : e ∈ ws ↔ ∃ k, k < ws.length ∧ nth ws k = e := by
  constructor
  · intro h
    obtain ⟨k, hk, rfl⟩ := List.getElem_of_mem h
    exact ⟨k, hk, nth_eq _ _ hk⟩
  · rintro ⟨k, hk, rfl⟩
    exact nthM hk
theorem upE_iff {ws : List Entry} : upE ws ↔ ws.Pairwise fun a b => lessB a.id b.id = true := by
  rw [List.pairwise_iff_getElem]
  constructor
  · intro h i j hi hj hij
    have := h i j hij hj
    rwa [nth_eq _ _ hi, nth_eq _ _ hj] at this
  · intro h i j hij hj
    have := h i j (by omega) hj hij
    rwa [← nth_eq, ← nth_eq] at this
end Go.Proofs.Ytkibfciheifphaa
/- Sites: in whatever order two come, the same is left (plain). -/
namespace Go.Proofs.Ytkibfciheifphaa
open Go.RowKit
def EId (W : List Entry) : Prop := W.Pairwise fun a b => a.id ≠ b.id
theorem EId.perm {W V : List Entry} (h : EId W) (hp : V.Perm W) : EId V := (hp.pairwise_iff fun {a b} q r => q r.symm).2 h
structure Settles (lg W A WA u : List Entry) : Prop where
  eq : A = lg ++ u
  perm : (u ++ WA).Perm W
  rdy : ∀ i, i < u.length → readyB (lg ++ u.take i) (nth u i) = true
end Go.Proofs.Ytkibfciheifphaa
/- Sites: two that come, one way or the other (plain). -/
namespace Go.Proofs.Ytkibfciheifphaa
open Go.RowKit
def there (lg ws : List Entry) (y : Id) : Prop := ∃ x, (x ∈ lg ∨ x ∈ ws) ∧ x.id = y
theorem WaitOk.len {q : Int} {lg ws : List Entry} (hq : q = 0 ∨ q = 1) (h : WaitOk q lg ws) : ws.length ≤ 20 := by
  have hb : ∀ e ∈ ws, (e.id.r = 0 ∨ e.id.r = 1) ∧ 1 ≤ e.id.n ∧ e.id.n < 21 := fun e he => by
    have := (check_ok_bounds (h.chk e he)).1
    simp only [okId, Bool.and_eq_true, wthn_iff] at this
    omega
  have hp : (ws.map fun e => e.id.n).Pairwise (· < ·) := by
    rw [List.pairwise_map, List.pairwise_iff_getElem]
    intro i j hi hj hij
    have h1 := (List.pairwise_iff_getElem.1 (upE_iff.1 h.up)) i j hi hj hij
    have m1 := List.getElem_mem hi
    have m2 := List.getElem_mem hj
    have b1 := hb _ m1
    have b2 := hb _ m2
    have o1 := h.other _ m1
    have o2 := h.other _ m2
    simp only [lessB, decide_eq_true_eq] at h1
    omega
  have := rise_len _ 1 21 hp (fun x hx => by
    obtain ⟨e, he, rfl⟩ := List.mem_map.1 hx
    have := hb e he
    omega) (by omega)
  rw [List.length_map] at this
  omega
end Go.Proofs.Ytkibfciheifphaa
/- Worlds: what is right, what an act does (plain). -/
namespace Go.Proofs.Ytkibfciheifphaa
open Go.RowKit
structure Wo where
  p : List Entry
  u : List Entry
  q : List Entry
  v : List Entry
  a : List Entry
  b : List Entry
def Wo.log (w : Wo) (i : Int) : List Entry := if i = 0 then w.p else w.q
abbrev Si := Int × List Entry × List Entry
def Born (w : Wo) (e : Entry) : Prop := e ∈ w.log e.id.r
structure WoOk (w : Wo) : Prop where
  s0 : siErr 0 w.p w.u = 0
  s1 : siErr 1 w.q w.v = 0
  la : w.a.length ≤ 30
  lb : w.b.length ≤ 30
  ca : ∀ e ∈ w.a, checkEntry e = 0
  cb : ∀ e ∈ w.b, checkEntry e = 0
  ba : ∀ e ∈ w.a, Born w e
  bb : ∀ e ∈ w.b, Born w e
  bp : ∀ e ∈ w.p, Born w e
  bu : ∀ e ∈ w.u, Born w e
  bq : ∀ e ∈ w.q, Born w e
  bv : ∀ e ∈ w.v, Born w e
theorem LogOk.mem_chk {l : List Entry} (h : LogOk l) {e : Entry} (he : e ∈ l) : checkEntry e = 0 := by
  obtain ⟨k, hk, rfl⟩ := memE.1 he
  exact h.chk k hk
end Go.Proofs.Ytkibfciheifphaa
/- Worlds: what comes to a site (plain). -/
namespace Go.Proofs.Ytkibfciheifphaa
open Go.RowKit
end Go.Proofs.Ytkibfciheifphaa
