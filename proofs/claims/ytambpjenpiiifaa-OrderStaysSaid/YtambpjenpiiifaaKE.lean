/- Joined texts of this claim: D15 E7 L7 L11 G4 L14 Open Op1 Op2 Op4. -/
import Derived.Test.YtambpjenpiiifaaKD
import Derived.Test.YtambpjenpiiifaaKC
import Derived.Test.YtambpjenpiiifaaKB
import Derived.Test.YtambpjenpiiifaaProg
import Derived.ProofKit
import Derived.OpenShut
import Derived.Carry
import Derived.SizedLaws
set_option linter.unusedSimpArgs false
set_option linter.unusedVariables false
set_option linter.unusedSectionVars false
/- All that comes, in the law text's words: a contract. -/
namespace Go.Proofs.Ytambpjenpiiifaa
set_option linter.unusedSimpArgs false
set_option linter.unusedVariables false
open Go.RowKit
theorem mem_idsUp {y : Id} {r k : Nat} (h : y ∈ allIds) (hl : lessB y ⟨r, ((k + 1 : Nat) : Int)⟩ = true) : y ∈ idsUp r k := by
  have ho := mem_allIds.1 h
  obtain ⟨a, b⟩ := y
  simp only [okId, Bool.and_eq_true, wthn_iff] at ho
  simp only [lessB, decide_eq_true_eq] at hl
  unfold idsUp
  rw [List.mem_append, List.mem_flatMap]
  by_cases e : a = (r : Int)
  · refine .inr ?_
    unfold idRow
    rw [List.mem_map]
    exact ⟨(b - 1).toNat, List.mem_range.2 (by omega), by rw [Id.mk.injEq]; omega⟩
  · refine .inl ⟨a.toNat, List.mem_range.2 (by omega), ?_⟩
    unfold idRow
    rw [List.mem_map]
    exact ⟨(b - 1).toNat, List.mem_range.2 (by omega), by rw [Id.mk.injEq]; omega⟩
/-- what was found of the first that may come: nothing yet (f = false), or it -/
def Seen (l : List Entry) (c : Int) (out : List Id) (f : Bool) (pre out' : List Id) : Prop :=
  (f = false → out' = out ∧ ∀ y ∈ pre, candB l c out y = false) ∧ (f = true → ∃ x, nextR l c out = some x ∧ out' = out ++ [x])
set_option maxHeartbeats 2000000 in
theorem moreOf_meets (l : List Entry) (c : Int) (ids : List Id) (h : LogOk l) (hc : wthn c 1 7 = true) (hb : ids.length ≤ 1000000000) :
    Meets Try.prog 61 [.list (l.map cE), .int .i64 c, .list (ids.map cId)] [] (.list ((more l c ids).map cId)) [] := by
  have hm := h.len
  have hc' : 0 ≤ c ∧ c ≤ 7 := by rw [wthn_iff] at hc; omega
  refine Meets.of_walk Try.func61 Try.ntmps61 low61 res61 (by simp) fun x hx => ?_
  simp only [go_sem, Nat.reduceLT, Nat.reduceAdd, Nat.reduceEqDiff, Nat.reduceLeDiff, Nat.reduceSub, Nat.reduceMul, Int.reduceEq, eq_self, reduceIte, L61, R61]
  rw [app_arr rfl rfl (by simp [cId]) (by simp; omega)]
  simp only [go_sem, Nat.reduceLT, Nat.reduceAdd, Nat.reduceEqDiff, Nat.reduceLeDiff, Nat.reduceSub, Nat.reduceMul, Int.reduceEq, eq_self, reduceIte]
  refine loop_inv [0, 1, 7, 8] 1 (fun n st => ∃ (out : List Id) (v : Nat) (b : Bool), n = (if b then mOut l c out + 1 else 0) ∧ (b = false → nextR l c out = none) ∧ more l c ids = more l c out ∧ out.length + mOut l c out ≤ ids.length + 40 ∧
    st = ⟨mkE .top [(0, .list (l.map cE)), (1, .int .i64 c), (7, .arr 0 v), (8, .bool b)], [.arr v true false 67 2 (out.map cId)]⟩) (mOut l c ids + 1) (by simp [hx]) (by simp) ?_ ?_
  · refine ⟨ids, 1, true, by simp, by simp, rfl, by have := mOut_le h c ids; omega, ?_⟩
    simp [trim_mk, go_sem, Nat.reduceLT, Nat.reduceAdd, Nat.reduceEqDiff, Nat.reduceLeDiff, Nat.reduceSub, Nat.reduceMul, Int.reduceEq, eq_self, reduceIte, subHeap, renObj, pos, List.range_succ]
  · rintro n st ⟨out, v, b, rfl, hbn, hmore, hlen, rfl⟩
    cases b
    · simp only [go_sem, Nat.reduceLT, Nat.reduceAdd, Nat.reduceEqDiff, Nat.reduceLeDiff, Nat.reduceSub, Nat.reduceMul, Int.reduceEq, eq_self, reduceIte]
      refine ret_pure hx ?_
      simp [go_sem, Nat.reduceLT, Nat.reduceAdd, Nat.reduceEqDiff, Nat.reduceLeDiff, Nat.reduceSub, Nat.reduceMul, Int.reduceEq, eq_self, reduceIte, L61, R61, hmore, more_none (hbn rfl), frzAt, pos]
    · simp only [go_sem, Nat.reduceLT, Nat.reduceAdd, Nat.reduceEqDiff, Nat.reduceLeDiff, Nat.reduceSub, Nat.reduceMul, Int.reduceEq, eq_self, reduceIte]
      refine loop_inv [0, 1, 7, 8, 9] 1 (fun n st => ∃ (r v : Nat) (f : Bool) (out' : List Id), r + n = 2 ∧ Seen l c out f (idsUp r 0) out' ∧
        st = ⟨mkE .top [(0, .list (l.map cE)), (1, .int .i64 c), (7, .arr 0 v), (8, .bool f), (9, .int .i64 r)], [.arr v true false 67 2 (out'.map cId)]⟩) 2 (by simp [hx]) (by simp) ?_ ?_
      · refine ⟨0, v, false, out, by omega, ⟨fun _ => ⟨rfl, by simp [idsUp, idRow]⟩, by simp⟩, ?_⟩
        simp [trim_mk, go_sem, Nat.reduceLT, Nat.reduceAdd, Nat.reduceEqDiff, Nat.reduceLeDiff, Nat.reduceSub, Nat.reduceMul, Int.reduceEq, eq_self, reduceIte, subHeap, renObj, pos, List.range_succ]
      · rintro n2 st ⟨r, v2, f, out', hr, hseen, rfl⟩
        have hend : ∀ (v : Nat), f = true ∨ r = 2 → ∃ n', n' < mOut l c out + 1 ∧ ∃ (o : List Id) (v' : Nat) (b : Bool), n' = (if b then mOut l c o + 1 else 0) ∧ (b = false → nextR l c o = none) ∧ more l c ids = more l c o ∧ o.length + mOut l c o ≤ ids.length + 40 ∧
            (St.mk (mkE .top [(0, .list (l.map cE)), (1, .int .i64 c), (7, .arr 0 v), (8, .bool f)]) [AObj.arr v true false 67 2 (out'.map cId)]) = ⟨mkE .top [(0, .list (l.map cE)), (1, .int .i64 c), (7, .arr 0 v'), (8, .bool b)], [.arr v' true false 67 2 (o.map cId)]⟩ := by
          intro v hfr
          cases f
          · have hr2 : r = 2 := by simpa using hfr
            subst hr2
            obtain ⟨e1, e2⟩ := hseen.1 rfl
            subst e1
            refine ⟨0, by omega, out', v, false, by simp, fun _ => ?_, hmore, hlen, rfl⟩
            refine (nextR_none h).2 fun y => ?_
            cases hy : candB l c out' y
            · rfl
            · have := e2 y (cand_all h hy)
              rw [hy] at this; cases this
          · obtain ⟨y, hn, rfl⟩ := hseen.2 rfl
            have hlt := mOut_next h ((nextR_some h).1 hn).1
            exact ⟨mOut l c (out ++ [y]) + 1, by omega, out ++ [y], v, true, by simp, by simp, hmore.trans (more_some h hn), by simp; omega, rfl⟩
        by_cases hlt : r < 2
        · have d2 : decide ((r : Int) < 2) = true := by simp; omega
          have wr := i64_up (k := r) (by omega)
          cases f
          · simp only [go_sem, Nat.reduceLT, Nat.reduceAdd, Nat.reduceEqDiff, Nat.reduceLeDiff, Nat.reduceSub, Nat.reduceMul, Int.reduceEq, eq_self, reduceIte, d2]
            refine loop_inv [0, 1, 7, 8, 9, 10] 1 (fun n st => ∃ (k v : Nat) (f : Bool) (out' : List Id), k + n = 20 ∧ Seen l c out f (idsUp r k) out' ∧
              st = ⟨mkE .top [(0, .list (l.map cE)), (1, .int .i64 c), (7, .arr 0 v), (8, .bool f), (9, .int .i64 r), (10, .int .i64 ((k + 1 : Nat) : Int))], [.arr v true false 67 2 (out'.map cId)]⟩) 20 (by simp [hx]) (by simp) ?_ ?_
            · refine ⟨0, v2, false, out', by omega, hseen, ?_⟩
              simp [trim_mk, go_sem, Nat.reduceLT, Nat.reduceAdd, Nat.reduceEqDiff, Nat.reduceLeDiff, Nat.reduceSub, Nat.reduceMul, Int.reduceEq, eq_self, reduceIte, subHeap, renObj, pos, List.range_succ]
            · rintro n3 st ⟨k, v3, f, o3, hk, hs3, rfl⟩
              have wk := i64_up (k := k + 1) (by omega)
              by_cases hk20 : k < 20
              · have d20 : decide (((k + 1 : Nat) : Int) ≤ 20) = true := by simp; omega
                cases f
                · obtain ⟨e1, e2⟩ := hs3.1 rfl
                  subst e1
                  have hup := idsUp_n r k
                  have hless : ∀ y, candB l c o3 y = true → lessB y ⟨r, ((k + 1 : Nat) : Int)⟩ = false := fun y hy => by
                    cases e : lessB y ⟨r, ((k + 1 : Nat) : Int)⟩
                    · rfl
                    · have := e2 y (mem_idsUp (cand_all h hy) e)
                      rw [hy] at this; cases this
                  simp only [go_sem, Nat.reduceLT, Nat.reduceAdd, Nat.reduceEqDiff, Nat.reduceLeDiff, Nat.reduceSub, Nat.reduceMul, Int.reduceEq, eq_self, reduceIte, d20]
                  refine ops_call (.pureE (entryAt_meets l ⟨r, ((k + 1 : Nat) : Int)⟩ (by omega)) (by simp [go_sem, Nat.reduceLT, Nat.reduceAdd, Nat.reduceEqDiff, Nat.reduceLeDiff, Nat.reduceSub, Nat.reduceMul, Int.reduceEq, eq_self, reduceIte, cId])) ?_
                  have hq : cId ⟨r, ((k + 1 : Nat) : Int)⟩ = [.int .i64 r, .int .i64 ((k + 1 : Nat) : Int)] := rfl
                  rw [← hq]
                  generalize hqd : (⟨r, ((k + 1 : Nat) : Int)⟩ : Id) = q at *
                  have skip : candB l c o3 q = false → Seen l c o3 false (idsUp r (k + 1)) o3 := fun hcq => ⟨fun _ => ⟨rfl, fun y hy => by
                    rw [hup, List.mem_append] at hy
                    rcases hy with hy | hy
                    · exact e2 y hy
                    · simp at hy; subst hy; exact hcq⟩, by simp⟩
                  by_cases hz0 : 0 ≤ findE l q
                  · obtain ⟨i, f1, f2, f3⟩ := findE_spec hz0
                    have hg : l[i]? = some (nth l i) := nth_get? _ _ f2
                    have i0 : (0 : Int) ≤ (i : Int) := by omega
                    have hcb : candB l c o3 q = (meetB (nth l i).c c && !hasI o3 q && mayB l c o3 q) := by
                      simp [candB, f1]
                    simp only [go_sem, Nat.reduceLT, Nat.reduceAdd, Nat.reduceEqDiff, Nat.reduceLeDiff, Nat.reduceSub, Nat.reduceMul, Int.reduceEq, eq_self, reduceIte, f1, i0, f2, hg, cE]
                    refine ops_call (.pureE (meets_meets (nth l i).c c (h.col07 f2) hc') (by simp [go_sem, Nat.reduceLT, Nat.reduceAdd, Nat.reduceEqDiff, Nat.reduceLeDiff, Nat.reduceSub, Nat.reduceMul, Int.reduceEq, eq_self, reduceIte])) ?_
                    cases h1 : meetB (nth l i).c c
                    · simp only [go_sem, Nat.reduceLT, Nat.reduceAdd, Nat.reduceEqDiff, Nat.reduceLeDiff, Nat.reduceSub, Nat.reduceMul, Int.reduceEq, eq_self, reduceIte, wk]
                      refine ⟨by simp, n3 - 1, by omega, k + 1, v3, false, o3, by omega, skip (by rw [hcb, h1]; rfl), ?_⟩
                      simp [trim_mk, go_sem, Nat.reduceLT, Nat.reduceAdd, Nat.reduceEqDiff, Nat.reduceLeDiff, Nat.reduceSub, Nat.reduceMul, Int.reduceEq, eq_self, reduceIte, subHeap, renObj, pos, List.range_succ]
                    · simp only [go_sem, Nat.reduceLT, Nat.reduceAdd, Nat.reduceEqDiff, Nat.reduceLeDiff, Nat.reduceSub, Nat.reduceMul, Int.reduceEq, eq_self, reduceIte, cId]
                      have hol : o3.length ≤ 1000000040 := by omega
                      refine ops_call (.scalarE (hasId_meets o3 q (by omega)) rfl (by simp [go_sem, Nat.reduceLT, Nat.reduceAdd, Nat.reduceEqDiff, Nat.reduceLeDiff, Nat.reduceSub, Nat.reduceMul, Int.reduceEq, eq_self, reduceIte, cId, frzAt, pos])) ?_
                      cases h2 : hasI o3 q
                      · simp only [go_sem, Nat.reduceLT, Nat.reduceAdd, Nat.reduceEqDiff, Nat.reduceLeDiff, Nat.reduceSub, Nat.reduceMul, Int.reduceEq, eq_self, reduceIte]
                        refine ops_call (.scalarE (mayCome_meets l c i o3 h hc f2 (by omega)) rfl (by simp [go_sem, Nat.reduceLT, Nat.reduceAdd, Nat.reduceEqDiff, Nat.reduceLeDiff, Nat.reduceSub, Nat.reduceMul, Int.reduceEq, eq_self, reduceIte, frzAt, pos])) ?_
                        rw [f3]
                        cases h3 : mayB l c o3 q
                        · simp only [go_sem, Nat.reduceLT, Nat.reduceAdd, Nat.reduceEqDiff, Nat.reduceLeDiff, Nat.reduceSub, Nat.reduceMul, Int.reduceEq, eq_self, reduceIte, wk]
                          refine ⟨by simp, n3 - 1, by omega, k + 1, v3, false, o3, by omega, skip (by rw [hcb, h1, h2, h3]; rfl), ?_⟩
                          simp [trim_mk, go_sem, Nat.reduceLT, Nat.reduceAdd, Nat.reduceEqDiff, Nat.reduceLeDiff, Nat.reduceSub, Nat.reduceMul, Int.reduceEq, eq_self, reduceIte, subHeap, renObj, pos, List.range_succ]
                        · have hcq : candB l c o3 q = true := by rw [hcb, h1, h2, h3]; rfl
                          simp only [go_sem, Nat.reduceLT, Nat.reduceAdd, Nat.reduceEqDiff, Nat.reduceLeDiff, Nat.reduceSub, Nat.reduceMul, Int.reduceEq, eq_self, reduceIte, cId]
                          rw [app_arr rfl rfl (by simp) (by simp; omega)]
                          simp only [go_sem, Nat.reduceLT, Nat.reduceAdd, Nat.reduceEqDiff, Nat.reduceLeDiff, Nat.reduceSub, Nat.reduceMul, Int.reduceEq, eq_self, reduceIte, wk]
                          refine ⟨by simp, n3 - 1, by omega, k + 1, v3 + 1, true, o3 ++ [q], by omega, ⟨by simp, fun _ => ⟨q, (nextR_some h).2 ⟨hcq, hless⟩, rfl⟩⟩, ?_⟩
                          simp [trim_mk, go_sem, Nat.reduceLT, Nat.reduceAdd, Nat.reduceEqDiff, Nat.reduceLeDiff, Nat.reduceSub, Nat.reduceMul, Int.reduceEq, eq_self, reduceIte, subHeap, renObj, pos, List.range_succ, cId]
                      · simp only [go_sem, Nat.reduceLT, Nat.reduceAdd, Nat.reduceEqDiff, Nat.reduceLeDiff, Nat.reduceSub, Nat.reduceMul, Int.reduceEq, eq_self, reduceIte, wk]
                        refine ⟨by simp, n3 - 1, by omega, k + 1, v3, false, o3, by omega, skip (by rw [hcb, h1, h2]; rfl), ?_⟩
                        simp [trim_mk, go_sem, Nat.reduceLT, Nat.reduceAdd, Nat.reduceEqDiff, Nat.reduceLeDiff, Nat.reduceSub, Nat.reduceMul, Int.reduceEq, eq_self, reduceIte, subHeap, renObj, pos, List.range_succ]
                  · simp only [go_sem, Nat.reduceLT, Nat.reduceAdd, Nat.reduceEqDiff, Nat.reduceLeDiff, Nat.reduceSub, Nat.reduceMul, Int.reduceEq, eq_self, reduceIte, hz0, wk]
                    refine ⟨by simp, n3 - 1, by omega, k + 1, v3, false, o3, by omega, skip (by simp [candB, hz0]), ?_⟩
                    simp [trim_mk, go_sem, Nat.reduceLT, Nat.reduceAdd, Nat.reduceEqDiff, Nat.reduceLeDiff, Nat.reduceSub, Nat.reduceMul, Int.reduceEq, eq_self, reduceIte, subHeap, renObj, pos, List.range_succ]
                · simp only [go_sem, Nat.reduceLT, Nat.reduceAdd, Nat.reduceEqDiff, Nat.reduceLeDiff, Nat.reduceSub, Nat.reduceMul, Int.reduceEq, eq_self, reduceIte, d20, wr]
                  refine ⟨by simp, n2 - 1, by omega, r + 1, v3, true, o3, by omega, ⟨by simp, hs3.2⟩, ?_⟩
                  simp [trim_mk, go_sem, Nat.reduceLT, Nat.reduceAdd, Nat.reduceEqDiff, Nat.reduceLeDiff, Nat.reduceSub, Nat.reduceMul, Int.reduceEq, eq_self, reduceIte, subHeap, renObj, pos, List.range_succ]
              · obtain rfl : k = 20 := by omega
                have d20 : decide (((20 + 1 : Nat) : Int) ≤ 20) = false := by simp
                simp only [go_sem, Nat.reduceLT, Nat.reduceAdd, Nat.reduceEqDiff, Nat.reduceLeDiff, Nat.reduceSub, Nat.reduceMul, Int.reduceEq, eq_self, reduceIte, d20, wr]
                refine ⟨by simp, n2 - 1, by omega, r + 1, v3, f, o3, by omega, by rw [idsUp_r]; exact hs3, ?_⟩
                simp [trim_mk, go_sem, Nat.reduceLT, Nat.reduceAdd, Nat.reduceEqDiff, Nat.reduceLeDiff, Nat.reduceSub, Nat.reduceMul, Int.reduceEq, eq_self, reduceIte, subHeap, renObj, pos, List.range_succ]
          · simp only [go_sem, Nat.reduceLT, Nat.reduceAdd, Nat.reduceEqDiff, Nat.reduceLeDiff, Nat.reduceSub, Nat.reduceMul, Int.reduceEq, eq_self, reduceIte, d2]
            obtain ⟨n', g1, o, v', b', g2, g3, g4, g5, g6⟩ := hend v2 (.inl rfl)
            refine ⟨by simp, n', g1, o, v', b', g2, g3, g4, g5, ?_⟩
            rw [← g6]
            simp [trim_mk, go_sem, Nat.reduceLT, Nat.reduceAdd, Nat.reduceEqDiff, Nat.reduceLeDiff, Nat.reduceSub, Nat.reduceMul, Int.reduceEq, eq_self, reduceIte, subHeap, renObj, pos, List.range_succ]
        · have d2 : decide ((r : Int) < 2) = false := by simp; omega
          simp only [go_sem, Nat.reduceLT, Nat.reduceAdd, Nat.reduceEqDiff, Nat.reduceLeDiff, Nat.reduceSub, Nat.reduceMul, Int.reduceEq, eq_self, reduceIte, d2]
          obtain ⟨n', g1, o, v', b', g2, g3, g4, g5, g6⟩ := hend v2 (.inr (by omega))
          refine ⟨by simp, n', g1, o, v', b', g2, g3, g4, g5, ?_⟩
          rw [← g6]
          simp [trim_mk, go_sem, Nat.reduceLT, Nat.reduceAdd, Nat.reduceEqDiff, Nat.reduceLeDiff, Nat.reduceSub, Nat.reduceMul, Int.reduceEq, eq_self, reduceIte, subHeap, renObj, pos, List.range_succ]
end Go.Proofs.Ytambpjenpiiifaa
/- Bytes: writing an entry. -/
namespace Go.Proofs.Ytambpjenpiiifaa
set_option linter.unusedSimpArgs false
set_option linter.unusedVariables false
open Go.RowKit
theorem bytesOf_one (n : Int) : bytesOf [[PV.int IntKind.u8 (IntKind.u8.wrap n)]] = some [byt n] := by
  simp only [bytesOf, byteRow, byt]
  have : IntKind.u8.wrap n = n % 256 := by simp [IntKind.wrap, IntKind.signed, IntKind.bits]
  rw [this]
theorem oneByte_meets (n : Int) : Meets Try.prog 112 [.int .i64 n] [] (.str (BA [byt n])) [] := by
  refine Meets.of_walk Try.func112 Try.ntmps112 low112 res112 (by simp) fun x hx => ?_
  simp only [go_sem, Nat.reduceLT, Nat.reduceAdd, Nat.reduceEqDiff, Nat.reduceLeDiff, Nat.reduceSub, Nat.reduceMul, Int.reduceEq, eq_self, reduceIte, L112, R112, bytesOf_one]
  refine ret_pure hx ?_
  simp [go_sem, Nat.reduceLT, Nat.reduceAdd, Nat.reduceEqDiff, Nat.reduceLeDiff, Nat.reduceSub, Nat.reduceMul, Int.reduceEq, eq_self, reduceIte, L112, R112, BA]
def e0 : Entry := ⟨⟨0, 1⟩, 1, BA [112, 117, 116, 32, 97, 32, 120], []⟩
def e1 : Entry := ⟨⟨1, 1⟩, 3, BA [112, 117, 116, 32, 97, 32, 121], []⟩
def e2 : Entry := ⟨⟨0, 2⟩, 3, BA [100, 114, 111, 112, 32, 97], [⟨0, 1⟩]⟩
def e3 : Entry := ⟨⟨1, 2⟩, 2, BA [112, 117, 116, 32, 98, 32, 122], [⟨0, 2⟩, ⟨1, 1⟩]⟩
def cE0 (e : Entry) : List PV := [.int .i64 e.id.r, .int .i64 e.id.n, .int .i64 e.c, .str e.t, if e.ls = [] then .nilsl else .list (e.ls.map cId)]
theorem entries_meets : Meets Try.prog 72 [] [] (.list [cE e0, cE e1, cE e2, cE e3]) [] := by
  refine Meets.nl (r := .list [cE0 e0, cE0 e1, cE0 e2, cE0 e3]) 4 ?_ (by simp [nlN, cE0, cE, cId, e0, e1, e2, e3])
  refine Meets.of_walk Try.func72 Try.ntmps72 low72 res72 (by simp) fun x hx => ?_
  simp only [go_sem, Nat.reduceLT, Nat.reduceAdd, Nat.reduceEqDiff, Nat.reduceLeDiff, Nat.reduceSub, Nat.reduceMul, Int.reduceEq, eq_self, reduceIte, L72, R72]
  iterate 7
    refine ops_call (.pure (lawId_meets _ _)) ?_
    simp only [go_sem, Nat.reduceLT, Nat.reduceAdd, Nat.reduceEqDiff, Nat.reduceLeDiff, Nat.reduceSub, Nat.reduceMul, Int.reduceEq, eq_self, reduceIte]
  refine ret_pure hx ?_
  simp [go_sem, Nat.reduceLT, Nat.reduceAdd, Nat.reduceEqDiff, Nat.reduceLeDiff, Nat.reduceSub, Nat.reduceMul, Int.reduceEq, eq_self, reduceIte, L72, R72, cE0, cId, e0, e1, e2, e3, BA]
end Go.Proofs.Ytambpjenpiiifaa
/- What must be in any case of logs; DagTells, as a contract. -/
namespace Go.Proofs.Ytambpjenpiiifaa
set_option linter.unusedSimpArgs false
set_option linter.unusedVariables false
open Go.RowKit
def eL : List Entry := [e0, e1, e2, e3]
theorem eL_check : checkLog eL = 0 := by decide +kernel
theorem eL_ok : LogOk eL := log_ok.1 eL_check
theorem eL_len : eL.length = 4 := rfl
theorem eL_past : pastIds eL ⟨1, 2⟩ = [⟨0, 1⟩, ⟨0, 2⟩, ⟨1, 1⟩] := by
  have hp : pastErr eL ⟨1, 2⟩ = 0 := by decide +kernel
  have hf : (findE eL ⟨1, 2⟩).toNat = 3 := by decide +kernel
  rw [pastIds, if_pos hp, hf, ← rising_past eL_ok (by decide)]
  decide +kernel
theorem eL_heads : headsIds eL 1 = [⟨0, 2⟩, ⟨1, 1⟩] := by
  have hp : headsErr eL 1 = 0 := by decide +kernel
  rw [headsIds, if_pos hp, ← heads_eq eL_ok]
  decide +kernel
theorem idsAre_meets (a : List Id) (e w : Int) (b : List Id) (ha : a.length ≤ 9223372036854775807) : Meets Try.prog 51 [.list (a.map cId), .int .i64 e, .int .i64 w, .list (b.map cId)] [] (.bool (decide (e = w) && decide (a = if w = 0 then b else []))) [] := by
  refine Meets.of_walk Try.func51 Try.ntmps51 low51 res51 (by simp) fun x hx => ?_
  by_cases hw : w = 0
  · by_cases he : e = w
    · have he0 : e = 0 := he.trans hw
      simp only [go_sem, Nat.reduceLT, Nat.reduceAdd, Nat.reduceEqDiff, Nat.reduceLeDiff, Nat.reduceSub, Nat.reduceMul, Int.reduceEq, eq_self, reduceIte, L51, R51, hw, he0]
      refine ops_call (.pureE (sameIds_meets a b ha) (by simp [go_sem, Nat.reduceLT, Nat.reduceAdd, Nat.reduceEqDiff, Nat.reduceLeDiff, Nat.reduceSub, Nat.reduceMul, Int.reduceEq, eq_self, reduceIte])) ?_
      simp only [go_sem, Nat.reduceLT, Nat.reduceAdd, Nat.reduceEqDiff, Nat.reduceLeDiff, Nat.reduceSub, Nat.reduceMul, Int.reduceEq, eq_self, reduceIte]
      refine ret_pure hx ?_
      simp [go_sem, Nat.reduceLT, Nat.reduceAdd, Nat.reduceEqDiff, Nat.reduceLeDiff, Nat.reduceSub, Nat.reduceMul, Int.reduceEq, eq_self, reduceIte, L51, R51]
    · have he0 : ¬ e = 0 := fun h => he (h.trans hw.symm)
      simp only [go_sem, Nat.reduceLT, Nat.reduceAdd, Nat.reduceEqDiff, Nat.reduceLeDiff, Nat.reduceSub, Nat.reduceMul, Int.reduceEq, eq_self, reduceIte, L51, R51, hw, he0]
      refine ret_pure hx ?_
      simp [go_sem, Nat.reduceLT, Nat.reduceAdd, Nat.reduceEqDiff, Nat.reduceLeDiff, Nat.reduceSub, Nat.reduceMul, Int.reduceEq, eq_self, reduceIte, L51, R51]
  · by_cases he : e = w
    · simp only [go_sem, Nat.reduceLT, Nat.reduceAdd, Nat.reduceEqDiff, Nat.reduceLeDiff, Nat.reduceSub, Nat.reduceMul, Int.reduceEq, eq_self, reduceIte, L51, R51, hw, he]
      refine ops_call (.pureE (sameIds_meets a [] ha) (by simp [go_sem, Nat.reduceLT, Nat.reduceAdd, Nat.reduceEqDiff, Nat.reduceLeDiff, Nat.reduceSub, Nat.reduceMul, Int.reduceEq, eq_self, reduceIte])) ?_
      simp only [go_sem, Nat.reduceLT, Nat.reduceAdd, Nat.reduceEqDiff, Nat.reduceLeDiff, Nat.reduceSub, Nat.reduceMul, Int.reduceEq, eq_self, reduceIte]
      refine ret_pure hx ?_
      simp [go_sem, Nat.reduceLT, Nat.reduceAdd, Nat.reduceEqDiff, Nat.reduceLeDiff, Nat.reduceSub, Nat.reduceMul, Int.reduceEq, eq_self, reduceIte, L51, R51]
    · simp only [go_sem, Nat.reduceLT, Nat.reduceAdd, Nat.reduceEqDiff, Nat.reduceLeDiff, Nat.reduceSub, Nat.reduceMul, Int.reduceEq, eq_self, reduceIte, L51, R51, hw, he]
      refine ret_pure hx ?_
      simp [go_sem, Nat.reduceLT, Nat.reduceAdd, Nat.reduceEqDiff, Nat.reduceLeDiff, Nat.reduceSub, Nat.reduceMul, Int.reduceEq, eq_self, reduceIte, L51, R51]
theorem eL_rows : [cE e0, cE e1, cE e2, cE e3] = eL.map cE := rfl
theorem dagBegun_meets : Meets Try.prog 49 [] [] (.bool true) [] := by
  have hp : pastErr eL ⟨1, 2⟩ = 0 := by decide +kernel
  have hq : headsErr eL 1 = 0 := by decide +kernel
  have hc0 : countR eL 0 = 2 := by decide +kernel
  have hc1 : countR eL 1 = 2 := by decide +kernel
  have hpi := eL_past
  have hhi := eL_heads
  have hck := eL_check
  have hent := entries_meets
  rw [eL_rows] at hent
  refine Meets.of_walk Try.func49 Try.ntmps49 low49 res49 (by simp) fun x hx => ?_
  simp only [go_sem, Nat.reduceLT, Nat.reduceAdd, Nat.reduceEqDiff, Nat.reduceLeDiff, Nat.reduceSub, Nat.reduceMul, Int.reduceEq, eq_self, reduceIte, L49, R49]
  refine ops_call (.pure hent) ?_
  simp only [go_sem, Nat.reduceLT, Nat.reduceAdd, Nat.reduceEqDiff, Nat.reduceLeDiff, Nat.reduceSub, Nat.reduceMul, Int.reduceEq, eq_self, reduceIte]
  refine ops_call (.pure (lawId_meets _ _)) ?_
  simp only [go_sem, Nat.reduceLT, Nat.reduceAdd, Nat.reduceEqDiff, Nat.reduceLeDiff, Nat.reduceSub, Nat.reduceMul, Int.reduceEq, eq_self, reduceIte]
  refine ops_call (.pureE (dagPast_meets eL ⟨1, 2⟩ (by decide)) (by simp [go_sem, Nat.reduceLT, Nat.reduceAdd, Nat.reduceEqDiff, Nat.reduceLeDiff, Nat.reduceSub, Nat.reduceMul, Int.reduceEq, eq_self, reduceIte, cId])) ?_
  simp only [go_sem, Nat.reduceLT, Nat.reduceAdd, Nat.reduceEqDiff, Nat.reduceLeDiff, Nat.reduceSub, Nat.reduceMul, Int.reduceEq, eq_self, reduceIte, hp, hpi]
  refine ops_call (.pure hent) ?_
  simp only [go_sem, Nat.reduceLT, Nat.reduceAdd, Nat.reduceEqDiff, Nat.reduceLeDiff, Nat.reduceSub, Nat.reduceMul, Int.reduceEq, eq_self, reduceIte]
  refine ops_call (.pureE (dagHeads_meets eL 1 (by decide)) (by simp [go_sem, Nat.reduceLT, Nat.reduceAdd, Nat.reduceEqDiff, Nat.reduceLeDiff, Nat.reduceSub, Nat.reduceMul, Int.reduceEq, eq_self, reduceIte])) ?_
  simp only [go_sem, Nat.reduceLT, Nat.reduceAdd, Nat.reduceEqDiff, Nat.reduceLeDiff, Nat.reduceSub, Nat.reduceMul, Int.reduceEq, eq_self, reduceIte, hq, hhi]
  refine ops_call (.pure hent) ?_
  simp only [go_sem, Nat.reduceLT, Nat.reduceAdd, Nat.reduceEqDiff, Nat.reduceLeDiff, Nat.reduceSub, Nat.reduceMul, Int.reduceEq, eq_self, reduceIte]
  refine ops_call (.pureE (dagCount_meets eL (by decide)) (by simp [go_sem, Nat.reduceLT, Nat.reduceAdd, Nat.reduceEqDiff, Nat.reduceLeDiff, Nat.reduceSub, Nat.reduceMul, Int.reduceEq, eq_self, reduceIte])) ?_
  simp only [go_sem, Nat.reduceLT, Nat.reduceAdd, Nat.reduceEqDiff, Nat.reduceLeDiff, Nat.reduceSub, Nat.reduceMul, Int.reduceEq, eq_self, reduceIte, hck, hc0, hc1]
  refine ops_call (.pure hent) ?_
  simp only [go_sem, Nat.reduceLT, Nat.reduceAdd, Nat.reduceEqDiff, Nat.reduceLeDiff, Nat.reduceSub, Nat.reduceMul, Int.reduceEq, eq_self, reduceIte]
  refine ops_call (.pureE (dagCheck_meets eL (by decide)) (by simp [go_sem, Nat.reduceLT, Nat.reduceAdd, Nat.reduceEqDiff, Nat.reduceLeDiff, Nat.reduceSub, Nat.reduceMul, Int.reduceEq, eq_self, reduceIte])) ?_
  simp only [go_sem, Nat.reduceLT, Nat.reduceAdd, Nat.reduceEqDiff, Nat.reduceLeDiff, Nat.reduceSub, Nat.reduceMul, Int.reduceEq, eq_self, reduceIte, hck]
  iterate 3
    refine ops_call (.pure (lawId_meets _ _)) ?_
    simp only [go_sem, Nat.reduceLT, Nat.reduceAdd, Nat.reduceEqDiff, Nat.reduceLeDiff, Nat.reduceSub, Nat.reduceMul, Int.reduceEq, eq_self, reduceIte]
  refine ops_call (.pureE (sameIds_meets [⟨0, 1⟩, ⟨0, 2⟩, ⟨1, 1⟩] [⟨0, 1⟩, ⟨0, 2⟩, ⟨1, 1⟩] (by decide)) (by simp [go_sem, Nat.reduceLT, Nat.reduceAdd, Nat.reduceEqDiff, Nat.reduceLeDiff, Nat.reduceSub, Nat.reduceMul, Int.reduceEq, eq_self, reduceIte, cId])) ?_
  simp only [go_sem, Nat.reduceLT, Nat.reduceAdd, Nat.reduceEqDiff, Nat.reduceLeDiff, Nat.reduceSub, Nat.reduceMul, Int.reduceEq, eq_self, reduceIte]
  iterate 2
    refine ops_call (.pure (lawId_meets _ _)) ?_
    simp only [go_sem, Nat.reduceLT, Nat.reduceAdd, Nat.reduceEqDiff, Nat.reduceLeDiff, Nat.reduceSub, Nat.reduceMul, Int.reduceEq, eq_self, reduceIte]
  refine ops_call (.pureE (sameIds_meets [⟨0, 2⟩, ⟨1, 1⟩] [⟨0, 2⟩, ⟨1, 1⟩] (by decide)) (by simp [go_sem, Nat.reduceLT, Nat.reduceAdd, Nat.reduceEqDiff, Nat.reduceLeDiff, Nat.reduceSub, Nat.reduceMul, Int.reduceEq, eq_self, reduceIte, cId])) ?_
  simp only [go_sem, Nat.reduceLT, Nat.reduceAdd, Nat.reduceEqDiff, Nat.reduceLeDiff, Nat.reduceSub, Nat.reduceMul, Int.reduceEq, eq_self, reduceIte]
  refine ret_pure hx ?_
  simp [go_sem, Nat.reduceLT, Nat.reduceAdd, Nat.reduceEqDiff, Nat.reduceLeDiff, Nat.reduceSub, Nat.reduceMul, Int.reduceEq, eq_self, reduceIte, L49, R49]
set_option maxHeartbeats 1000000 in
theorem dagTells_meets (l : List Entry) (y : Id) (c : Int) (hl : l.length ≤ 9223372036854775806) : Meets Try.prog 8 [.list (l.map cE), .agg (cId y), .int .i64 c] [] (.bool true) [] := by
  refine Meets.of_walk Try.func8 Try.ntmps8 low8 res8 (by simp) fun x hx => ?_
  have fin : ∀ (a b : List Id) (e w : Int), e = w → a = (if w = 0 then b else []) → (decide (e = w) && decide (a = if w = 0 then b else [])) = true := fun a b e w h1 h2 => by rw [← h2]; simp [h1]
  have hpl : (pastIds l y).length ≤ 9223372036854775807 := by
    unfold pastIds
    split
    · rename_i hp
      unfold pastErr at hp
      split at hp
      · rename_i h; exact (h hp).elim
      · rename_i h
        split at hp
        · cases hp
        · rename_i h2
          obtain ⟨k, f1, f2, f3⟩ := findE_spec (show 0 ≤ findE l y by omega)
          rw [f1, Int.toNat_natCast]
          have := pastOf_len (log_ok.1 (by simpa using h)) f2
          omega
    · simp
  have hhl : (headsIds l c).length ≤ 9223372036854775807 := by
    unfold headsIds
    split
    · rw [sortI_length]
      unfold headsC
      rw [List.length_map]
      exact Nat.le_trans (List.length_filter_le _ _) (Nat.le_trans (withC_len l c) (by omega))
    · simp
  simp only [go_sem, Nat.reduceLT, Nat.reduceAdd, Nat.reduceEqDiff, Nat.reduceLeDiff, Nat.reduceSub, Nat.reduceMul, Int.reduceEq, eq_self, reduceIte, L8, R8, cId]
  refine ops_call (.pureE (dagPast_meets l y hl) (by simp [go_sem, Nat.reduceLT, Nat.reduceAdd, Nat.reduceEqDiff, Nat.reduceLeDiff, Nat.reduceSub, Nat.reduceMul, Int.reduceEq, eq_self, reduceIte, cId])) ?_
  simp only [go_sem, Nat.reduceLT, Nat.reduceAdd, Nat.reduceEqDiff, Nat.reduceLeDiff, Nat.reduceSub, Nat.reduceMul, Int.reduceEq, eq_self, reduceIte]
  refine ops_call (.pureE (dagHeads_meets l c hl) (by simp [go_sem, Nat.reduceLT, Nat.reduceAdd, Nat.reduceEqDiff, Nat.reduceLeDiff, Nat.reduceSub, Nat.reduceMul, Int.reduceEq, eq_self, reduceIte])) ?_
  simp only [go_sem, Nat.reduceLT, Nat.reduceAdd, Nat.reduceEqDiff, Nat.reduceLeDiff, Nat.reduceSub, Nat.reduceMul, Int.reduceEq, eq_self, reduceIte]
  refine ops_call (.pureE (dagCount_meets l hl) (by simp [go_sem, Nat.reduceLT, Nat.reduceAdd, Nat.reduceEqDiff, Nat.reduceLeDiff, Nat.reduceSub, Nat.reduceMul, Int.reduceEq, eq_self, reduceIte])) ?_
  simp only [go_sem, Nat.reduceLT, Nat.reduceAdd, Nat.reduceEqDiff, Nat.reduceLeDiff, Nat.reduceSub, Nat.reduceMul, Int.reduceEq, eq_self, reduceIte]
  refine ops_call (.pureE (checkLog_meets l hl) (by simp [go_sem, Nat.reduceLT, Nat.reduceAdd, Nat.reduceEqDiff, Nat.reduceLeDiff, Nat.reduceSub, Nat.reduceMul, Int.reduceEq, eq_self, reduceIte])) ?_
  by_cases h0 : checkLog l = 0
  · have hok := log_ok.1 h0
    have hm := hok.len
    have hcr : ∀ r, countR l r = cntR l r := fun r => by simp [countR, h0]
    simp only [go_sem, Nat.reduceLT, Nat.reduceAdd, Nat.reduceEqDiff, Nat.reduceLeDiff, Nat.reduceSub, Nat.reduceMul, Int.reduceEq, eq_self, reduceIte, h0, hcr]
    refine ops_call (.pureE (countOf_meets l hok.reg (by omega)) (by simp [go_sem, Nat.reduceLT, Nat.reduceAdd, Nat.reduceEqDiff, Nat.reduceLeDiff, Nat.reduceSub, Nat.reduceMul, Int.reduceEq, eq_self, reduceIte])) ?_
    simp only [go_sem, Nat.reduceLT, Nat.reduceAdd, Nat.reduceEqDiff, Nat.reduceLeDiff, Nat.reduceSub, Nat.reduceMul, Int.reduceEq, eq_self, reduceIte]
    refine ops_call (.pureE (entryAt_meets l y hl) (by simp [go_sem, Nat.reduceLT, Nat.reduceAdd, Nat.reduceEqDiff, Nat.reduceLeDiff, Nat.reduceSub, Nat.reduceMul, Int.reduceEq, eq_self, reduceIte, cId])) ?_
    by_cases h1 : findE l y < 0
    · have hpe : pastErr l y = 5 := by simp [pastErr, h0, h1]
      have hpi : pastIds l y = [] := by simp [pastIds, hpe]
      simp only [go_sem, Nat.reduceLT, Nat.reduceAdd, Nat.reduceEqDiff, Nat.reduceLeDiff, Nat.reduceSub, Nat.reduceMul, Int.reduceEq, eq_self, reduceIte, h1]
      cases h2 : wthn c 1 7
      · have hhe : headsErr l c = 3 := by simp [headsErr, h0, h2]
        have hhi : headsIds l c = [] := by simp [headsIds, hhe]
        rw [wthn_false] at h2
        by_cases h3 : c < 1
        · simp only [go_sem, Nat.reduceLT, Nat.reduceAdd, Nat.reduceEqDiff, Nat.reduceLeDiff, Nat.reduceSub, Nat.reduceMul, Int.reduceEq, eq_self, reduceIte, h3]
          refine ops_call (.pure dagBegun_meets) ?_
          simp only [go_sem, Nat.reduceLT, Nat.reduceAdd, Nat.reduceEqDiff, Nat.reduceLeDiff, Nat.reduceSub, Nat.reduceMul, Int.reduceEq, eq_self, reduceIte, hpe, hpi, hhe, hhi]
          refine ops_call (.pureE (dagCheck_meets l hl) (by simp [go_sem, Nat.reduceLT, Nat.reduceAdd, Nat.reduceEqDiff, Nat.reduceLeDiff, Nat.reduceSub, Nat.reduceMul, Int.reduceEq, eq_self, reduceIte])) ?_
          simp only [go_sem, Nat.reduceLT, Nat.reduceAdd, Nat.reduceEqDiff, Nat.reduceLeDiff, Nat.reduceSub, Nat.reduceMul, Int.reduceEq, eq_self, reduceIte, h0]
          rw [hpi] at hpl
          rw [hhi] at hhl
          refine ops_call (.pureE (idsAre_meets [] 5 5 [] hpl) (by simp [go_sem, Nat.reduceLT, Nat.reduceAdd, Nat.reduceEqDiff, Nat.reduceLeDiff, Nat.reduceSub, Nat.reduceMul, Int.reduceEq, eq_self, reduceIte])) ?_
          simp only [go_sem, Nat.reduceLT, Nat.reduceAdd, Nat.reduceEqDiff, Nat.reduceLeDiff, Nat.reduceSub, Nat.reduceMul, Int.reduceEq, eq_self, reduceIte, fin [] [] 5 5 rfl (by simp)]
          refine ops_call (.pureE (idsAre_meets [] 3 3 [] hhl) (by simp [go_sem, Nat.reduceLT, Nat.reduceAdd, Nat.reduceEqDiff, Nat.reduceLeDiff, Nat.reduceSub, Nat.reduceMul, Int.reduceEq, eq_self, reduceIte])) ?_
          simp only [go_sem, Nat.reduceLT, Nat.reduceAdd, Nat.reduceEqDiff, Nat.reduceLeDiff, Nat.reduceSub, Nat.reduceMul, Int.reduceEq, eq_self, reduceIte, fin [] [] 3 3 rfl (by simp)]
          refine ret_pure hx ?_
          simp [go_sem, Nat.reduceLT, Nat.reduceAdd, Nat.reduceEqDiff, Nat.reduceLeDiff, Nat.reduceSub, Nat.reduceMul, Int.reduceEq, eq_self, reduceIte, L8, R8]
        · have h4 : 7 < c := by omega
          simp only [go_sem, Nat.reduceLT, Nat.reduceAdd, Nat.reduceEqDiff, Nat.reduceLeDiff, Nat.reduceSub, Nat.reduceMul, Int.reduceEq, eq_self, reduceIte, h3, h4]
          refine ops_call (.pure dagBegun_meets) ?_
          simp only [go_sem, Nat.reduceLT, Nat.reduceAdd, Nat.reduceEqDiff, Nat.reduceLeDiff, Nat.reduceSub, Nat.reduceMul, Int.reduceEq, eq_self, reduceIte, hpe, hpi, hhe, hhi]
          refine ops_call (.pureE (dagCheck_meets l hl) (by simp [go_sem, Nat.reduceLT, Nat.reduceAdd, Nat.reduceEqDiff, Nat.reduceLeDiff, Nat.reduceSub, Nat.reduceMul, Int.reduceEq, eq_self, reduceIte])) ?_
          simp only [go_sem, Nat.reduceLT, Nat.reduceAdd, Nat.reduceEqDiff, Nat.reduceLeDiff, Nat.reduceSub, Nat.reduceMul, Int.reduceEq, eq_self, reduceIte, h0]
          rw [hpi] at hpl
          rw [hhi] at hhl
          refine ops_call (.pureE (idsAre_meets [] 5 5 [] hpl) (by simp [go_sem, Nat.reduceLT, Nat.reduceAdd, Nat.reduceEqDiff, Nat.reduceLeDiff, Nat.reduceSub, Nat.reduceMul, Int.reduceEq, eq_self, reduceIte])) ?_
          simp only [go_sem, Nat.reduceLT, Nat.reduceAdd, Nat.reduceEqDiff, Nat.reduceLeDiff, Nat.reduceSub, Nat.reduceMul, Int.reduceEq, eq_self, reduceIte, fin [] [] 5 5 rfl (by simp)]
          refine ops_call (.pureE (idsAre_meets [] 3 3 [] hhl) (by simp [go_sem, Nat.reduceLT, Nat.reduceAdd, Nat.reduceEqDiff, Nat.reduceLeDiff, Nat.reduceSub, Nat.reduceMul, Int.reduceEq, eq_self, reduceIte])) ?_
          simp only [go_sem, Nat.reduceLT, Nat.reduceAdd, Nat.reduceEqDiff, Nat.reduceLeDiff, Nat.reduceSub, Nat.reduceMul, Int.reduceEq, eq_self, reduceIte, fin [] [] 3 3 rfl (by simp)]
          refine ret_pure hx ?_
          simp [go_sem, Nat.reduceLT, Nat.reduceAdd, Nat.reduceEqDiff, Nat.reduceLeDiff, Nat.reduceSub, Nat.reduceMul, Int.reduceEq, eq_self, reduceIte, L8, R8]
      · have hhe : headsErr l c = 0 := by simp [headsErr, h0, h2]
        have hhi : headsIds l c = sortI (headsC l c) := by simp [headsIds, hhe]
        have hw := wthn_iff.1 h2
        have h3 : ¬ c < 1 := by omega
        have h4 : ¬ 7 < c := by omega
        simp only [go_sem, Nat.reduceLT, Nat.reduceAdd, Nat.reduceEqDiff, Nat.reduceLeDiff, Nat.reduceSub, Nat.reduceMul, Int.reduceEq, eq_self, reduceIte, h3, h4]
        refine ops_call (.pureE (headsOf_meets l c hok h2) (by simp [go_sem, Nat.reduceLT, Nat.reduceAdd, Nat.reduceEqDiff, Nat.reduceLeDiff, Nat.reduceSub, Nat.reduceMul, Int.reduceEq, eq_self, reduceIte])) ?_
        simp only [go_sem, Nat.reduceLT, Nat.reduceAdd, Nat.reduceEqDiff, Nat.reduceLeDiff, Nat.reduceSub, Nat.reduceMul, Int.reduceEq, eq_self, reduceIte, heads_eq hok]
        refine ops_call (.pure dagBegun_meets) ?_
        simp only [go_sem, Nat.reduceLT, Nat.reduceAdd, Nat.reduceEqDiff, Nat.reduceLeDiff, Nat.reduceSub, Nat.reduceMul, Int.reduceEq, eq_self, reduceIte, hpe, hpi, hhe, hhi]
        refine ops_call (.pureE (dagCheck_meets l hl) (by simp [go_sem, Nat.reduceLT, Nat.reduceAdd, Nat.reduceEqDiff, Nat.reduceLeDiff, Nat.reduceSub, Nat.reduceMul, Int.reduceEq, eq_self, reduceIte])) ?_
        simp only [go_sem, Nat.reduceLT, Nat.reduceAdd, Nat.reduceEqDiff, Nat.reduceLeDiff, Nat.reduceSub, Nat.reduceMul, Int.reduceEq, eq_self, reduceIte, h0]
        rw [hpi] at hpl
        rw [hhi] at hhl
        refine ops_call (.pureE (idsAre_meets [] 5 5 [] hpl) (by simp [go_sem, Nat.reduceLT, Nat.reduceAdd, Nat.reduceEqDiff, Nat.reduceLeDiff, Nat.reduceSub, Nat.reduceMul, Int.reduceEq, eq_self, reduceIte])) ?_
        simp only [go_sem, Nat.reduceLT, Nat.reduceAdd, Nat.reduceEqDiff, Nat.reduceLeDiff, Nat.reduceSub, Nat.reduceMul, Int.reduceEq, eq_self, reduceIte, fin [] [] 5 5 rfl (by simp)]
        refine ops_call (.pureE (idsAre_meets (sortI (headsC l c)) 0 0 (sortI (headsC l c)) hhl) (by simp [go_sem, Nat.reduceLT, Nat.reduceAdd, Nat.reduceEqDiff, Nat.reduceLeDiff, Nat.reduceSub, Nat.reduceMul, Int.reduceEq, eq_self, reduceIte])) ?_
        simp only [go_sem, Nat.reduceLT, Nat.reduceAdd, Nat.reduceEqDiff, Nat.reduceLeDiff, Nat.reduceSub, Nat.reduceMul, Int.reduceEq, eq_self, reduceIte, fin (sortI (headsC l c)) (sortI (headsC l c)) 0 0 rfl (by simp)]
        refine ret_pure hx ?_
        simp [go_sem, Nat.reduceLT, Nat.reduceAdd, Nat.reduceEqDiff, Nat.reduceLeDiff, Nat.reduceSub, Nat.reduceMul, Int.reduceEq, eq_self, reduceIte, L8, R8]
    · obtain ⟨k, f1, f2, f3⟩ := findE_spec (show 0 ≤ findE l y by omega)
      have hpe : pastErr l y = 0 := by simp [pastErr, h0, h1]
      have hpi : pastIds l y = pastOf l k := by simp [pastIds, hpe, f1]
      simp only [go_sem, Nat.reduceLT, Nat.reduceAdd, Nat.reduceEqDiff, Nat.reduceLeDiff, Nat.reduceSub, Nat.reduceMul, Int.reduceEq, eq_self, reduceIte, h1]
      refine ops_call (.pureE (pastOfR_meets l k hok f2) (by simp [go_sem, Nat.reduceLT, Nat.reduceAdd, Nat.reduceEqDiff, Nat.reduceLeDiff, Nat.reduceSub, Nat.reduceMul, Int.reduceEq, eq_self, reduceIte, f1])) ?_
      simp only [go_sem, Nat.reduceLT, Nat.reduceAdd, Nat.reduceEqDiff, Nat.reduceLeDiff, Nat.reduceSub, Nat.reduceMul, Int.reduceEq, eq_self, reduceIte]
      refine ops_call (.pureE (rising_meets l (marksOf l k) hm (marksOf_length l k)) (by simp [go_sem, Nat.reduceLT, Nat.reduceAdd, Nat.reduceEqDiff, Nat.reduceLeDiff, Nat.reduceSub, Nat.reduceMul, Int.reduceEq, eq_self, reduceIte])) ?_
      simp only [go_sem, Nat.reduceLT, Nat.reduceAdd, Nat.reduceEqDiff, Nat.reduceLeDiff, Nat.reduceSub, Nat.reduceMul, Int.reduceEq, eq_self, reduceIte, rising_past hok f2]
      cases h2 : wthn c 1 7
      · have hhe : headsErr l c = 3 := by simp [headsErr, h0, h2]
        have hhi : headsIds l c = [] := by simp [headsIds, hhe]
        rw [wthn_false] at h2
        by_cases h3 : c < 1
        · simp only [go_sem, Nat.reduceLT, Nat.reduceAdd, Nat.reduceEqDiff, Nat.reduceLeDiff, Nat.reduceSub, Nat.reduceMul, Int.reduceEq, eq_self, reduceIte, h3]
          refine ops_call (.pure dagBegun_meets) ?_
          simp only [go_sem, Nat.reduceLT, Nat.reduceAdd, Nat.reduceEqDiff, Nat.reduceLeDiff, Nat.reduceSub, Nat.reduceMul, Int.reduceEq, eq_self, reduceIte, hpe, hpi, hhe, hhi]
          refine ops_call (.pureE (dagCheck_meets l hl) (by simp [go_sem, Nat.reduceLT, Nat.reduceAdd, Nat.reduceEqDiff, Nat.reduceLeDiff, Nat.reduceSub, Nat.reduceMul, Int.reduceEq, eq_self, reduceIte])) ?_
          simp only [go_sem, Nat.reduceLT, Nat.reduceAdd, Nat.reduceEqDiff, Nat.reduceLeDiff, Nat.reduceSub, Nat.reduceMul, Int.reduceEq, eq_self, reduceIte, h0]
          rw [hpi] at hpl
          rw [hhi] at hhl
          refine ops_call (.pureE (idsAre_meets (pastOf l k) 0 0 (pastOf l k) hpl) (by simp [go_sem, Nat.reduceLT, Nat.reduceAdd, Nat.reduceEqDiff, Nat.reduceLeDiff, Nat.reduceSub, Nat.reduceMul, Int.reduceEq, eq_self, reduceIte])) ?_
          simp only [go_sem, Nat.reduceLT, Nat.reduceAdd, Nat.reduceEqDiff, Nat.reduceLeDiff, Nat.reduceSub, Nat.reduceMul, Int.reduceEq, eq_self, reduceIte, fin (pastOf l k) (pastOf l k) 0 0 rfl (by simp)]
          refine ops_call (.pureE (idsAre_meets [] 3 3 [] hhl) (by simp [go_sem, Nat.reduceLT, Nat.reduceAdd, Nat.reduceEqDiff, Nat.reduceLeDiff, Nat.reduceSub, Nat.reduceMul, Int.reduceEq, eq_self, reduceIte])) ?_
          simp only [go_sem, Nat.reduceLT, Nat.reduceAdd, Nat.reduceEqDiff, Nat.reduceLeDiff, Nat.reduceSub, Nat.reduceMul, Int.reduceEq, eq_self, reduceIte, fin [] [] 3 3 rfl (by simp)]
          refine ret_pure hx ?_
          simp [go_sem, Nat.reduceLT, Nat.reduceAdd, Nat.reduceEqDiff, Nat.reduceLeDiff, Nat.reduceSub, Nat.reduceMul, Int.reduceEq, eq_self, reduceIte, L8, R8]
        · have h4 : 7 < c := by omega
          simp only [go_sem, Nat.reduceLT, Nat.reduceAdd, Nat.reduceEqDiff, Nat.reduceLeDiff, Nat.reduceSub, Nat.reduceMul, Int.reduceEq, eq_self, reduceIte, h3, h4]
          refine ops_call (.pure dagBegun_meets) ?_
          simp only [go_sem, Nat.reduceLT, Nat.reduceAdd, Nat.reduceEqDiff, Nat.reduceLeDiff, Nat.reduceSub, Nat.reduceMul, Int.reduceEq, eq_self, reduceIte, hpe, hpi, hhe, hhi]
          refine ops_call (.pureE (dagCheck_meets l hl) (by simp [go_sem, Nat.reduceLT, Nat.reduceAdd, Nat.reduceEqDiff, Nat.reduceLeDiff, Nat.reduceSub, Nat.reduceMul, Int.reduceEq, eq_self, reduceIte])) ?_
          simp only [go_sem, Nat.reduceLT, Nat.reduceAdd, Nat.reduceEqDiff, Nat.reduceLeDiff, Nat.reduceSub, Nat.reduceMul, Int.reduceEq, eq_self, reduceIte, h0]
          rw [hpi] at hpl
          rw [hhi] at hhl
          refine ops_call (.pureE (idsAre_meets (pastOf l k) 0 0 (pastOf l k) hpl) (by simp [go_sem, Nat.reduceLT, Nat.reduceAdd, Nat.reduceEqDiff, Nat.reduceLeDiff, Nat.reduceSub, Nat.reduceMul, Int.reduceEq, eq_self, reduceIte])) ?_
          simp only [go_sem, Nat.reduceLT, Nat.reduceAdd, Nat.reduceEqDiff, Nat.reduceLeDiff, Nat.reduceSub, Nat.reduceMul, Int.reduceEq, eq_self, reduceIte, fin (pastOf l k) (pastOf l k) 0 0 rfl (by simp)]
          refine ops_call (.pureE (idsAre_meets [] 3 3 [] hhl) (by simp [go_sem, Nat.reduceLT, Nat.reduceAdd, Nat.reduceEqDiff, Nat.reduceLeDiff, Nat.reduceSub, Nat.reduceMul, Int.reduceEq, eq_self, reduceIte])) ?_
          simp only [go_sem, Nat.reduceLT, Nat.reduceAdd, Nat.reduceEqDiff, Nat.reduceLeDiff, Nat.reduceSub, Nat.reduceMul, Int.reduceEq, eq_self, reduceIte, fin [] [] 3 3 rfl (by simp)]
          refine ret_pure hx ?_
          simp [go_sem, Nat.reduceLT, Nat.reduceAdd, Nat.reduceEqDiff, Nat.reduceLeDiff, Nat.reduceSub, Nat.reduceMul, Int.reduceEq, eq_self, reduceIte, L8, R8]
      · have hhe : headsErr l c = 0 := by simp [headsErr, h0, h2]
        have hhi : headsIds l c = sortI (headsC l c) := by simp [headsIds, hhe]
        have hw := wthn_iff.1 h2
        have h3 : ¬ c < 1 := by omega
        have h4 : ¬ 7 < c := by omega
        simp only [go_sem, Nat.reduceLT, Nat.reduceAdd, Nat.reduceEqDiff, Nat.reduceLeDiff, Nat.reduceSub, Nat.reduceMul, Int.reduceEq, eq_self, reduceIte, h3, h4]
        refine ops_call (.pureE (headsOf_meets l c hok h2) (by simp [go_sem, Nat.reduceLT, Nat.reduceAdd, Nat.reduceEqDiff, Nat.reduceLeDiff, Nat.reduceSub, Nat.reduceMul, Int.reduceEq, eq_self, reduceIte])) ?_
        simp only [go_sem, Nat.reduceLT, Nat.reduceAdd, Nat.reduceEqDiff, Nat.reduceLeDiff, Nat.reduceSub, Nat.reduceMul, Int.reduceEq, eq_self, reduceIte, heads_eq hok]
        refine ops_call (.pure dagBegun_meets) ?_
        simp only [go_sem, Nat.reduceLT, Nat.reduceAdd, Nat.reduceEqDiff, Nat.reduceLeDiff, Nat.reduceSub, Nat.reduceMul, Int.reduceEq, eq_self, reduceIte, hpe, hpi, hhe, hhi]
        refine ops_call (.pureE (dagCheck_meets l hl) (by simp [go_sem, Nat.reduceLT, Nat.reduceAdd, Nat.reduceEqDiff, Nat.reduceLeDiff, Nat.reduceSub, Nat.reduceMul, Int.reduceEq, eq_self, reduceIte])) ?_
        simp only [go_sem, Nat.reduceLT, Nat.reduceAdd, Nat.reduceEqDiff, Nat.reduceLeDiff, Nat.reduceSub, Nat.reduceMul, Int.reduceEq, eq_self, reduceIte, h0]
        rw [hpi] at hpl
        rw [hhi] at hhl
        refine ops_call (.pureE (idsAre_meets (pastOf l k) 0 0 (pastOf l k) hpl) (by simp [go_sem, Nat.reduceLT, Nat.reduceAdd, Nat.reduceEqDiff, Nat.reduceLeDiff, Nat.reduceSub, Nat.reduceMul, Int.reduceEq, eq_self, reduceIte])) ?_
        simp only [go_sem, Nat.reduceLT, Nat.reduceAdd, Nat.reduceEqDiff, Nat.reduceLeDiff, Nat.reduceSub, Nat.reduceMul, Int.reduceEq, eq_self, reduceIte, fin (pastOf l k) (pastOf l k) 0 0 rfl (by simp)]
        refine ops_call (.pureE (idsAre_meets (sortI (headsC l c)) 0 0 (sortI (headsC l c)) hhl) (by simp [go_sem, Nat.reduceLT, Nat.reduceAdd, Nat.reduceEqDiff, Nat.reduceLeDiff, Nat.reduceSub, Nat.reduceMul, Int.reduceEq, eq_self, reduceIte])) ?_
        simp only [go_sem, Nat.reduceLT, Nat.reduceAdd, Nat.reduceEqDiff, Nat.reduceLeDiff, Nat.reduceSub, Nat.reduceMul, Int.reduceEq, eq_self, reduceIte, fin (sortI (headsC l c)) (sortI (headsC l c)) 0 0 rfl (by simp)]
        refine ret_pure hx ?_
        simp [go_sem, Nat.reduceLT, Nat.reduceAdd, Nat.reduceEqDiff, Nat.reduceLeDiff, Nat.reduceSub, Nat.reduceMul, Int.reduceEq, eq_self, reduceIte, L8, R8]
  · have hpe : pastErr l y = checkLog l := by simp [pastErr, h0]
    have hpi : pastIds l y = [] := by simp [pastIds, hpe, h0]
    have hhe : headsErr l c = checkLog l := by simp [headsErr, h0]
    have hhi : headsIds l c = [] := by simp [headsIds, hhe, h0]
    have hcr : ∀ r, countR l r = 0 := fun r => by simp [countR, h0]
    simp only [go_sem, Nat.reduceLT, Nat.reduceAdd, Nat.reduceEqDiff, Nat.reduceLeDiff, Nat.reduceSub, Nat.reduceMul, Int.reduceEq, eq_self, reduceIte, h0, hcr, hpe, hpi, hhe, hhi]
    refine ops_call (.pure dagBegun_meets) ?_
    simp only [go_sem, Nat.reduceLT, Nat.reduceAdd, Nat.reduceEqDiff, Nat.reduceLeDiff, Nat.reduceSub, Nat.reduceMul, Int.reduceEq, eq_self, reduceIte]
    refine ops_call (.pureE (dagCheck_meets l hl) (by simp [go_sem, Nat.reduceLT, Nat.reduceAdd, Nat.reduceEqDiff, Nat.reduceLeDiff, Nat.reduceSub, Nat.reduceMul, Int.reduceEq, eq_self, reduceIte])) ?_
    simp only [go_sem, Nat.reduceLT, Nat.reduceAdd, Nat.reduceEqDiff, Nat.reduceLeDiff, Nat.reduceSub, Nat.reduceMul, Int.reduceEq, eq_self, reduceIte]
    refine ops_call (.pureE (idsAre_meets [] (checkLog l) (checkLog l) [] (by simp)) (by simp [go_sem, Nat.reduceLT, Nat.reduceAdd, Nat.reduceEqDiff, Nat.reduceLeDiff, Nat.reduceSub, Nat.reduceMul, Int.reduceEq, eq_self, reduceIte])) ?_
    simp only [go_sem, Nat.reduceLT, Nat.reduceAdd, Nat.reduceEqDiff, Nat.reduceLeDiff, Nat.reduceSub, Nat.reduceMul, Int.reduceEq, eq_self, reduceIte, h0, ite_self]
    refine ops_call (.pureE (idsAre_meets [] (checkLog l) (checkLog l) [] (by simp)) (by simp [go_sem, Nat.reduceLT, Nat.reduceAdd, Nat.reduceEqDiff, Nat.reduceLeDiff, Nat.reduceSub, Nat.reduceMul, Int.reduceEq, eq_self, reduceIte])) ?_
    simp only [go_sem, Nat.reduceLT, Nat.reduceAdd, Nat.reduceEqDiff, Nat.reduceLeDiff, Nat.reduceSub, Nat.reduceMul, Int.reduceEq, eq_self, reduceIte, h0, ite_self]
    refine ret_pure hx ?_
    simp [go_sem, Nat.reduceLT, Nat.reduceAdd, Nat.reduceEqDiff, Nat.reduceLeDiff, Nat.reduceSub, Nat.reduceMul, Int.reduceEq, eq_self, reduceIte, L8, R8]
end Go.Proofs.Ytambpjenpiiifaa
/- What must be in any case of orders; OrderTells, as a contract. -/
namespace Go.Proofs.Ytambpjenpiiifaa
set_option linter.unusedSimpArgs false
set_option linter.unusedVariables false
open Go.RowKit
/-! what comes, of given pasts: to reckon with -/
def mayP (ps : List (List Id)) (l : List Entry) (c : Int) (out : List Id) (y : Id) : Bool := !(withC l c).any fun e => hasI (pastAt ps l y) e.id && !hasI out e.id
def nextPs (ps : List (List Id)) (l : List Entry) (c : Int) (out : List Id) : Option Id := allIds.find? fun x => decide (0 ≤ findE l x) && meetB (nth l (findE l x).toNat).c c && !hasI out x && mayP ps l c out x
def morePs (ps : List (List Id)) (l : List Entry) (c : Int) : Nat → List Id → List Id
  | 0, out => out
  | n + 1, out => match nextPs ps l c out with
    | some x => morePs ps l c n (out ++ [x])
    | none => out
theorem moreN_P (l : List Entry) (c : Int) : ∀ n out, moreN l c n out = morePs (pasts l) l c n out
  | 0, _ => rfl
  | n + 1, out => by
    simp only [moreN, morePs]
    rw [show nextR l c out = nextPs (pasts l) l c out from rfl]
    cases nextPs (pasts l) l c out with
    | none => rfl
    | some x => exact moreN_P l c n _
def ordP (ps : List (List Id)) (l : List Entry) (ids : List Id) : Bool := !(List.range ids.length).any fun i => (ids.drop i).any fun y => hasI (pastAt ps l (nth ids i)) y
theorem ordB_P (l : List Entry) (ids : List Id) : ordB l ids = ordP (pasts l) l ids := rfl
theorem eL_pasts : pasts eL = [[], [], [⟨0, 1⟩], [⟨0, 1⟩, ⟨0, 2⟩, ⟨1, 1⟩]] := by
  have e : ∀ k, k < 4 → nth (pasts eL) k = nth [[], [], [⟨0, 1⟩], [⟨0, 1⟩, ⟨0, 2⟩, ⟨1, 1⟩]] k := by
    intro k hk
    show pastOf eL k = _
    rw [← rising_past eL_ok (by rw [eL_len]; exact hk)]
    rcases k with _ | _ | _ | _ | k
    · decide +kernel
    · decide +kernel
    · decide +kernel
    · decide +kernel
    · omega
  have hl : (pasts eL).length = 4 := by unfold pasts; rw [pastsTo_length]; rfl
  refine List.ext_getElem (by rw [hl]; rfl) fun i h1 h2 => ?_
  rw [← nth_eq _ i h1, ← nth_eq _ i h2]
  exact e i (by omega)
theorem eL_begun (c : Int) (ids : List Id) (h1 : someIds eL ids = 0) (h2 : wthn c 1 7 = true) (h3 : ordP [[], [], [⟨0, 1⟩], [⟨0, 1⟩, ⟨0, 2⟩, ⟨1, 1⟩]] eL ids = true)
    (h4 : ids.all (fun y => !(decide (findE (withC eL c) y < 0)) && mayP [[], [], [⟨0, 1⟩], [⟨0, 1⟩, ⟨0, 2⟩, ⟨1, 1⟩]] eL c ids y) = true) : begunErr eL c ids = 0 := by
  have g3 : ordB eL ids = true := by rw [ordB_P, eL_pasts]; exact h3
  have g4 : ids.any (oddB eL c ids) = false := by
    rw [List.any_eq_false]
    intro y hy
    have := List.all_eq_true.1 h4 y hy
    simp only [Bool.and_eq_true, Bool.not_eq_true', decide_eq_false_iff_not] at this
    have g5 : mayB eL c ids y = true := by show mayP (pasts eL) eL c ids y = true; rw [eL_pasts]; exact this.2
    simp [oddB, this.1, g5]
  simp only [begunErr, eL_check, h1, h2, g3, g4]
  rfl
theorem eL_more (c : Int) (ids : List Id) (h : begunErr eL c ids = 0) : moreIds eL c ids = morePs [[], [], [⟨0, 1⟩], [⟨0, 1⟩, ⟨0, 2⟩, ⟨1, 1⟩]] eL c (mOut eL c ids) ids := by
  rw [moreIds, if_pos h, more, moreN_P, eL_pasts]
set_option maxHeartbeats 1000000 in
theorem orderBegun_meets : Meets Try.prog 62 [] [] (.bool true) [] := by
  have b1 : begunErr eL 1 [] = 0 := eL_begun 1 [] (by decide +kernel) (by decide +kernel) (by decide +kernel) (by decide +kernel)
  have b2 : begunErr eL 3 [⟨1, 1⟩] = 0 := eL_begun 3 [⟨1, 1⟩] (by decide +kernel) (by decide +kernel) (by decide +kernel) (by decide +kernel)
  have m1 : moreIds eL 1 [] = [⟨0, 1⟩, ⟨0, 2⟩, ⟨1, 1⟩] := by rw [eL_more 1 [] b1]; decide +kernel
  have m2 : moreIds eL 3 [⟨1, 1⟩] = [⟨1, 1⟩, ⟨0, 1⟩, ⟨0, 2⟩, ⟨1, 2⟩] := by rw [eL_more 3 _ b2]; decide +kernel
  have i1 : isErr eL [⟨1, 1⟩, ⟨0, 1⟩, ⟨1, 2⟩] = 0 := by decide +kernel
  have i2 : isErr eL [⟨1, 2⟩, ⟨0, 1⟩] = 0 := by decide +kernel
  have o1 : isOk eL [⟨1, 1⟩, ⟨0, 1⟩, ⟨1, 2⟩] = true := by rw [isOk, i1, ordB_P, eL_pasts]; decide +kernel
  have o2 : isOk eL [⟨1, 2⟩, ⟨0, 1⟩] = false := by rw [isOk, i2, ordB_P, eL_pasts]; decide +kernel
  have hent := entries_meets
  rw [eL_rows] at hent
  refine Meets.of_walk Try.func62 Try.ntmps62 low62 res62 (by simp) fun x hx => ?_
  simp only [go_sem, Nat.reduceLT, Nat.reduceAdd, Nat.reduceEqDiff, Nat.reduceLeDiff, Nat.reduceSub, Nat.reduceMul, Int.reduceEq, eq_self, reduceIte, L62, R62]
  refine ops_call (.pure hent) ?_
  simp only [go_sem, Nat.reduceLT, Nat.reduceAdd, Nat.reduceEqDiff, Nat.reduceLeDiff, Nat.reduceSub, Nat.reduceMul, Int.reduceEq, eq_self, reduceIte]
  refine ops_call (.pureE (orderFirst_meets eL 1 (by decide)) (by simp [go_sem, Nat.reduceLT, Nat.reduceAdd, Nat.reduceEqDiff, Nat.reduceLeDiff, Nat.reduceSub, Nat.reduceMul, Int.reduceEq, eq_self, reduceIte])) ?_
  simp only [go_sem, Nat.reduceLT, Nat.reduceAdd, Nat.reduceEqDiff, Nat.reduceLeDiff, Nat.reduceSub, Nat.reduceMul, Int.reduceEq, eq_self, reduceIte, b1, m1]
  refine ops_call (.pure hent) ?_
  simp only [go_sem, Nat.reduceLT, Nat.reduceAdd, Nat.reduceEqDiff, Nat.reduceLeDiff, Nat.reduceSub, Nat.reduceMul, Int.reduceEq, eq_self, reduceIte]
  refine ops_call (.pure (lawId_meets _ _)) ?_
  simp only [go_sem, Nat.reduceLT, Nat.reduceAdd, Nat.reduceEqDiff, Nat.reduceLeDiff, Nat.reduceSub, Nat.reduceMul, Int.reduceEq, eq_self, reduceIte]
  refine ops_call (.pureE (orderMore_meets eL 3 [⟨1, 1⟩] (by decide) (by decide)) (by simp [go_sem, Nat.reduceLT, Nat.reduceAdd, Nat.reduceEqDiff, Nat.reduceLeDiff, Nat.reduceSub, Nat.reduceMul, Int.reduceEq, eq_self, reduceIte, cId])) ?_
  simp only [go_sem, Nat.reduceLT, Nat.reduceAdd, Nat.reduceEqDiff, Nat.reduceLeDiff, Nat.reduceSub, Nat.reduceMul, Int.reduceEq, eq_self, reduceIte, b2, m2]
  refine ops_call (.pure hent) ?_
  simp only [go_sem, Nat.reduceLT, Nat.reduceAdd, Nat.reduceEqDiff, Nat.reduceLeDiff, Nat.reduceSub, Nat.reduceMul, Int.reduceEq, eq_self, reduceIte]
  iterate 3
    refine ops_call (.pure (lawId_meets _ _)) ?_
    simp only [go_sem, Nat.reduceLT, Nat.reduceAdd, Nat.reduceEqDiff, Nat.reduceLeDiff, Nat.reduceSub, Nat.reduceMul, Int.reduceEq, eq_self, reduceIte]
  refine ops_call (.pureE (orderIs_meets eL [⟨1, 1⟩, ⟨0, 1⟩, ⟨1, 2⟩] (by decide) (by decide)) (by simp [go_sem, Nat.reduceLT, Nat.reduceAdd, Nat.reduceEqDiff, Nat.reduceLeDiff, Nat.reduceSub, Nat.reduceMul, Int.reduceEq, eq_self, reduceIte, cId])) ?_
  simp only [go_sem, Nat.reduceLT, Nat.reduceAdd, Nat.reduceEqDiff, Nat.reduceLeDiff, Nat.reduceSub, Nat.reduceMul, Int.reduceEq, eq_self, reduceIte, i1, o1]
  refine ops_call (.pure hent) ?_
  simp only [go_sem, Nat.reduceLT, Nat.reduceAdd, Nat.reduceEqDiff, Nat.reduceLeDiff, Nat.reduceSub, Nat.reduceMul, Int.reduceEq, eq_self, reduceIte]
  iterate 2
    refine ops_call (.pure (lawId_meets _ _)) ?_
    simp only [go_sem, Nat.reduceLT, Nat.reduceAdd, Nat.reduceEqDiff, Nat.reduceLeDiff, Nat.reduceSub, Nat.reduceMul, Int.reduceEq, eq_self, reduceIte]
  refine ops_call (.pureE (orderIs_meets eL [⟨1, 2⟩, ⟨0, 1⟩] (by decide) (by decide)) (by simp [go_sem, Nat.reduceLT, Nat.reduceAdd, Nat.reduceEqDiff, Nat.reduceLeDiff, Nat.reduceSub, Nat.reduceMul, Int.reduceEq, eq_self, reduceIte, cId])) ?_
  simp only [go_sem, Nat.reduceLT, Nat.reduceAdd, Nat.reduceEqDiff, Nat.reduceLeDiff, Nat.reduceSub, Nat.reduceMul, Int.reduceEq, eq_self, reduceIte, i2, o2]
  iterate 3
    refine ops_call (.pure (lawId_meets _ _)) ?_
    simp only [go_sem, Nat.reduceLT, Nat.reduceAdd, Nat.reduceEqDiff, Nat.reduceLeDiff, Nat.reduceSub, Nat.reduceMul, Int.reduceEq, eq_self, reduceIte]
  refine ops_call (.pureE (sameIds_meets [⟨0, 1⟩, ⟨0, 2⟩, ⟨1, 1⟩] [⟨0, 1⟩, ⟨0, 2⟩, ⟨1, 1⟩] (by decide)) (by simp [go_sem, Nat.reduceLT, Nat.reduceAdd, Nat.reduceEqDiff, Nat.reduceLeDiff, Nat.reduceSub, Nat.reduceMul, Int.reduceEq, eq_self, reduceIte, cId])) ?_
  simp only [go_sem, Nat.reduceLT, Nat.reduceAdd, Nat.reduceEqDiff, Nat.reduceLeDiff, Nat.reduceSub, Nat.reduceMul, Int.reduceEq, eq_self, reduceIte]
  iterate 4
    refine ops_call (.pure (lawId_meets _ _)) ?_
    simp only [go_sem, Nat.reduceLT, Nat.reduceAdd, Nat.reduceEqDiff, Nat.reduceLeDiff, Nat.reduceSub, Nat.reduceMul, Int.reduceEq, eq_self, reduceIte]
  refine ops_call (.pureE (sameIds_meets [⟨1, 1⟩, ⟨0, 1⟩, ⟨0, 2⟩, ⟨1, 2⟩] [⟨1, 1⟩, ⟨0, 1⟩, ⟨0, 2⟩, ⟨1, 2⟩] (by decide)) (by simp [go_sem, Nat.reduceLT, Nat.reduceAdd, Nat.reduceEqDiff, Nat.reduceLeDiff, Nat.reduceSub, Nat.reduceMul, Int.reduceEq, eq_self, reduceIte, cId])) ?_
  simp only [go_sem, Nat.reduceLT, Nat.reduceAdd, Nat.reduceEqDiff, Nat.reduceLeDiff, Nat.reduceSub, Nat.reduceMul, Int.reduceEq, eq_self, reduceIte]
  refine ret_pure hx ?_
  simp [go_sem, Nat.reduceLT, Nat.reduceAdd, Nat.reduceEqDiff, Nat.reduceLeDiff, Nat.reduceSub, Nat.reduceMul, Int.reduceEq, eq_self, reduceIte, L62, R62]
theorem more_len {l : List Entry} (h : LogOk l) {c : Int} : ∀ (n : Nat) (out : List Id), (moreN l c n out).length ≤ out.length + n
  | 0, out => by simp [moreN]
  | n + 1, out => by
    simp only [moreN]
    cases nextR l c out with
    | none => simp
    | some x =>
      have := more_len h (c := c) n (out ++ [x])
      rw [List.length_append] at this
      simp only [List.length_cons, List.length_nil] at this
      show (moreN l c n (out ++ [x])).length ≤ _
      omega
theorem moreIds_len (l : List Entry) (c : Int) (ids : List Id) : (moreIds l c ids).length ≤ 80 := by
  unfold moreIds
  split
  · rename_i h
    obtain ⟨g0, g1, g2, -, -⟩ := begun_ok h
    have hok := log_ok.1 g0
    have a := some_len hok g1
    have b := mOut_le hok c ids
    have := more_len hok (c := c) (mOut l c ids) ids
    unfold more
    omega
  · simp
end Go.Proofs.Ytambpjenpiiifaa
/- Plain laws of orders: what is begun, and how it goes on. No program in sight. -/
namespace Go.Proofs.Ytambpjenpiiifaa

theorem more_pre {l : List Entry} (h : LogOk l) {c : Int} : ∀ (n : Nat) (out : List Id), mOut l c out ≤ n → ∃ t, more l c out = out ++ t := by
  intro n
  induction n with
  | zero => intro out hn; exact ⟨[], by rw [more_none (next_zero h (by omega))]; simp⟩
  | succ n ih =>
    intro out hn
    cases hx : nextR l c out with
    | none => exact ⟨[], by rw [more_none hx]; simp⟩
    | some x =>
      have := mOut_next h ((nextR_some h).1 hx).1
      obtain ⟨t, ht⟩ := ih (out ++ [x]) (by omega)
      exact ⟨x :: t, by rw [more_some h hx, ht]; simp⟩
theorem more_take {l : List Entry} (h : LogOk l) (c : Int) (out : List Id) : (more l c out).take out.length = out := by
  obtain ⟨t, ht⟩ := more_pre h (c := c) _ out (Nat.le_refl _)
  rw [ht]; simp
theorem more_ge {l : List Entry} (h : LogOk l) (c : Int) (out : List Id) : out.length ≤ (more l c out).length := by
  obtain ⟨t, ht⟩ := more_pre h (c := c) _ out (Nat.le_refl _)
  rw [ht]; simp
theorem more_end {l : List Entry} (h : LogOk l) {c : Int} : ∀ (n : Nat) (out : List Id), mOut l c out ≤ n → nextR l c (more l c out) = none := by
  intro n
  induction n with
  | zero => intro out hn; have := next_zero h (c := c) (out := out) (by omega); rw [more_none this]; exact this
  | succ n ih =>
    intro out hn
    cases hx : nextR l c out with
    | none => rw [more_none hx]; exact hx
    | some x =>
      have := mOut_next h ((nextR_some h).1 hx).1
      rw [more_some h hx]
      exact ih _ (by omega)
theorem more_more {l : List Entry} (h : LogOk l) (c : Int) (out : List Id) : more l c (more l c out) = more l c out := more_none (more_end h _ out (Nat.le_refl _))

/-- an order that may go on -/
structure Good (l : List Entry) (c : Int) (out : List Id) : Prop where
  once : out.Nodup
  col : ∀ x ∈ out, ∃ k, k < l.length ∧ (nth l k).id = x ∧ meetB (nth l k).c c = true
  may : ∀ x ∈ out, mayB l c out x = true
  ord : ∀ i k, i < k → k < out.length → hasI (pastAt (pasts l) l (nth out i)) (nth out k) = false
theorem Good.there {l : List Entry} (h : LogOk l) {c : Int} {out : List Id} (g : Good l c out) : ∀ x ∈ out, 0 ≤ findE l x := fun x hx => by
  obtain ⟨k, k1, rfl, -⟩ := g.col x hx
  rw [h.find k1]; omega
theorem mayB_iff {l : List Entry} {c : Int} {out : List Id} {y : Id} : mayB l c out y = true ↔ ∀ e ∈ withC l c, e.id ∈ pastAt (pasts l) l y → e.id ∈ out := by
  unfold mayB
  rw [Bool.not_eq_true', List.any_eq_false]
  constructor
  · intro hh e he hp
    have := hh e he
    simp only [blkB, Bool.and_eq_true, Bool.not_eq_true', not_and, Bool.not_eq_false] at this
    exact hasI_iff.1 (this (hasI_iff.2 hp))
  · intro hh e he
    simp only [blkB, Bool.and_eq_true, Bool.not_eq_true', not_and, Bool.not_eq_false]
    exact fun hp => hasI_iff.2 (hh e he (hasI_iff.1 hp))
theorem good_of {l : List Entry} {c : Int} {ids : List Id} (hb : begunErr l c ids = 0) : Good l c ids := by
  obtain ⟨g0, g1, g2, g3, g4⟩ := begun_ok hb
  have h := log_ok.1 g0
  have hso := some_ok.1 g1
  refine ⟨hso.once, fun x hx => ?_, fun x hx => ?_, fun i k hik hk => ?_⟩
  · obtain ⟨k, k1, k2, k3⟩ := findE_spec (hso.there x hx)
    have := g4 x hx
    simp only [oddB, Bool.or_eq_false_iff, decide_eq_false_iff_not] at this
    have h2 := this.1
    rw [← k3, findW h k2, Bool.not_eq_false] at h2
    exact ⟨k, k2, k3, h2⟩
  · have := g4 x hx
    simp only [oddB, Bool.or_eq_false_iff, Bool.not_eq_false'] at this
    exact this.2
  · cases e : hasI (pastAt (pasts l) l (nth ids i)) (nth ids k)
    · rfl
    · rw [ordB_false (Nat.le_of_lt hik) hk e] at g3; cases g3
theorem good_begun {l : List Entry} (h : checkLog l = 0) {c : Int} (hc : wthn c 1 7 = true) {ids : List Id} (g : Good l c ids) : begunErr l c ids = 0 := by
  have hok := log_ok.1 h
  have h1 : someIds l ids = 0 := some_ok.2 ⟨g.there hok, g.once⟩
  have h3 := ordB_true hok (g.there hok) g.ord
  have h4 : ids.any (oddB l c ids) = false := by
    rw [List.any_eq_false]
    intro y hy
    obtain ⟨k, k1, k2, k3⟩ := g.col y hy
    have hf : ¬ findE (withC l c) y < 0 := by rw [← k2, findW hok k1, k3]; simp
    simp [oddB, hf, g.may y hy]
  simp only [begunErr, h, h1, hc, h3, h4]
  rfl
theorem good_step {l : List Entry} (h : LogOk l) {c : Int} {out : List Id} {x : Id} (g : Good l c out) (hx : candB l c out x = true) : Good l c (out ++ [x]) := by
  obtain ⟨⟨e, he, rfl⟩, h2, h3⟩ := (candB_iff h).1 hx
  refine ⟨?_, fun y hy => ?_, fun y hy => ?_, fun i k hik hk => ?_⟩
  · rw [List.nodup_append]
    exact ⟨g.once, by simp, fun a ha b hb => by simp at hb; subst hb; exact fun e2 => h2 (e2 ▸ ha)⟩
  · rcases List.mem_append.1 hy with hy | hy
    · exact g.col y hy
    · simp at hy; subst hy
      obtain ⟨k, hk, rfl, hm⟩ := mem_withC.1 he
      exact ⟨k, hk, rfl, hm⟩
  · refine mayB_iff.2 fun e' he' hp => List.mem_append.2 (.inl ?_)
    rcases List.mem_append.1 hy with hy | hy
    · exact mayB_iff.1 (g.may y hy) e' he' hp
    · simp at hy; subst hy; exact mayB_iff.1 h3 e' he' hp
  · rw [List.length_append] at hk
    simp only [List.length_cons, List.length_nil] at hk
    have ei : nth (out ++ [e.id]) i = nth out i := by rw [nth_eq _ _ (by simp; omega), nth_eq _ _ (by omega), List.getElem_append_left]
    rw [ei]
    by_cases hlast : k = out.length
    · subst hlast
      have ek : nth (out ++ [e.id]) out.length = e.id := by rw [nth_eq _ _ (by simp)]; simp
      rw [ek]
      cases hp : hasI (pastAt (pasts l) l (nth out i)) e.id
      · rfl
      · exact (h2 (mayB_iff.1 (g.may _ (nthM hik)) e he (hasI_iff.1 hp))).elim
    · have ek : nth (out ++ [e.id]) k = nth out k := by rw [nth_eq _ _ (by simp; omega), nth_eq _ _ (by omega), List.getElem_append_left]
      rw [ek]
      exact g.ord i k hik (by omega)
/-- each beginning of what comes may go on, and goes on to the same -/
theorem good_take {l : List Entry} (h : LogOk l) {c : Int} : ∀ (n : Nat) (out : List Id), mOut l c out ≤ n → Good l c out → ∀ j, out.length ≤ j → j ≤ (more l c out).length →
    Good l c ((more l c out).take j) ∧ more l c ((more l c out).take j) = more l c out := by
  intro n
  induction n with
  | zero =>
    intro out hn g j h1 h2
    have hx := next_zero h (c := c) (out := out) (by omega)
    rw [more_none hx] at h2 ⊢
    rw [List.take_of_length_le (by omega)]
    exact ⟨g, more_none hx⟩
  | succ n ih =>
    intro out hn g j h1 h2
    cases hx : nextR l c out with
    | none =>
      rw [more_none hx] at h2 ⊢
      rw [List.take_of_length_le (by omega)]
      exact ⟨g, more_none hx⟩
    | some x =>
      have hcx := ((nextR_some h).1 hx).1
      have hlt := mOut_next h hcx
      by_cases e : j = out.length
      · subst e
        rw [more_take h]
        exact ⟨g, rfl⟩
      · rw [more_some h hx] at h2 ⊢
        exact ih (out ++ [x]) (by omega) (good_step h g hcx) j (by simp; omega) h2
theorem good_nil (l : List Entry) (c : Int) : Good l c [] := ⟨List.nodup_nil, fun x hx => (by cases hx), fun x hx => (by cases hx), fun i k _ hk => (by cases hk)⟩
theorem good_more {l : List Entry} (h : LogOk l) {c : Int} {out : List Id} (g : Good l c out) : Good l c (more l c out) := by
  have := (good_take h _ out (Nat.le_refl _) g (more l c out).length (more_ge h c out) (Nat.le_refl _)).1
  rwa [List.take_length] at this
/-- at the end all of the colors are there -/
theorem end_all {l : List Entry} (h : LogOk l) {c : Int} {m : List Id} (hn : nextR l c m = none) : ∀ k, k < l.length → meetB (nth l k).c c = true → (nth l k).id ∈ m := by
  intro k
  induction k using Nat.strongRecOn with
  | _ k ih =>
    intro hk hm
    apply Classical.byContradiction
    intro hnm
    have hc : candB l c m (nth l k).id = true := (candB_iff h).2 ⟨⟨_, mem_withC.2 ⟨k, hk, rfl, hm⟩, rfl⟩, hnm, mayB_iff.2 fun e he hp => by
      obtain ⟨j, hj, rfl, hmj⟩ := mem_withC.1 he
      rw [pastAt_eq, h.find hk, Int.toNat_natCast] at hp
      obtain ⟨i, hi, e2⟩ := pastOf_lt h k hk _ hp
      obtain rfl := h.inj (by omega) hj e2
      exact ih i hi hj hmj⟩
    rw [(nextR_none h).1 hn] at hc
    cases hc
theorem end_len {l : List Entry} (h : LogOk l) {c : Int} {m : List Id} (g : Good l c m) (hn : nextR l c m = none) : m.length = (withC l c).length := by
  have hnd : ((withC l c).map (·.id)).Nodup := List.Nodup.sublist (List.Sublist.map _ List.filter_sublist) (ids_nodup h)
  have : sortI m = sortI ((withC l c).map (·.id)) := asc_ext (sortI_asc g.once) (sortI_asc hnd) fun x => by
    rw [sortI_mem, sortI_mem, List.mem_map]
    constructor
    · intro hx
      obtain ⟨k, hk, rfl, hm⟩ := g.col x hx
      exact ⟨_, mem_withC.2 ⟨k, hk, rfl, hm⟩, rfl⟩
    · rintro ⟨e, he, rfl⟩
      obtain ⟨k, hk, rfl, hm⟩ := mem_withC.1 he
      exact end_all h hn k hk hm
  have h2 := congrArg List.length this
  rw [sortI_length, sortI_length, List.length_map] at h2
  exact h2
end Go.Proofs.Ytambpjenpiiifaa
/- OrderStays, as a contract. -/
namespace Go.Proofs.Ytambpjenpiiifaa
set_option linter.unusedSimpArgs false
set_option linter.unusedVariables false
open Go.RowKit
set_option maxHeartbeats 1000000 in
theorem orderStays_meets (l : List Entry) (c : Int) (ids : List Id) (hl : l.length ≤ 9223372036854775806) (hb : ids.length ≤ 9223372036854775805) : Meets Try.prog 14 [.list (l.map cE), .int .i64 c, .list (ids.map cId)] [] (.bool true) [] := by
  have hml := moreIds_len l c ids
  refine Meets.of_walk Try.func14 Try.ntmps14 low14 res14 (by simp) fun x hx => ?_
  simp only [go_sem, Nat.reduceLT, Nat.reduceAdd, Nat.reduceEqDiff, Nat.reduceLeDiff, Nat.reduceSub, Nat.reduceMul, Int.reduceEq, eq_self, reduceIte, L14, R14]
  refine ops_call (.pure orderBegun_meets) ?_
  simp only [go_sem, Nat.reduceLT, Nat.reduceAdd, Nat.reduceEqDiff, Nat.reduceLeDiff, Nat.reduceSub, Nat.reduceMul, Int.reduceEq, eq_self, reduceIte]
  refine ops_call (.pure dagBegun_meets) ?_
  simp only [go_sem, Nat.reduceLT, Nat.reduceAdd, Nat.reduceEqDiff, Nat.reduceLeDiff, Nat.reduceSub, Nat.reduceMul, Int.reduceEq, eq_self, reduceIte]
  refine ops_call (.pureE (orderMore_meets l c ids hl (by omega)) (by simp [go_sem, Nat.reduceLT, Nat.reduceAdd, Nat.reduceEqDiff, Nat.reduceLeDiff, Nat.reduceSub, Nat.reduceMul, Int.reduceEq, eq_self, reduceIte])) ?_
  by_cases h0 : begunErr l c ids = 0
  · obtain ⟨g0, g1, g2, -, -⟩ := begun_ok h0
    have hok := log_ok.1 g0
    have hm := hok.len
    have hc' : 0 ≤ c ∧ c ≤ 7 := by rw [wthn_iff] at g2; omega
    have hmi : moreIds l c ids = more l c ids := by rw [moreIds, if_pos h0]
    have hgood := good_more hok (good_of h0)
    have hend := more_end hok (c := c) _ ids (Nat.le_refl _)
    have hge := more_ge hok c ids
    have hpre := more_take hok c ids
    have hlenw := end_len hok hgood hend
    have hall := end_all hok hend
    have b2 := good_begun g0 g2 hgood
    obtain ⟨-, s2, -, o2, -⟩ := begun_ok b2
    have m2 : moreIds l c (more l c ids) = more l c ids := by rw [moreIds, if_pos b2, more_more hok]
    rw [hmi] at hml
    generalize hM : more l c ids = M at *
    have i2 : isErr l M = 0 := by simp [isErr, g0, s2]
    have k2 : isOk l M = true := by simp [isOk, i2, o2]
    have hlt : ¬ M.length < ids.length := by omega
    have hrow : (∀ row ∈ List.map cId M, row.length = 2) = True := eq_true (cId_row _)
    have htk : List.take ids.length (List.map cId M) = List.map cId (List.take ids.length M) := List.map_take.symm
    simp only [go_sem, Nat.reduceLT, Nat.reduceAdd, Nat.reduceEqDiff, Nat.reduceLeDiff, Nat.reduceSub, Nat.reduceMul, Int.reduceEq, eq_self, reduceIte, h0, hmi, hlt, hge, hrow, htk, hpre, Int.le_refl, Int.sub_zero, Int.toNat_zero, Int.natCast_nonneg]
    refine ops_call (.pureE (sameIds_meets ids ids (by omega)) (by simp [go_sem, Nat.reduceLT, Nat.reduceAdd, Nat.reduceEqDiff, Nat.reduceLeDiff, Nat.reduceSub, Nat.reduceMul, Int.reduceEq, eq_self, reduceIte])) ?_
    simp only [go_sem, Nat.reduceLT, Nat.reduceAdd, Nat.reduceEqDiff, Nat.reduceLeDiff, Nat.reduceSub, Nat.reduceMul, Int.reduceEq, eq_self, reduceIte]
    refine ops_call (.pureE (orderIs_meets l M hl (by omega)) (by simp [go_sem, Nat.reduceLT, Nat.reduceAdd, Nat.reduceEqDiff, Nat.reduceLeDiff, Nat.reduceSub, Nat.reduceMul, Int.reduceEq, eq_self, reduceIte])) ?_
    simp only [go_sem, Nat.reduceLT, Nat.reduceAdd, Nat.reduceEqDiff, Nat.reduceLeDiff, Nat.reduceSub, Nat.reduceMul, Int.reduceEq, eq_self, reduceIte, i2, k2]
    refine ops_call (.pureE (orderMore_meets l c M hl (by omega)) (by simp [go_sem, Nat.reduceLT, Nat.reduceAdd, Nat.reduceEqDiff, Nat.reduceLeDiff, Nat.reduceSub, Nat.reduceMul, Int.reduceEq, eq_self, reduceIte])) ?_
    simp only [go_sem, Nat.reduceLT, Nat.reduceAdd, Nat.reduceEqDiff, Nat.reduceLeDiff, Nat.reduceSub, Nat.reduceMul, Int.reduceEq, eq_self, reduceIte, b2, m2]
    refine ops_call (.pureE (sameIds_meets M M (by omega)) (by simp [go_sem, Nat.reduceLT, Nat.reduceAdd, Nat.reduceEqDiff, Nat.reduceLeDiff, Nat.reduceSub, Nat.reduceMul, Int.reduceEq, eq_self, reduceIte])) ?_
    simp only [go_sem, Nat.reduceLT, Nat.reduceAdd, Nat.reduceEqDiff, Nat.reduceLeDiff, Nat.reduceSub, Nat.reduceMul, Int.reduceEq, eq_self, reduceIte]
    refine loop_inv [0, 1, 7, 12, 13] 0 (fun n st => ∃ k : Nat, k + n = l.length ∧
      st = ⟨mkE .top [(0, .list (l.map cE)), (1, .int .i64 c), (7, .list (M.map cId)), (12, .int .i64 (withC (l.take k) c).length), (13, .int .i64 k)], []⟩) l.length (by simp [hx]) (by simp) ?_ ?_
    · refine ⟨0, by omega, ?_⟩
      simp [trim_mk, go_sem, Nat.reduceLT, Nat.reduceAdd, Nat.reduceEqDiff, Nat.reduceLeDiff, Nat.reduceSub, Nat.reduceMul, Int.reduceEq, eq_self, reduceIte, subHeap, renObj, pos, withC]
    · rintro n st ⟨k, hk, rfl⟩
      by_cases hlk : k < l.length
      · have hg : l[k]? = some (nth l k) := nth_get? _ _ hlk
        have wk := i64_up (k := k) (by omega)
        have hw := withC_take (c := c) hlk
        have hle := withC_len (l.take k) c
        rw [List.length_take] at hle
        simp only [go_sem, Nat.reduceLT, Nat.reduceAdd, Nat.reduceEqDiff, Nat.reduceLeDiff, Nat.reduceSub, Nat.reduceMul, Int.reduceEq, eq_self, reduceIte, hlk, hg, cE]
        refine ops_call (.pureE (meets_meets (nth l k).c c (hok.col07 hlk) hc') (by simp [go_sem, Nat.reduceLT, Nat.reduceAdd, Nat.reduceEqDiff, Nat.reduceLeDiff, Nat.reduceSub, Nat.reduceMul, Int.reduceEq, eq_self, reduceIte])) ?_
        cases hmt : meetB (nth l k).c c
        · rw [hmt] at hw
          simp only [go_sem, Nat.reduceLT, Nat.reduceAdd, Nat.reduceEqDiff, Nat.reduceLeDiff, Nat.reduceSub, Nat.reduceMul, Int.reduceEq, eq_self, reduceIte, wk]
          refine ⟨by simp, n - 1, by omega, k + 1, by omega, ?_⟩
          simp [trim_mk, go_sem, Nat.reduceLT, Nat.reduceAdd, Nat.reduceEqDiff, Nat.reduceLeDiff, Nat.reduceSub, Nat.reduceMul, Int.reduceEq, eq_self, reduceIte, subHeap, renObj, pos, hw]
        · rw [hmt] at hw
          have ww := i64_up (k := (withC (l.take k) c).length) (by omega)
          have hin : hasI M (nth l k).id = true := hasI_iff.2 (hall k hlk hmt)
          simp only [go_sem, Nat.reduceLT, Nat.reduceAdd, Nat.reduceEqDiff, Nat.reduceLeDiff, Nat.reduceSub, Nat.reduceMul, Int.reduceEq, eq_self, reduceIte, hlk, hg, cE, ww]
          refine ops_call (.pureE (hasId_meets M (nth l k).id (by omega)) (by simp [go_sem, Nat.reduceLT, Nat.reduceAdd, Nat.reduceEqDiff, Nat.reduceLeDiff, Nat.reduceSub, Nat.reduceMul, Int.reduceEq, eq_self, reduceIte, cId])) ?_
          simp only [go_sem, Nat.reduceLT, Nat.reduceAdd, Nat.reduceEqDiff, Nat.reduceLeDiff, Nat.reduceSub, Nat.reduceMul, Int.reduceEq, eq_self, reduceIte, hin, wk]
          refine ⟨by simp, n - 1, by omega, k + 1, by omega, ?_⟩
          simp [trim_mk, go_sem, Nat.reduceLT, Nat.reduceAdd, Nat.reduceEqDiff, Nat.reduceLeDiff, Nat.reduceSub, Nat.reduceMul, Int.reduceEq, eq_self, reduceIte, subHeap, renObj, pos, hw]
      · have : l.take k = l := List.take_of_length_le (by omega)
        rw [this]
        simp only [go_sem, Nat.reduceLT, Nat.reduceAdd, Nat.reduceEqDiff, Nat.reduceLeDiff, Nat.reduceSub, Nat.reduceMul, Int.reduceEq, eq_self, reduceIte, hlk, hlenw]
        refine ret_pure hx ?_
        simp [go_sem, Nat.reduceLT, Nat.reduceAdd, Nat.reduceEqDiff, Nat.reduceLeDiff, Nat.reduceSub, Nat.reduceMul, Int.reduceEq, eq_self, reduceIte, L14, R14]
  · have hmi : moreIds l c ids = [] := by rw [moreIds, if_neg h0]
    simp only [go_sem, Nat.reduceLT, Nat.reduceAdd, Nat.reduceEqDiff, Nat.reduceLeDiff, Nat.reduceSub, Nat.reduceMul, Int.reduceEq, eq_self, reduceIte, h0, hmi]
    refine ret_pure hx ?_
    simp [go_sem, Nat.reduceLT, Nat.reduceAdd, Nat.reduceEqDiff, Nat.reduceLeDiff, Nat.reduceSub, Nat.reduceMul, Int.reduceEq, eq_self, reduceIte, L14, R14]
end Go.Proofs.Ytambpjenpiiifaa
/- From an argument's reading as data to what the walks ask of memory; and from a walk that ends in 'true' to a law's statement. -/
namespace Go.Proofs.Ytambpjenpiiifaa
open Go.RowKit Go.ChangeShapes Go.WideShapes Go.ChangeAt

section
variable {H : Type} {enc : TypeId × Value → H} {P : Program} {w : World} {sp : Nat → Bool} {held : Bool}

theorem trodAll_stays (hl : laidOutB P = true) {W W' : World} (hb : Below W.heap.size W W') : ∀ {ts : List TypeId} {vs : List Value} {ds : List (DataW H)} {ps : List MemPlace},
    (∀ t ∈ ts, P.readableRec t = true ∧ t < P.types.size) → (∀ x ∈ ps, x.block < W.heap.size) → DataW.TrodAll enc P W 0 (fun _ => true) true ts vs ds ps → DataW.TrodAll enc P W' 0 (fun b => decide (b < W.heap.size)) true ts vs ds ps
  | [], [], [], _, _, _, h => h
  | t :: ts, v :: vs, d :: ds, _, hr, hlt, h => by
    obtain ⟨p, q, h1, h2, rfl⟩ := h
    refine ⟨p, q, Below.trod hl (hr t (by simp)).1 (hr t (by simp)).2 h1 hb (fun x hx => hlt x (by simp [hx])), trodAll_stays hl hb (fun t' ht => hr t' (by simp [ht])) (fun x hx => hlt x (by simp [hx])) h2, rfl⟩
  | [], [], _ :: _, _, _, _, h => h.elim
  | [], _ :: _, _, _, _, _, h => by cases h
  | _ :: _, [], _, _, _, _, h => by cases h
  | _ :: _, _ :: _, [], _, _, _, h => h.elim

/-- A LAW's END: it has answered true, and of what was there nothing has turned. -/
theorem law_post {f : Func} {s : ChangeSpec} {apart : Bool} {W W' : World} {args : Array Value} {ds gs : List (DataW H)} {before : List MemPlace} {tb : TypeId}
    (hl : laidOutB P = true) (hpar : ∀ t ∈ f.params.toList, P.readableRec t = true ∧ t < P.types.size) (hres : f.resultTypes = #[tb]) (hub : P.underlying tb = some .bool) (hvars : s.vars = [])
    (hW : DataW.Whole enc P f.params.toList s.vars apart W args.toList ds gs before)
    (hs : s.fn H (ds ++ gs) = { results := [.lit (.bool true)], args := ds }) (hb : Below W.heap.size W W') : s.post enc P f apart true false false W args (.bool true) W' := by
  have hlt := hW.lt
  have hW' := hW
  obtain ⟨p, q, hA, hV, rfl, hfz, hnd⟩ := hW
  rw [hvars] at hV
  have hq : gs = [] ∧ q = [] := by
    cases gs with
    | nil => exact ⟨rfl, hV⟩
    | cons g gs => exact hV.elim
  obtain ⟨rfl, rfl⟩ := hq
  refine ⟨ds, [], _, [], p, [], hW', ?_, ?_, ?_, hb.frame _, fun h => by cases h⟩
  · rw [hs, hres]
    exact trodAll_mk1 (shut_bool hub true)
  · rw [hs]
    exact trodAll_stays hl hb hpar (fun x hx => hlt x (by simp [hx])) hA
  · rw [hs, hvars]
    rfl

theorem parsOf {ts : List TypeId} (h : (ts.all fun t => P.readableRec t && decide (t < P.types.size)) = true) : ∀ t ∈ ts, P.readableRec t = true ∧ t < P.types.size := by
  intro t ht
  have := List.all_eq_true.1 h t ht
  simpa only [Bool.and_eq_true, decide_eq_true_eq] using this

/-- the fields of a struct's reading -/
theorem trod_fields {t : TypeId} {fs : List (TypeId × Nat)} {fuel : Nat} {cs : List Value} {x : DataW H × List MemPlace} (hs : P.underlying t = some (.struct (P.fieldsOf t))) (hf : (P.fieldsOf t).toList.map (fun f => (f.type, f.offset)) = fs)
    (h : DataW.trod enc P w 0 sp held fuel t cs = some x) : cs.length = P.cellsOf t ∧ ∀ (i : Nat) (t' : TypeId) (o : Nat), fs[i]? = some (t', o) → ∃ n y, DataW.trod enc P w 0 sp held n t' ((cs.drop o).take (P.cellsOf t')) = some y := by
  obtain ⟨xs, n, _, _, hl, hlen, hq⟩ := DataW.trod_struct hs h
  refine ⟨hl, fun i t' o hi => ?_⟩
  rw [← hf, List.getElem?_map] at hi
  obtain ⟨f, h1, h2⟩ := Option.map_eq_some_iff.1 hi
  simp only [Prod.mk.injEq] at h2
  obtain ⟨rfl, rfl⟩ := h2
  have h3 := hq i f (by simpa using h1)
  have hi2 : i < (P.fieldsOf t).toList.length := (List.getElem?_eq_some_iff.1 h1).1
  have hi3 : i < xs.length := by rw [hlen]; simpa using hi2
  exact ⟨n, xs[i], by rw [h3]; simp⟩

/-- a slice's reading, element by element -/
theorem trod_elems {t e : TypeId} {fuel : Nat} {v : Value} {x : DataW H × List MemPlace} (ht : P.underlying t = some (.slice e)) (hsz : 0 < P.cellsOf e) (h : DataW.trod enc P w 0 sp held fuel t [v] = some x) :
    ∃ a n c, v = .slice a n c ∧ n ≤ c ∧ c ≤ maxLen ∧ ∀ k, k < n → ∃ b o cs m y, a = some ⟨b, o, none⟩ ∧ b < w.heap.size ∧ cs.length = P.cellsOf e ∧ (∀ j, j < P.cellsOf e → w.cell? ⟨b, o + k * P.cellsOf e + j, none⟩ = cs[j]?) ∧
      DataW.trod enc P w 0 sp held m e cs = some y := by
  rcases DataW.trod_slice ht h with ⟨hv, -⟩ | ⟨a, len, cap, elems, rest, m, -, hv, -, -, h1, h2, hl, hel, -, -⟩
  · exact ⟨none, 0, 0, by simpa using hv, by omega, by unfold maxLen; omega, fun k hk => by omega⟩
  · obtain rfl : v = .slice (some a) len cap := by simpa using hv
    have key : ∀ k, k < len → ∃ cs y, w.cells? 0 (a.add (k * P.cellsOf e)) (P.cellsOf e) = some cs ∧ DataW.trod enc P w 0 sp held m e cs = some y := by
      intro k hk
      have := hel k hk
      rw [List.getElem?_eq_getElem (by omega)] at this
      obtain ⟨cs, hcs, hy⟩ := Option.bind_eq_some_iff.1 this
      exact ⟨cs, _, hcs, hy⟩
    refine ⟨some a, len, cap, rfl, h1, h2, fun k hk => ?_⟩
    obtain ⟨cs0, y0, hc0, -⟩ := key 0 (by omega)
    have h0 := (World.cells?_some hc0).2.2 0 hsz
    obtain ⟨ab, ao, asp⟩ := a
    have hl0 := (World.cells?_some hc0).2.1
    have has : asp = none := by
      simp only [Nat.zero_mul, Addr.add, if_true] at h0
      rw [List.getElem?_eq_getElem (by omega)] at h0
      cases asp with
      | none => rfl
      | some s =>
        simp only [World.cell?] at h0
        split at h0 <;> simp at h0
    subst has
    obtain ⟨cs, y, hcs, hy⟩ := key k hk
    have h3 := World.cells?_some hcs
    have add_eq : ∀ (o n : Nat), (⟨ab, o, none⟩ : Addr).add n = ⟨ab, o + n, none⟩ := by
      intro o n; unfold Addr.add; split <;> simp_all
    refine ⟨ab, ao, cs, m, y, rfl, ?_, h3.2.1, fun j hj => ?_, hy⟩
    · exact World.cells?_block (a := ⟨ab, ao, none⟩) (by simpa [add_eq] using hc0) hsz
    · have := h3.2.2 j hj
      simpa [add_eq] using this
end

theorem list2 {α : Type} {l : List α} (h : l.length = 2) : ∃ a b, l = [a, b] := by
  match l, h with
  | [a, b], _ => exact ⟨a, b, rfl⟩
theorem list3 {α : Type} {l : List α} (h : l.length = 3) : ∃ a b c, l = [a, b, c] := by
  match l, h with
  | [a, b, c], _ => exact ⟨a, b, c, rfl⟩
theorem list4 {α : Type} {l : List α} (h : l.length = 4) : ∃ a b c d, l = [a, b, c, d] := by
  match l, h with
  | [a, b, c, d], _ => exact ⟨a, b, c, d, rfl⟩
theorem list5 {α : Type} {l : List α} (h : l.length = 5) : ∃ a b c d e, l = [a, b, c, d, e] := by
  match l, h with
  | [a, b, c, d, e], _ => exact ⟨a, b, c, d, e, rfl⟩
theorem arr_eq {α : Type} {cs : Array α} {l : List α} (h : cs.toList = l) : cs = l.toArray := by rw [← h]

/-- within the bounds of Go's int -/
def I64 (n : Int) : Prop := -9223372036854775808 ≤ n ∧ n ≤ 9223372036854775807
theorem i64_of_wf {n : Int} (h : (Lit.int .i64 n).wf = true) : I64 n := by simpa [Lit.wf, IntKind.min, IntKind.max, IntKind.signed, IntKind.bits, I64] using h

section
variable {H : Type} {enc : TypeId × Value → H} {w : World} {sp : Nat → Bool} {held : Bool}
theorem lawOwn : ownKnob Try.prog.godebug = none := by kernel_rfl
theorem lawLaid : laidOutB Try.prog = true := by kernel_rfl
theorem lawBool : Try.prog.underlying 4 = some .bool := by kernel_rfl
theorem undInt' : Try.prog.underlying 3 = some (.int .i64) := by kernel_rfl
theorem cellsInt : Try.prog.cellsOf 3 = 1 := by kernel_rfl
theorem openInt {fuel : Nat} {cs : List Value} {y : DataW H × List MemPlace} (h : DataW.trod enc Try.prog w 0 sp held fuel 3 cs = some y) : ∃ n, cs = [.int .i64 n] ∧ I64 n := by
  obtain ⟨n, rfl, -, hw⟩ := DataW.trod_int undInt' h
  exact ⟨n, rfl, i64_of_wf hw⟩
theorem undVec' : Try.prog.underlying 24 = some (.array 2 3) := by kernel_rfl
theorem cellsVec : Try.prog.cellsOf 24 = 2 := by kernel_rfl
set_option maxRecDepth 100000 in
theorem openVec {b0 : Nat} {v : Value} {d : DataW H} {p : List MemPlace} (hv : Value.okWide Try.prog w .any b0 24 v) (h : DataW.Trod enc Try.prog w 0 sp held 24 v d p) :
    ∃ a b : Int, v = .agg #[.int .i64 a, .int .i64 b] ∧ I64 a ∧ I64 b := by
  simp only [Value.okWide, undVec'] at hv
  obtain ⟨cs, rfl, hsz, -⟩ := hv
  obtain ⟨fuel, hf⟩ := h
  obtain ⟨xs, m, -, -, hl, hxl, hx⟩ := DataW.trod_array undVec' hf
  rw [cellsVec] at hl
  obtain ⟨u, v, e⟩ := list2 hl
  have h0 := hx 0 (by omega)
  have h1 := hx 1 (by omega)
  rw [List.getElem?_eq_getElem (by omega)] at h0 h1
  rw [e] at h0 h1
  obtain ⟨a, ea, wa⟩ := openInt h0
  obtain ⟨b, eb, wb⟩ := openInt h1
  simp only [cellsInt] at ea eb
  simp at ea eb
  subst ea eb
  exact ⟨a, b, congrArg Value.agg (arr_eq (cs := cs) e), wa, wb⟩
theorem undId : Try.prog.underlying 67 = some (.struct (Try.prog.fieldsOf 67)) := by kernel_rfl
theorem cellsId : Try.prog.cellsOf 67 = 2 := by kernel_rfl
theorem fldsId : (Try.prog.fieldsOf 67).toList.map (fun f => (f.type, f.offset)) = [(3, 0), (3, 1)] := by kernel_rfl
theorem openIdCells {fuel : Nat} {cs : List Value} {y : DataW H × List MemPlace} (h : DataW.trod enc Try.prog w 0 sp held fuel 67 cs = some y) : ∃ a b : Int, cs = [.int .i64 a, .int .i64 b] ∧ I64 a ∧ I64 b := by
  obtain ⟨hl, hx⟩ := trod_fields undId fldsId h
  rw [cellsId] at hl
  obtain ⟨u, v, rfl⟩ := list2 hl
  obtain ⟨n0, y0, h0⟩ := hx 0 3 0 rfl
  obtain ⟨n1, y1, h1⟩ := hx 1 3 1 rfl
  obtain ⟨a, ea, wa⟩ := openInt h0
  obtain ⟨b, eb, wb⟩ := openInt h1
  simp only [cellsInt] at ea eb
  simp at ea eb
  subst ea eb
  exact ⟨a, b, rfl, wa, wb⟩
set_option maxRecDepth 100000 in
theorem openId {b0 : Nat} {v : Value} {d : DataW H} {p : List MemPlace} (hv : Value.okWide Try.prog w .any b0 67 v) (h : DataW.Trod enc Try.prog w 0 sp held 67 v d p) :
    ∃ a b : Int, v = .agg #[.int .i64 a, .int .i64 b] ∧ I64 a ∧ I64 b := by
  obtain ⟨cs, rfl, -⟩ := okWide_struct undId hv
  obtain ⟨fuel, hf⟩ := h
  obtain ⟨a, b, e, wa, wb⟩ := openIdCells hf
  exact ⟨a, b, congrArg Value.agg (arr_eq (cs := cs) e), wa, wb⟩
end

end Go.Proofs.Ytambpjenpiiifaa
/- From an argument's reading as data to abstract values; from a contract of a law to its statement. -/
namespace Go.Proofs.Ytambpjenpiiifaa
open Go.RowKit Go.ChangeShapes Go.WideShapes Go.ChangeAt

/-- cells in memory show abstract values -/
def Shows (w : World) (ps : List PV) (cs : List Value) : Prop := cs.length = ps.length ∧ ∀ (j : Nat) p v, ps[j]? = some p → cs[j]? = some v → RepP (fun b _ => b < w.heap.size) w p v

section
variable {H : Type} {enc : TypeId × Value → H} {P : Program} {w : World} {sp : Nat → Bool} {held : Bool}

/-- what a type's reading gives: n cells, R of their abstract values -/
def Opens (enc : TypeId × Value → H) (P : Program) (w : World) (sp : Nat → Bool) (held : Bool) (t : TypeId) (n : Nat) (R : List PV → Prop) : Prop :=
  P.cellsOf t = n ∧ ∀ fuel cs (y : DataW H × List MemPlace), DataW.trod enc P w 0 sp held fuel t cs = some y → (∀ k ∈ y.1.weights P t, k ≤ reachBytes) → ∃ ps, ps.length = n ∧ R ps ∧ Shows w ps cs

theorem Opens.mono {t : TypeId} {n : Nat} {R R' : List PV → Prop} (h : Opens enc P w sp held t n R) (hR : ∀ ps, R ps → R' ps) : Opens enc P w sp held t n R' :=
  ⟨h.1, fun fuel cs y hy hw => by obtain ⟨ps, h1, h2, h3⟩ := h.2 fuel cs y hy hw; exact ⟨ps, h1, hR ps h2, h3⟩⟩

theorem shows1 {p : PV} {v : Value} (h : RepP (fun b _ => b < w.heap.size) w p v) : Shows w [p] [v] := by
  refine ⟨rfl, fun j q u hj hu => ?_⟩
  cases j with
  | zero => simp at hj hu; subst hj; subst hu; exact h
  | succ j => simp at hj

theorem opens_int {t : TypeId} (ht : P.underlying t = some (.int .i64)) (hc : P.cellsOf t = 1) : Opens enc P w sp held t 1 fun ps => ∃ n, I64 n ∧ ps = [.int .i64 n] := by
  refine ⟨hc, fun fuel cs y h _ => ?_⟩
  obtain ⟨n, rfl, -, hw⟩ := DataW.trod_int ht h
  exact ⟨[.int .i64 n], rfl, ⟨n, i64_of_wf hw, rfl⟩, shows1 (.int _ _)⟩
theorem opens_bool {t : TypeId} (ht : P.underlying t = some .bool) (hc : P.cellsOf t = 1) : Opens enc P w sp held t 1 fun ps => ∃ b, ps = [.bool b] := by
  refine ⟨hc, fun fuel cs y h _ => ?_⟩
  obtain ⟨b, rfl, -⟩ := DataW.trod_bool ht h
  exact ⟨[.bool b], rfl, ⟨b, rfl⟩, shows1 (.bool _)⟩
theorem opens_str {t : TypeId} (ht : P.underlying t = some .string) (hc : P.cellsOf t = 1) : Opens enc P w sp held t 1 fun ps => ∃ s : ByteArray, s.size ≤ reachBytes ∧ ps = [.str s] := by
  refine ⟨hc, fun fuel cs y h hw => ?_⟩
  obtain ⟨s, rfl, rfl, -⟩ := DataW.trod_string ht h
  have hs := hw s.data.toList.length (by simp [DataW.weights])
  exact ⟨[.str s], rfl, ⟨s, by simpa using hs, rfl⟩, shows1 (.str _)⟩

/-- a slice's reading, element by element, with their data -/
theorem trod_elems2 {t e : TypeId} {fuel : Nat} {v : Value} {x : DataW H × List MemPlace} (ht : P.underlying t = some (.slice e)) (hsz : 0 < P.cellsOf e) (h : DataW.trod enc P w 0 sp held fuel t [v] = some x) (hw : ∀ k ∈ x.1.weights P t, k ≤ reachBytes) :
    ∃ a n c, v = .slice a n c ∧ n ≤ c ∧ c ≤ maxLen ∧ n * P.bytesOf e ≤ reachBytes ∧ ∀ k, k < n → ∃ b o cs m y, a = some ⟨b, o, none⟩ ∧ b < w.heap.size ∧ cs.length = P.cellsOf e ∧ (∀ j, j < P.cellsOf e → w.cell? ⟨b, o + k * P.cellsOf e + j, none⟩ = cs[j]?) ∧
      DataW.trod enc P w 0 sp held m e cs = some y ∧ ∀ q ∈ y.1.weights P e, q ≤ reachBytes := by
  have memAll : ∀ (ds : List (DataW H)) (d : DataW H), d ∈ ds → ∀ q ∈ d.weights P e, q ∈ DataW.weightsAll P e ds := by
    intro ds
    induction ds with
    | nil => intro d hd; cases hd
    | cons d0 ds ih =>
      intro d hd q hq
      simp only [DataW.weightsAll, List.mem_append]
      rcases List.mem_cons.1 hd with rfl | hd
      · exact .inl hq
      · exact .inr (ih d hd q hq)
  rcases DataW.trod_slice ht h with ⟨hv, -⟩ | ⟨a, len, cap, elems, rest, m, -, hv, hx, -, h1, h2, hl, hel, -, -⟩
  · exact ⟨none, 0, 0, by simpa using hv, by omega, by unfold maxLen; omega, by omega, fun k hk => by omega⟩
  · obtain rfl : v = .slice (some a) len cap := by simpa using hv
    have hwt : len * P.bytesOf e ≤ reachBytes := by
      have := hw ((elems.length + rest.length) * P.bytesOf e) (by rw [hx]; simp [DataW.weights, ht])
      have h3 : len * P.bytesOf e ≤ (elems.length + rest.length) * P.bytesOf e := Nat.mul_le_mul_right _ (by omega)
      omega
    have key : ∀ k, k < len → ∃ cs y, w.cells? 0 (a.add (k * P.cellsOf e)) (P.cellsOf e) = some cs ∧ DataW.trod enc P w 0 sp held m e cs = some y ∧ ∀ q ∈ y.1.weights P e, q ≤ reachBytes := by
      intro k hk
      have := hel k hk
      rw [List.getElem?_eq_getElem (by omega)] at this
      obtain ⟨cs, hcs, hy⟩ := Option.bind_eq_some_iff.1 this
      refine ⟨cs, _, hcs, hy, fun q hq => hw q ?_⟩
      rw [hx]
      simp only [DataW.weights, ht, List.mem_cons, List.mem_append]
      exact .inr (.inl (memAll _ _ (List.mem_map.2 ⟨_, List.getElem_mem _, rfl⟩) q hq))
    refine ⟨some a, len, cap, rfl, h1, h2, hwt, fun k hk => ?_⟩
    obtain ⟨cs0, y0, hc0, -⟩ := key 0 (by omega)
    have h0 := (World.cells?_some hc0).2.2 0 hsz
    obtain ⟨ab, ao, asp⟩ := a
    have hl0 := (World.cells?_some hc0).2.1
    have has : asp = none := by
      simp only [Nat.zero_mul, Addr.add, if_true] at h0
      rw [List.getElem?_eq_getElem (by omega)] at h0
      cases asp with
      | none => rfl
      | some s =>
        simp only [World.cell?] at h0
        split at h0 <;> simp at h0
    subst has
    obtain ⟨cs, y, hcs, hy, hq⟩ := key k hk
    have h3 := World.cells?_some hcs
    have add_eq : ∀ (o n : Nat), (⟨ab, o, none⟩ : Addr).add n = ⟨ab, o + n, none⟩ := by
      intro o n; unfold Addr.add; split <;> simp_all
    refine ⟨ab, ao, cs, m, y, rfl, ?_, h3.2.1, fun j hj => ?_, hy, hq⟩
    · exact World.cells?_block (a := ⟨ab, ao, none⟩) (by simpa [add_eq] using hc0) hsz
    · have := h3.2.2 j hj
      simpa [add_eq] using this

theorem list_choose {α : Type} {n : Nat} {Q : Nat → α → Prop} (h : ∀ k, k < n → ∃ x, Q k x) : ∃ l : List α, l.length = n ∧ ∀ (k : Nat) x, l[k]? = some x → Q k x := by
  induction n with
  | zero => exact ⟨[], rfl, fun k x hk => by simp at hk⟩
  | succ n ih =>
    obtain ⟨l, h1, h2⟩ := ih fun k hk => h k (by omega)
    obtain ⟨x, hx⟩ := h n (by omega)
    refine ⟨l ++ [x], by simp [h1], fun k y hk => ?_⟩
    by_cases hlt : k < l.length
    · rw [List.getElem?_append_left hlt] at hk; exact h2 k y hk
    · rw [List.getElem?_append_right (by omega)] at hk
      have : k - l.length = 0 := by
        have := (List.getElem?_eq_some_iff.1 hk).1
        simp at this; omega
      rw [this] at hk
      simp at hk
      subst hk
      rw [show k = n by omega]; exact hx

theorem opens_slice {t e : TypeId} {n : Nat} {R : List PV → Prop} (ht : P.underlying t = some (.slice e)) (hc : P.cellsOf t = 1) (hn : 0 < n) (he : Opens enc P w sp held e n R) :
    Opens enc P w sp held t 1 fun ps => ∃ rows, rows.length * P.bytesOf e ≤ reachBytes ∧ (∀ row ∈ rows, row.length = n ∧ R row) ∧ ps = [.list rows] := by
  refine ⟨hc, fun fuel cs y h hw => ?_⟩
  have hcs : ∃ v, cs = [v] := by
    rcases DataW.trod_slice ht h with ⟨hv, -⟩ | ⟨a, len, cap, elems, rest, m, -, hv, -⟩ <;> exact ⟨_, hv⟩
  obtain ⟨v, rfl⟩ := hcs
  obtain ⟨hce, he⟩ := he
  obtain ⟨a, len, c, rfl, h1, h2, hby, h3⟩ := trod_elems2 ht (by omega) h hw
  rw [hce] at h3
  obtain ⟨rows, r1, r2⟩ := list_choose (Q := fun k (row : List PV) => row.length = n ∧ R row ∧ ∃ b o cs, a = some ⟨b, o, none⟩ ∧ b < w.heap.size ∧ cs.length = n ∧ (∀ j, j < n → w.cell? ⟨b, o + k * n + j, none⟩ = cs[j]?) ∧ Shows w row cs) fun k hk => by
    obtain ⟨b, o, cs, m, y, q1, q2, q3, q4, q5, q6⟩ := h3 k hk
    obtain ⟨ps, p1, p2, p3⟩ := he m cs y q5 q6
    exact ⟨ps, p1, p2, b, o, cs, q1, q2, q3, q4, p3⟩
  refine ⟨[.list rows], rfl, ⟨rows, by rw [r1]; exact hby, fun row hr => ?_, rfl⟩, shows1 ?_⟩
  · obtain ⟨k, hk⟩ := List.getElem?_of_mem hr
    exact ⟨(r2 k row hk).1, (r2 k row hk).2.1⟩
  · have key : ∀ k row j p, rows[k]? = some row → row[j]? = some p → ∃ b o, a = some ⟨b, o, none⟩ ∧ b < w.heap.size ∧ ∃ u, w.cell? ⟨b, o + k * n + j, none⟩ = some u ∧ RepP (fun b _ => b < w.heap.size) w p u := by
      intro k row j p hk hj
      obtain ⟨hl, -, b, o, cs, q1, q2, q3, q4, q5⟩ := r2 k row hk
      have hlt : j < n := by rw [← hl]; exact (List.getElem?_eq_some_iff.1 hj).1
      refine ⟨b, o, q1, q2, cs[j]'(by omega), ?_, ?_⟩
      · rw [q4 j hlt, List.getElem?_eq_getElem (by omega)]
      · exact q5.2 j p _ hj (List.getElem?_eq_getElem (by omega))
    have := RepP.list (S := fun b _ => b < w.heap.size) (w := w) rows a c n (fun k j => match a with | some ad => (w.cell? ⟨ad.block, ad.off + k * n + j, none⟩).getD Go.undef | none => Go.undef) (by omega) h2 hn (fun row hr => by
        obtain ⟨k, hk⟩ := List.getElem?_of_mem hr
        exact (r2 k row hk).1) (fun k row j p hk hj => by
        obtain ⟨b, o, q1, q2, u, q3, q4⟩ := key k row j p hk hj
        subst q1
        exact ⟨b, o, rfl, q2, by simp [q3]⟩) (fun k row j p hk hj => by
        obtain ⟨b, o, q1, q2, u, q3, q4⟩ := key k row j p hk hj
        subst q1
        simp only [q3, Option.getD_some]
        exact q4)
    rw [r1] at this
    exact this

/-- fields, one behind the other -/
def offs : Nat → List (TypeId × Nat) → List (TypeId × Nat)
  | _, [] => []
  | o, (t, n) :: r => (t, o) :: offs (o + n) r
def RAll : List (Nat × (List PV → Prop)) → List PV → Prop
  | [], ps => ps = []
  | (n, R) :: r, ps => ∃ a b, ps = a ++ b ∧ a.length = n ∧ R a ∧ RAll r b
def OpensAll (enc : TypeId × Value → H) (P : Program) (w : World) (sp : Nat → Bool) (held : Bool) : List (TypeId × Nat × (List PV → Prop)) → Prop
  | [] => True
  | (t, n, R) :: r => Opens enc P w sp held t n R ∧ OpensAll enc P w sp held r

theorem shows_append {a b : List PV} {cs ds : List Value} (h1 : Shows w a cs) (h2 : Shows w b ds) : Shows w (a ++ b) (cs ++ ds) := by
  refine ⟨by simp [h1.1, h2.1], fun j p v hj hv => ?_⟩
  by_cases hlt : j < a.length
  · rw [List.getElem?_append_left hlt] at hj
    rw [List.getElem?_append_left (by rw [h1.1]; exact hlt)] at hv
    exact h1.2 j p v hj hv
  · rw [List.getElem?_append_right (by omega)] at hj
    rw [List.getElem?_append_right (by rw [h1.1]; omega), h1.1] at hv
    exact h2.2 _ p v hj hv

theorem opens_fields : ∀ (fl : List (TypeId × Nat × (List PV → Prop))) (o : Nat) (cs : List Value), OpensAll enc P w sp held fl → cs.length = o + (fl.map (·.2.1)).sum →
    (∀ (i : Nat) (t' : TypeId) (o' : Nat), (offs o (fl.map fun f => (f.1, f.2.1)))[i]? = some (t', o') → ∃ n y, DataW.trod enc P w 0 sp held n t' ((cs.drop o').take (P.cellsOf t')) = some y ∧ ∀ k ∈ y.1.weights P t', k ≤ reachBytes) →
    ∃ ps, ps.length = (fl.map (·.2.1)).sum ∧ RAll (fl.map (·.2)) ps ∧ Shows w ps (cs.drop o)
  | [], o, cs, _, hl, _ => ⟨[], rfl, rfl, by
      rw [List.drop_eq_nil_of_le (by simp at hl; omega)]
      exact ⟨rfl, fun j p v hj => by simp at hj⟩⟩
  | (t, n, R) :: fl, o, cs, ho, hl, hx => by
    obtain ⟨⟨hc, h1⟩, h2⟩ := ho
    obtain ⟨m, y, hy, hwy⟩ := hx 0 t o rfl
    obtain ⟨ps, p1, p2, p3⟩ := h1 m _ y hy hwy
    simp only [List.map_cons, List.sum_cons] at hl
    obtain ⟨qs, q1, q2, q3⟩ := opens_fields fl (o + n) cs h2 (by omega) fun i t' o' hi => hx (i + 1) t' o' hi
    refine ⟨ps ++ qs, by simp [p1, q1], ⟨ps, qs, rfl, p1, p2, q2⟩, ?_⟩
    rw [hc] at p3
    have : cs.drop o = (cs.drop o).take n ++ cs.drop (o + n) := by rw [← List.drop_drop, List.take_append_drop]
    rw [this]
    exact shows_append p3 q3

theorem opens_struct {t : TypeId} {n : Nat} (fl : List (TypeId × Nat × (List PV → Prop))) (hs : P.underlying t = some (.struct (P.fieldsOf t))) (hf : (P.fieldsOf t).toList.map (fun f => (f.type, f.offset)) = offs 0 (fl.map fun f => (f.1, f.2.1)))
    (hc : P.cellsOf t = n) (hn : (fl.map (·.2.1)).sum = n) (ho : OpensAll enc P w sp held fl) : Opens enc P w sp held t n (RAll (fl.map (·.2))) := by
  refine ⟨hc, fun fuel cs y h hw => ?_⟩
  obtain ⟨xs, m, _, hy, hl, hlen, hq⟩ := DataW.trod_struct hs h
  have hx : ∀ (i : Nat) (t' : TypeId) (o' : Nat), (offs 0 (fl.map fun f => (f.1, f.2.1)))[i]? = some (t', o') → ∃ n y, DataW.trod enc P w 0 sp held n t' ((cs.drop o').take (P.cellsOf t')) = some y ∧ ∀ k ∈ y.1.weights P t', k ≤ reachBytes := by
    intro i t' o' hi
    rw [← hf, List.getElem?_map] at hi
    obtain ⟨f, h1, h2⟩ := Option.map_eq_some_iff.1 hi
    simp only [Prod.mk.injEq] at h2
    obtain ⟨rfl, rfl⟩ := h2
    have h3 := hq i f (by simpa using h1)
    have hi2 : i < (P.fieldsOf t).toList.length := (List.getElem?_eq_some_iff.1 h1).1
    have hi3 : i < xs.length := by rw [hlen]; simpa using hi2
    refine ⟨m, xs[i], by rw [h3]; simp, fun k hk => hw k ?_⟩
    rw [hy]
    simp only [DataW.weights, hs]
    refine DataW.weights_mem_each (j := i) (t := f.type) (d := xs[i].1) ?_ ?_ k hk
    · rw [List.getElem?_map, h1]; rfl
    · rw [List.getElem?_map, List.getElem?_eq_getElem hi3]; rfl
  obtain ⟨ps, h1, h2, h3⟩ := opens_fields fl 0 cs ho (by omega) hx
  exact ⟨ps, by omega, h2, h3⟩

/-- an argument of one cell -/
theorem open_cell {t : TypeId} {R : List PV → Prop} (ho : Opens enc P w sp held t 1 R) {v : Value} (h1 : ∀ cs, v ≠ .agg cs) {d : DataW H} {p : List MemPlace} (h : DataW.Trod enc P w 0 sp held t v d p) (hw : ∀ k ∈ d.weights P t, k ≤ reachBytes) : ∃ q, R [q] ∧ RepP (fun b _ => b < w.heap.size) w q v := by
  obtain ⟨fuel, hf⟩ := h
  obtain ⟨ps, p1, p2, p3⟩ := ho.2 fuel _ _ hf hw
  have hv : v.cells.toList = [v] := by cases v <;> first | rfl | exact (h1 _ rfl).elim
  match ps, p1 with
  | [q], _ => exact ⟨q, p2, p3.2 0 q v rfl (by rw [hv]; rfl)⟩

/-- an argument of several cells -/
theorem open_agg {t : TypeId} {n : Nat} {R : List PV → Prop} (ho : Opens enc P w sp held t n R) {v : Value} (h1 : ∃ cs, v = .agg cs) {d : DataW H} {p : List MemPlace} (h : DataW.Trod enc P w 0 sp held t v d p) (hw : ∀ k ∈ d.weights P t, k ≤ reachBytes) (S : Nat → Nat → Prop) (hS : ∀ b o, b < w.heap.size → S b o) (C : Conc) : ∃ ps, R ps ∧ RepV S w C (.agg ps) v := by
  obtain ⟨fuel, hf⟩ := h
  obtain ⟨cs, rfl⟩ := h1
  obtain ⟨ps, p1, p2, p3⟩ := ho.2 fuel _ _ hf hw
  have hk : ∀ (j : Nat) q x, ps[j]? = some q → cs.toList[j]? = some x → RepP (fun b _ => b < w.heap.size) w q x := fun j q x hj hx => p3.2 j q x hj hx
  refine ⟨ps, p2, ?_⟩
  have := RepV.agg (S := S) (w := w) (C := C) ps cs.toList p3.1 (fun j x hx => ?_) fun j q x hj hx => .pure ((hk j q x hj hx).mono (fun b o h => hS b o h) fun _ _ _ => rfl)
  · simpa using this
  · have hlt : j < ps.length := by rw [← p3.1]; exact (List.getElem?_eq_some_iff.1 hx).1
    exact (hk j _ x (List.getElem?_eq_getElem hlt) hx).one
end

/-- the world in which a law is called -/
def lawCx (w : World) : Cx := ⟨w, fun b _ => b < w.heap.size, ⟨0, fun _ => 0, fun _ => Go.undef, fun _ => 0⟩, []⟩
theorem lawHR (w : World) : HR (lawCx w) (lawCx w).C0 [] w :=
  ⟨rfl, fun id ob h => by simp at h, fun id id' ob ob' b h => by simp at h, fun id ob b h => by simp at h, fun b o h => ⟨h, fun id ob h => by simp at h, rfl⟩, Nat.le_refl _, rfl, rfl, rfl, fun b _ _ => rfl, Nat.le_refl _, fun i hi => rfl, fun i hi => .inl ⟨rfl, rfl⟩⟩
theorem lawStab {w : World} {b o : Nat} (h : b < w.heap.size) : Stab (lawCx w) (lawCx w).C0 [] w b o := ⟨.inl h, h, fun id ob h => by simp at h⟩

/-- an argument, seen from the law's call -/
def Arg (w : World) (p : PV) (v : Value) : Prop := RepV (Stab (lawCx w) (lawCx w).C0 [] w) w (lawCx w).C0 p v
theorem Arg.of {w : World} {p : PV} {v : Value} (h : RepP (fun b _ => b < w.heap.size) w p v) : Arg w p v := .pure (h.mono (fun _ _ h => lawStab h) fun _ _ _ => rfl)

inductive ArgsAre (w : World) : List PV → List Value → Prop
  | nil : ArgsAre w [] []
  | cons {p : PV} {v : Value} {ps : List PV} {vs : List Value} (h : Arg w p v) (t : ArgsAre w ps vs) : ArgsAre w (p :: ps) (v :: vs)
theorem ArgsAre.reps {w : World} {ps : List PV} {vs : List Value} (h : ArgsAre w ps vs) : Reps (Stab (lawCx w) (lawCx w).C0 [] w) w (lawCx w).C0 ps vs := by
  induction h with
  | nil => exact ⟨rfl, fun j p v hj => by simp at hj⟩
  | cons h t ih =>
    refine ⟨by simp [ih.1], fun j p v hj hv => ?_⟩
    cases j with
    | zero => simp at hj hv; subst hj; subst hv; exact h
    | succ j => exact ih.2 j p v (by simpa using hj) (by simpa using hv)

theorem law_calls {P : Program} {f : Nat} {args : List PV} {vs : Array Value} {w : World} (h : Meets P f args [] (.bool true) []) (hp : ArgsAre w args vs.toList) : Calls P f vs w fun e w' => e = .returned (.bool true) ∧ Below w.heap.size w w' := by
  refine (h (lawCx w) vs rfl (lawHR w) hp.reps).mono fun e w' ⟨v, C', h1, h2, h3⟩ => ?_
  have hv := h3.bool_inv
  subst hv
  exact ⟨h1, ⟨h2.os, h2.tape, h2.output, h2.size, fun b hb => h2.frame b hb fun i ob0 hi => by simp [lawCx] at hi⟩⟩

end Go.Proofs.Ytambpjenpiiifaa
/- Arguments of laws, opened: ids, entries, lists of them. -/
namespace Go.Proofs.Ytambpjenpiiifaa
open Go.RowKit Go.ChangeShapes Go.WideShapes Go.ChangeAt
section
variable {H : Type} {enc : TypeId × Value → H} {w : World} {sp : Nat → Bool} {held : Bool}

theorem rows_map {α : Type} {f : α → List PV} {Q : α → Prop} {n : Nat} : ∀ {rows : List (List PV)}, (∀ row ∈ rows, row.length = n ∧ ∃ x, Q x ∧ row = f x) → ∃ l : List α, (∀ x ∈ l, Q x) ∧ rows = l.map f
  | [], _ => ⟨[], by simp, rfl⟩
  | row :: rows, h => by
    obtain ⟨-, x, h1, rfl⟩ := h row (by simp)
    obtain ⟨l, h2, rfl⟩ := rows_map (rows := rows) fun row hr => h row (by simp [hr])
    exact ⟨x :: l, by simpa using ⟨h1, h2⟩, rfl⟩

theorem opInt : Opens enc Try.prog w sp held 3 1 fun ps => ∃ n, I64 n ∧ ps = [.int .i64 n] := opens_int undInt' cellsInt
theorem opStr : Opens enc Try.prog w sp held 9 1 fun ps => ∃ s : ByteArray, s.size ≤ reachBytes ∧ ps = [.str s] := opens_str (by kernel_rfl) (by kernel_rfl)
theorem opBool : Opens enc Try.prog w sp held 4 1 fun ps => ∃ b, ps = [.bool b] := opens_bool lawBool (by kernel_rfl)

def wfId (x : Id) : Prop := I64 x.r ∧ I64 x.n
theorem opId : Opens enc Try.prog w sp held 67 2 fun ps => ∃ x : Id, wfId x ∧ ps = cId x :=
  (opens_struct [(3, 1, _), (3, 1, _)] undId (by kernel_rfl) cellsId rfl ⟨opInt, opInt, trivial⟩).mono (by
    rintro ps ⟨a, b, rfl, -, ⟨n, hn, rfl⟩, c, d, rfl, -, ⟨m, hm, rfl⟩, rfl⟩
    exact ⟨⟨n, m⟩, ⟨hn, hm⟩, rfl⟩)
theorem opIds : Opens enc Try.prog w sp held 68 1 fun ps => ∃ l : List Id, l.length * 16 ≤ reachBytes ∧ (∀ x ∈ l, wfId x) ∧ ps = [.list (l.map cId)] :=
  (opens_slice (by kernel_rfl) (by kernel_rfl) (by omega) opId).mono (by
    rintro ps ⟨rows, hm, hr, rfl⟩
    obtain ⟨l, h1, rfl⟩ := rows_map hr
    rw [show Try.prog.bytesOf 67 = 16 by kernel_rfl] at hm
    exact ⟨l, by simpa using hm, h1, rfl⟩)
def wfE (e : Entry) : Prop := wfId e.id ∧ I64 e.c ∧ e.t.size ≤ reachBytes ∧ e.ls.length * 16 ≤ reachBytes ∧ ∀ x ∈ e.ls, wfId x
theorem undEntry : Try.prog.underlying 83 = some (.struct (Try.prog.fieldsOf 83)) := by kernel_rfl
theorem opEntry : Opens enc Try.prog w sp held 83 5 fun ps => ∃ e : Entry, wfE e ∧ ps = cE e :=
  (opens_struct [(67, 2, _), (3, 1, _), (9, 1, _), (68, 1, _)] undEntry (by kernel_rfl) (by kernel_rfl) rfl ⟨opId, opInt, opStr, opIds, trivial⟩).mono (by
    rintro ps ⟨a, b, rfl, -, ⟨x, hx, rfl⟩, c, d, rfl, -, ⟨n, hn, rfl⟩, f, g, rfl, -, ⟨s, hs, rfl⟩, k, q, rfl, -, ⟨l, hl, hq, rfl⟩, rfl⟩
    exact ⟨⟨x, n, s, l⟩, ⟨hx, hn, hs, hl, hq⟩, rfl⟩)

set_option maxRecDepth 100000 in
theorem argInt {b0 : Nat} {v : Value} {d : DataW H} {p : List MemPlace} (hv : Value.okWide Try.prog w .any b0 3 v) (h : DataW.Trod enc Try.prog w 0 sp held 3 v d p) (hw : ∀ k ∈ d.weights Try.prog 3, k ≤ reachBytes) : ∃ n, I64 n ∧ Arg w (.int .i64 n) v := by
  obtain ⟨m, rfl⟩ := okWide_int undInt' hv
  obtain ⟨q, ⟨n, hn, hq⟩, h2⟩ := open_cell opInt (by simp) h hw
  simp at hq; subst hq
  exact ⟨n, hn, .of h2⟩
set_option maxRecDepth 100000 in
theorem argBool {b0 : Nat} {v : Value} {d : DataW H} {p : List MemPlace} (hv : Value.okWide Try.prog w .any b0 4 v) (h : DataW.Trod enc Try.prog w 0 sp held 4 v d p) (hw : ∀ k ∈ d.weights Try.prog 4, k ≤ reachBytes) : ∃ n, Arg w (.bool n) v := by
  obtain ⟨m, rfl⟩ := okWide_bool lawBool hv
  obtain ⟨q, ⟨n, hq⟩, h2⟩ := open_cell opBool (by simp) h hw
  simp at hq; subst hq
  exact ⟨n, .of h2⟩
set_option maxRecDepth 100000 in
theorem argStr {b0 : Nat} {v : Value} {d : DataW H} {p : List MemPlace} (hv : Value.okWide Try.prog w .any b0 9 v) (h : DataW.Trod enc Try.prog w 0 sp held 9 v d p) (hw : ∀ k ∈ d.weights Try.prog 9, k ≤ reachBytes) : ∃ s : ByteArray, s.size ≤ reachBytes ∧ Arg w (.str s) v := by
  obtain ⟨m, rfl⟩ := okWide_string (by kernel_rfl) hv
  obtain ⟨q, ⟨n, hn, hq⟩, h2⟩ := open_cell opStr (by simp) h hw
  simp at hq; subst hq
  exact ⟨n, hn, .of h2⟩
set_option maxRecDepth 100000 in
theorem argId {b0 : Nat} {v : Value} {d : DataW H} {p : List MemPlace} (hv : Value.okWide Try.prog w .any b0 67 v) (h : DataW.Trod enc Try.prog w 0 sp held 67 v d p) (hw : ∀ k ∈ d.weights Try.prog 67, k ≤ reachBytes) : ∃ x : Id, wfId x ∧ Arg w (.agg (cId x)) v := by
  obtain ⟨cs, rfl, -⟩ := okWide_struct undId hv
  obtain ⟨ps, ⟨x, hx, rfl⟩, h2⟩ := open_agg opId ⟨_, rfl⟩ h hw (Stab (lawCx w) (lawCx w).C0 [] w) (fun _ _ h => lawStab h) _
  exact ⟨x, hx, h2⟩
set_option maxRecDepth 100000 in
theorem argEntry {b0 : Nat} {v : Value} {d : DataW H} {p : List MemPlace} (hv : Value.okWide Try.prog w .any b0 83 v) (h : DataW.Trod enc Try.prog w 0 sp held 83 v d p) (hw : ∀ k ∈ d.weights Try.prog 83, k ≤ reachBytes) : ∃ e : Entry, wfE e ∧ Arg w (.agg (cE e)) v := by
  obtain ⟨cs, rfl, -⟩ := okWide_struct undEntry hv
  obtain ⟨ps, ⟨x, hx, rfl⟩, h2⟩ := open_agg opEntry ⟨_, rfl⟩ h hw (Stab (lawCx w) (lawCx w).C0 [] w) (fun _ _ h => lawStab h) _
  exact ⟨x, hx, h2⟩
end
end Go.Proofs.Ytambpjenpiiifaa
/- Arguments of laws, opened: lists of entries, of ids. -/
namespace Go.Proofs.Ytambpjenpiiifaa
open Go.RowKit Go.ChangeShapes Go.WideShapes Go.ChangeAt
section
variable {H : Type} {enc : TypeId × Value → H} {w : World} {sp : Nat → Bool} {held : Bool}
theorem opEntries : Opens enc Try.prog w sp held 22 1 fun ps => ∃ l : List Entry, l.length ≤ reachBytes ∧ (∀ e ∈ l, wfE e) ∧ ps = [.list (l.map cE)] :=
  (opens_slice (by kernel_rfl) (by kernel_rfl) (by omega) opEntry).mono (by
    rintro ps ⟨rows, hm, hr, rfl⟩
    obtain ⟨l, h1, rfl⟩ := rows_map hr
    have hb : 1 ≤ Try.prog.bytesOf 83 := by decide +kernel
    refine ⟨l, ?_, h1, rfl⟩
    have h2 : (l.map cE).length * 1 ≤ (l.map cE).length * Try.prog.bytesOf 83 := Nat.mul_le_mul_left _ hb
    rw [List.length_map] at h2 hm
    omega)
set_option maxRecDepth 100000 in
theorem argEntries {b0 : Nat} {v : Value} {d : DataW H} {p : List MemPlace} (hv : Value.okWide Try.prog w .any b0 22 v) (h : DataW.Trod enc Try.prog w 0 sp held 22 v d p) (hw : ∀ k ∈ d.weights Try.prog 22, k ≤ reachBytes) :
    ∃ l : List Entry, l.length ≤ reachBytes ∧ (∀ e ∈ l, wfE e) ∧ Arg w (.list (l.map cE)) v := by
  obtain ⟨a, n, c, rfl⟩ := okWide_slice (e := 83) (by kernel_rfl) hv
  obtain ⟨q, ⟨l, h1, h2, hq⟩, h3⟩ := open_cell opEntries (by simp) h hw
  simp at hq; subst hq
  exact ⟨l, h1, h2, .of h3⟩
set_option maxRecDepth 100000 in
theorem argIds {b0 : Nat} {v : Value} {d : DataW H} {p : List MemPlace} (hv : Value.okWide Try.prog w .any b0 68 v) (h : DataW.Trod enc Try.prog w 0 sp held 68 v d p) (hw : ∀ k ∈ d.weights Try.prog 68, k ≤ reachBytes) :
    ∃ l : List Id, l.length * 16 ≤ reachBytes ∧ (∀ e ∈ l, wfId e) ∧ Arg w (.list (l.map cId)) v := by
  obtain ⟨a, n, c, rfl⟩ := okWide_slice (e := 67) (by kernel_rfl) hv
  obtain ⟨q, ⟨l, h1, h2, hq⟩, h3⟩ := open_cell opIds (by simp) h hw
  simp at hq; subst hq
  exact ⟨l, h1, h2, .of h3⟩
end
end Go.Proofs.Ytambpjenpiiifaa
