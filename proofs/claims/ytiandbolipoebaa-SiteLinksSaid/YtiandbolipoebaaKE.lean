/- Joined texts of this claim: D15 T1 T2 T3 T4 T5 T6 T7 E7 L7 L22 L8 L10 T8 L9. -/
import Derived.Test.YtiandbolipoebaaKD
import Derived.Test.YtiandbolipoebaaKC
import Derived.Test.YtiandbolipoebaaKB
set_option linter.unusedSimpArgs false
set_option linter.unusedVariables false
set_option linter.unusedSectionVars false
/- All that comes, in the law text's words: a contract. -/
namespace Go.Proofs.Ytiandbolipoebaa
set_option linter.unusedSimpArgs false
set_option linter.unusedVariables false
open Go.RowKit
theorem mem_idsUp {y : Id} {r k : Nat} (h : y ∈ allIds) (hl : lessB y ⟨r, ((k + 1 : Nat) : Int)⟩ = true) : y ∈ idsUp r k := by
  have ho := mem_allIds.1 h
  obtain ⟨a, b⟩ := y
  simp only [okId, Bool.and_eq_true, wthn_iff] at ho
  simp only [lessB, decide_eq_true_eq] at hl
  unfold idsUp
  rw [List.mem_append, List.mem_flatMap]
  by_cases e : a = (r : Int)
  · refine .inr ?_
    unfold idRow
    rw [List.mem_map]
    exact ⟨(b - 1).toNat, List.mem_range.2 (by omega), by rw [Id.mk.injEq]; omega⟩
  · refine .inl ⟨a.toNat, List.mem_range.2 (by omega), ?_⟩
    unfold idRow
    rw [List.mem_map]
    exact ⟨(b - 1).toNat, List.mem_range.2 (by omega), by rw [Id.mk.injEq]; omega⟩
/-- what was found of the first that may come: nothing yet (f = false), or it -/
def Seen (l : List Entry) (c : Int) (out : List Id) (f : Bool) (pre out' : List Id) : Prop :=
  (f = false → out' = out ∧ ∀ y ∈ pre, candB l c out y = false) ∧ (f = true → ∃ x, nextR l c out = some x ∧ out' = out ++ [x])
end Go.Proofs.Ytiandbolipoebaa
/- Sites: copies of one's own, those that wait and are ready: contracts. -/
namespace Go.Proofs.Ytiandbolipoebaa
set_option linter.unusedSimpArgs false
set_option linter.unusedVariables false
open Go.RowKit
/-- a site's cells -/
def cSi (r : Int) (lg ws : List Entry) : List PV := [.int .i64 r, .list (lg.map cE), .list (ws.map cE)]
/-- entries of few links, of regions 0 and 1 -/
def fitE (l : List Entry) : Prop := ∀ e ∈ l, (e.id.r = 0 ∨ e.id.r = 1) ∧ e.ls.length ≤ 1000000
theorem fit_reg {l : List Entry} (h : fitE l) : okReg l := fun e he => (h e he).1
theorem insIdx_mapE {α β : Type} (f : α → β) (w : α) : ∀ (ws : List α) (i : Nat), (ws.map f).insertIdx i (f w) = (ws.insertIdx i w).map f
  | [], 0 => rfl
  | [], _ + 1 => rfl
  | _ :: _, 0 => rfl
  | y :: ws, i + 1 => by
    simp only [List.map_cons, List.insertIdx_succ_cons]
    rw [insIdx_mapE f w ws i]
theorem eraseIdx_mapE {α β : Type} (f : α → β) : ∀ (ws : List α) (i : Nat), (ws.map f).eraseIdx i = (ws.eraseIdx i).map f
  | [], _ => rfl
  | _ :: _, 0 => rfl
  | y :: ws, i + 1 => by
    simp only [List.map_cons, List.eraseIdx_cons_succ]
    rw [eraseIdx_mapE f ws i]
theorem entOwn_meets (e : Entry) (hb : e.ls.length ≤ 1000000) : Meets Try.prog 53 [.agg (cE e)] [] (.agg (cE e)) [] := by
  refine Meets.of_walk Try.func53 Try.ntmps53 low53 res53 (by simp) fun x hx => ?_
  simp only [go_sem, Nat.reduceLT, Nat.reduceAdd, Nat.reduceEqDiff, Nat.reduceLeDiff, Nat.reduceSub, Nat.reduceMul, Int.reduceEq, eq_self, reduceIte, L53, R53, cE]
  refine ops_call (.pureE (cloneI_meets e.ls (by omega)) (by simp [go_sem, Nat.reduceLT, Nat.reduceAdd, Nat.reduceEqDiff, Nat.reduceLeDiff, Nat.reduceSub, Nat.reduceMul, Int.reduceEq, eq_self, reduceIte])) ?_
  simp only [go_sem, Nat.reduceLT, Nat.reduceAdd, Nat.reduceEqDiff, Nat.reduceLeDiff, Nat.reduceSub, Nat.reduceMul, Int.reduceEq, eq_self, reduceIte, cE]
  refine ret_pure hx ?_
  simp [go_sem, Nat.reduceLT, Nat.reduceAdd, Nat.reduceEqDiff, Nat.reduceLeDiff, Nat.reduceSub, Nat.reduceMul, Int.reduceEq, eq_self, reduceIte, L53, R53, cE]
theorem siEntries_meets (l : List Entry) (hl : l.length ≤ 1000000) (hf : fitE l) : Meets Try.prog 72 [.list (l.map cE)] [] (.arr 0 l.length) [.arr l.length true false 29 5 (l.map cE)] := by
  refine Meets.of_walk Try.func72 Try.ntmps72 low72 res72 (by simp) fun x hx => ?_
  simp only [go_sem, Nat.reduceLT, Nat.reduceAdd, Nat.reduceEqDiff, Nat.reduceLeDiff, Nat.reduceSub, Nat.reduceMul, Int.reduceEq, eq_self, reduceIte, L72, R72]
  refine W_weak (weak_own 3 0 29 5 true false rfl (by omega)) ?_
  rw [put_mk]
  refine loop_inv [3, 6, 7, 8] 1 (fun m st => ∃ k : Nat, k + m = l.length ∧
    st = ⟨mkE .top [(3, .arr 0 k), (6, .list (l.map cE)), (7, .int .i64 l.length), (8, .int .i64 k)], [.arr k true false 29 5 ((l.take k).map cE)]⟩) l.length (by simp [hx]) (by simp) ?_ ?_
  · refine ⟨0, by omega, ?_⟩
    simp [trim_mk, go_sem, Nat.reduceLT, Nat.reduceAdd, Nat.reduceEqDiff, Nat.reduceLeDiff, Nat.reduceSub, Nat.reduceMul, Int.reduceEq, eq_self, reduceIte, subHeap, renObj, pos, List.range_succ]
  · rintro m st ⟨k, hk, rfl⟩
    by_cases hlt : k < l.length
    · have hg : l[k]? = some (nth l k) := nth_get? _ _ hlt
      have wk := i64_up (k := k) (by omega)
      simp only [go_sem, Nat.reduceLT, Nat.reduceAdd, Nat.reduceEqDiff, Nat.reduceLeDiff, Nat.reduceSub, Nat.reduceMul, Int.reduceEq, eq_self, reduceIte, hlt, hg, cE]
      refine ops_call (.pureE (entOwn_meets (nth l k) (hf _ (nthM hlt)).2) (by simp [go_sem, Nat.reduceLT, Nat.reduceAdd, Nat.reduceEqDiff, Nat.reduceLeDiff, Nat.reduceSub, Nat.reduceMul, Int.reduceEq, eq_self, reduceIte, cE])) ?_
      simp only [go_sem, Nat.reduceLT, Nat.reduceAdd, Nat.reduceEqDiff, Nat.reduceLeDiff, Nat.reduceSub, Nat.reduceMul, Int.reduceEq, eq_self, reduceIte, cE]
      rw [app_arr rfl rfl (by simp) (by simp; omega)]
      simp only [go_sem, Nat.reduceLT, Nat.reduceAdd, Nat.reduceEqDiff, Nat.reduceLeDiff, Nat.reduceSub, Nat.reduceMul, Int.reduceEq, eq_self, reduceIte, wk]
      have htk : l.take (k + 1) = l.take k ++ [nth l k] := by rw [List.take_succ_eq_append_getElem hlt, nth_eq _ _ hlt]
      refine ⟨by simp, m - 1, by omega, k + 1, by omega, ?_⟩
      simp [trim_mk, go_sem, Nat.reduceLT, Nat.reduceAdd, Nat.reduceEqDiff, Nat.reduceLeDiff, Nat.reduceSub, Nat.reduceMul, Int.reduceEq, eq_self, reduceIte, subHeap, renObj, pos, List.range_succ, htk, cE]
    · obtain rfl : k = l.length := by omega
      rw [List.take_length]
      simp only [go_sem, Nat.reduceLT, Nat.reduceAdd, Nat.reduceEqDiff, Nat.reduceLeDiff, Nat.reduceSub, Nat.reduceMul, Int.reduceEq, eq_self, reduceIte, hlt]
      refine ret_keep [0] (by simp) (by simp [hx]) (by simp [hx]) ?_ ?_
      · simp [go_sem, Nat.reduceLT, Nat.reduceAdd, Nat.reduceEqDiff, Nat.reduceLeDiff, Nat.reduceSub, Nat.reduceMul, Int.reduceEq, eq_self, reduceIte, L72, R72, hx, pos]
      · simp [subHeap, renObj, hx, pos]
theorem siOwn_meets (r : Int) (lg ws : List Entry) (h1 : lg.length ≤ 1000000) (h2 : ws.length ≤ 1000000) (hf1 : fitE lg) (hf2 : fitE ws) : Meets Try.prog 51 [.agg (cSi r lg ws)] [] (.agg [.int .i64 r, .arr 0 lg.length, .arr 1 ws.length])
    [.arr lg.length true false 29 5 (lg.map cE), .arr ws.length true false 29 5 (ws.map cE)] := by
  refine Meets.of_walk Try.func51 Try.ntmps51 low51 res51 (by simp) fun x hx => ?_
  simp only [go_sem, Nat.reduceLT, Nat.reduceAdd, Nat.reduceEqDiff, Nat.reduceLeDiff, Nat.reduceSub, Nat.reduceMul, Int.reduceEq, eq_self, reduceIte, L51, R51, cSi]
  refine ops_call2 (r := .arr 2 lg.length) (siEntries_meets lg h1 hf1) rfl rfl (by simp [go_sem, Nat.reduceLT, Nat.reduceAdd, Nat.reduceEqDiff, Nat.reduceLeDiff, Nat.reduceSub, Nat.reduceMul, Int.reduceEq, eq_self, reduceIte]) rfl ?_
  simp only [go_sem, Nat.reduceLT, Nat.reduceAdd, Nat.reduceEqDiff, Nat.reduceLeDiff, Nat.reduceSub, Nat.reduceMul, Int.reduceEq, eq_self, reduceIte, cSi]
  refine ops_call2 (r := .arr 3 ws.length) (siEntries_meets ws h2 hf2) rfl rfl (by simp [go_sem, Nat.reduceLT, Nat.reduceAdd, Nat.reduceEqDiff, Nat.reduceLeDiff, Nat.reduceSub, Nat.reduceMul, Int.reduceEq, eq_self, reduceIte]) rfl ?_
  simp only [go_sem, Nat.reduceLT, Nat.reduceAdd, Nat.reduceEqDiff, Nat.reduceLeDiff, Nat.reduceSub, Nat.reduceMul, Int.reduceEq, eq_self, reduceIte, cSi]
  repeat refine ⟨rfl, ?_⟩
  refine ret_keep [2, 3] (by simp) (by simp [hx]) (by simp [hx]) ?_ ?_
  · simp [go_sem, Nat.reduceLT, Nat.reduceAdd, Nat.reduceEqDiff, Nat.reduceLeDiff, Nat.reduceSub, Nat.reduceMul, Int.reduceEq, eq_self, reduceIte, L51, R51, hx, pos]
  · simp [subHeap, renObj, hx, pos, go_sem, Nat.reduceLT, Nat.reduceAdd, Nat.reduceEqDiff, Nat.reduceLeDiff, Nat.reduceSub, Nat.reduceMul, Int.reduceEq, eq_self, reduceIte]
/-- a keeper of a site -/
def hSi (a b : Nat) (r : Int) (lg ws : List Entry) : List AObj := [.box [.int .i64 r, .arr 1 a, .arr 2 b], .arr a true false 29 5 (lg.map cE), .arr b true false 29 5 (ws.map cE)]
/-- the first of those that wait that is ready -/
def rdyI (lg ws : List Entry) : Int := idxF (readyB lg) ws 0
def settleN : Nat → List Entry → List Entry → List Entry × List Entry
  | 0, lg, ws => (lg, ws)
  | k + 1, lg, ws => if 0 ≤ rdyI lg ws then settleN k (lg ++ [nth ws (rdyI lg ws).toNat]) (ws.eraseIdx (rdyI lg ws).toNat) else (lg, ws)
def settled (lg ws : List Entry) : List Entry × List Entry := settleN ws.length lg ws
theorem rdyI_lt {lg ws : List Entry} (h : 0 ≤ rdyI lg ws) : (rdyI lg ws).toNat < ws.length := by
  have h2 : ∀ (l : List Entry) (k : Nat), (k : Int) ≤ idxF (readyB lg) l k → idxF (readyB lg) l k < (k + l.length : Nat) := by
    intro l
    induction l with
    | nil => intro k hk; simp [idxF] at hk; omega
    | cons e l ih =>
      intro k hk
      rw [idxF] at hk ⊢
      split
      · simp; omega
      · rename_i h0
        rw [if_neg h0] at hk
        rcases idxF_ge (readyB lg) l (k + 1) with ⟨a, -⟩ | ⟨a, -⟩
        · rw [a] at hk; omega
        · have := ih (k + 1) a
          simp only [List.length_cons]
          omega
  have := h2 ws 0 (by simpa [rdyI] using h)
  simp only [Nat.zero_add] at this
  unfold rdyI at h ⊢
  omega
theorem settled_step {lg ws : List Entry} (h : 0 ≤ rdyI lg ws) : settled lg ws = settled (lg ++ [nth ws (rdyI lg ws).toNat]) (ws.eraseIdx (rdyI lg ws).toNat) := by
  have hl := rdyI_lt h
  unfold settled
  rw [List.length_eraseIdx, if_pos hl]
  obtain ⟨m, hm⟩ : ∃ m, ws.length = m + 1 := ⟨ws.length - 1, by omega⟩
  rw [hm, settleN, if_pos h, Nat.add_sub_cancel]
theorem settled_end {lg ws : List Entry} (h : ¬ 0 ≤ rdyI lg ws) : settled lg ws = (lg, ws) := by
  unfold settled
  cases hl : ws.length with
  | zero => rfl
  | succ m => rw [settleN, if_neg h]
theorem settleN_sum : ∀ (k : Nat) (lg ws : List Entry), (settleN k lg ws).1.length + (settleN k lg ws).2.length = lg.length + ws.length ∧ (settleN k lg ws).2.length ≤ ws.length
  | 0, lg, ws => ⟨rfl, Nat.le_refl _⟩
  | k + 1, lg, ws => by
    rw [settleN]
    split
    · rename_i h
      have hl := rdyI_lt h
      obtain ⟨a, b⟩ := settleN_sum k (lg ++ [nth ws (rdyI lg ws).toNat]) (ws.eraseIdx (rdyI lg ws).toNat)
      rw [List.length_eraseIdx, if_pos hl] at a b
      simp only [List.length_append, List.length_cons, List.length_nil] at a
      omega
    · exact ⟨rfl, Nat.le_refl _⟩
theorem settled_sum (lg ws : List Entry) : (settled lg ws).1.length + (settled lg ws).2.length = lg.length + ws.length ∧ (settled lg ws).2.length ≤ ws.length := settleN_sum _ _ _
theorem fit_app {lg : List Entry} {e : Entry} (h : fitE lg) (he : (e.id.r = 0 ∨ e.id.r = 1) ∧ e.ls.length ≤ 1000000) : fitE (lg ++ [e]) := fun x hx => by
  rcases List.mem_append.1 hx with h1 | h1
  · exact h x h1
  · simp at h1; subst h1; exact he
theorem fit_erase {ws : List Entry} (h : fitE ws) (i : Nat) : fitE (ws.eraseIdx i) := fun x hx => h x (List.mem_of_mem_eraseIdx hx)
theorem fit_settleN : ∀ (k : Nat) (lg ws : List Entry), fitE lg → fitE ws → fitE (settleN k lg ws).1 ∧ fitE (settleN k lg ws).2
  | 0, _, _, h1, h2 => ⟨h1, h2⟩
  | k + 1, lg, ws, h1, h2 => by
    rw [settleN]
    split
    · rename_i h
      exact fit_settleN k _ _ (fit_app h1 (h2 _ (nthM (rdyI_lt h)))) (fit_erase h2 _)
    · exact ⟨h1, h2⟩
/-- the end of a function without results that keeps objects -/
theorem end_keep {x : Cx} {nt : Nat} {lrs : List LRes} {r : PV} {Hs' : List AObj} {st : St} (keep : List Nat) (hnd : keep.Nodup) (hlt : ∀ k ∈ keep, x.H0.length ≤ k ∧ k < st.heap.length) (hle : x.H0.length ≤ st.heap.length)
    (h : (evalRes st lrs).map (fun ps => renT true (pos (List.range x.H0.length ++ keep)) (frzAt true st.heap) (tupOf ps)) = some r)
    (h2 : subHeap (pos (List.range x.H0.length ++ keep)) (frzAt true st.heap) st.heap (List.range x.H0.length ++ keep) = Hs') : retQ x nt lrs r Hs' .normal st := by
  obtain ⟨ps, g1, g2⟩ := Option.map_eq_some_iff.1 h
  exact ⟨st, keep, Weak.refl _ _ _, ps, g1, hnd, hlt, hle, g2.symm, h2.symm⟩
theorem settle1_meets (r : Int) (lg ws : List Entry) (e : Entry) (hl : lg.length ≤ 1000000) (hf : fitE lg) (he : e.id.r = 0 ∨ e.id.r = 1) (hls : e.ls.length ≤ 1000000) : Meets Try.prog 73 [.agg (cE e), .rptr [.rptr (cSi r lg ws)]] [] (.bool (readyB lg e)) [] := by
  refine Meets.of_walk Try.func73 Try.ntmps73 low73 res73 (by simp) fun x hx => ?_
  simp only [go_sem, Nat.reduceLT, Nat.reduceAdd, Nat.reduceEqDiff, Nat.reduceLeDiff, Nat.reduceSub, Nat.reduceMul, Int.reduceEq, eq_self, reduceIte, L73, R73, cE, cSi]
  refine ops_call (.pureE (ready_meets lg e (fit_reg hf) (by omega) he (by omega)) (by simp [go_sem, Nat.reduceLT, Nat.reduceAdd, Nat.reduceEqDiff, Nat.reduceLeDiff, Nat.reduceSub, Nat.reduceMul, Int.reduceEq, eq_self, reduceIte, cE])) ?_
  simp only [go_sem, Nat.reduceLT, Nat.reduceAdd, Nat.reduceEqDiff, Nat.reduceLeDiff, Nat.reduceSub, Nat.reduceMul, Int.reduceEq, eq_self, reduceIte]
  repeat refine ⟨rfl, ?_⟩
  refine end_pure hx ?_
  simp [go_sem, Nat.reduceLT, Nat.reduceAdd, Nat.reduceEqDiff, Nat.reduceLeDiff, Nat.reduceSub, Nat.reduceMul, Int.reduceEq, eq_self, reduceIte, L73, R73]
theorem rdyI_meets (r : Int) (lg ws : List Entry) (hl : lg.length ≤ 1000000) (hw : ws.length ≤ 1000000) (hf : fitE lg) (hf2 : fitE ws) :
    Meets Try.prog 61 [.list (ws.map cE), .clo 73 [.rptr [.rptr (cSi r lg ws)]]] [] (.int .i64 (rdyI lg ws)) [] :=
  indexE_meets ws 73 [.rptr [.rptr (cSi r lg ws)]] [] (readyB lg) (by kernel_rfl) (by omega) ⟨by simp [renLeaf], by simp [ren, renCell, renLeaf], by simp [subHeap], by simp [merge], by simp [subHeap]⟩
    fun e he => settle1_meets r lg ws e hl hf (hf2 e he).1 (hf2 e he).2
set_option maxHeartbeats 2000000 in
theorem settle_meets (a b : Nat) (r : Int) (lg ws : List Entry) (h1 : lg.length + ws.length ≤ 1000000) (hf1 : fitE lg) (hf2 : fitE ws) :
    Meets Try.prog 52 [.ptr 0 0] (hSi a b r lg ws) (.tup []) (hSi (a + (ws.length - (settled lg ws).2.length)) (b + (ws.length - (settled lg ws).2.length)) r (settled lg ws).1 (settled lg ws).2) := by
  refine Meets.of_walk Try.func52 Try.ntmps52 low52 res52 (by simp) fun x hx => ?_
  simp only [go_sem, Nat.reduceLT, Nat.reduceAdd, Nat.reduceEqDiff, Nat.reduceLeDiff, Nat.reduceSub, Nat.reduceMul, Int.reduceEq, eq_self, reduceIte, L52, R52, hSi]
  refine ops_call (.lookE (rdyI_meets r lg ws (by omega) (by omega) hf1 hf2) rfl (by simp [lookF, lookN, go_sem, Nat.reduceLT, Nat.reduceAdd, Nat.reduceEqDiff, Nat.reduceLeDiff, Nat.reduceSub, Nat.reduceMul, Int.reduceEq, eq_self, reduceIte, frzAt, pos, cSi])) ?_
  simp only [go_sem, Nat.reduceLT, Nat.reduceAdd, Nat.reduceEqDiff, Nat.reduceLeDiff, Nat.reduceSub, Nat.reduceMul, Int.reduceEq, eq_self, reduceIte]
  refine loop_inv [1, 2, 3] 4 (fun m st => ∃ (k : Nat) (us vs : List Entry), vs.length = m ∧ m + k = ws.length ∧ us.length = lg.length + k ∧ fitE us ∧ fitE vs ∧ settled us vs = settled lg ws ∧
    st = ⟨mkE .top [(1, .ptr 3 0), (2, .clo 73 [.ptr 3 0]), (3, .int .i64 (rdyI us vs))], hSi (a + k) (b + k) r us vs ++ [.box [.ptr 0 0]]⟩) ws.length (by simp [hx, hSi]) (by simp) ?_ ?_
  · refine ⟨0, lg, ws, rfl, rfl, rfl, hf1, hf2, rfl, ?_⟩
    simp [trim_mk, go_sem, Nat.reduceLT, Nat.reduceAdd, Nat.reduceEqDiff, Nat.reduceLeDiff, Nat.reduceSub, Nat.reduceMul, Int.reduceEq, eq_self, reduceIte, subHeap, renObj, renCell, renLeaf, pos, List.range_succ, hSi]
  · rintro m st ⟨k, us, vs, hm, hmk, hul, hfu, hfv, hse, rfl⟩
    by_cases hf : 0 ≤ rdyI us vs
    · have hql := rdyI_lt hf
      rw [settled_step hf] at hse
      obtain ⟨q, hq⟩ : ∃ q : Nat, rdyI us vs = q := ⟨(rdyI us vs).toNat, by omega⟩
      rw [hq, Int.toNat_natCast] at hql hse
      have hgq : vs[q]? = some (nth vs q) := nth_get? _ _ hql
      have wq := i64_up (k := q) (by omega)
      have hfe := hfv _ (nthM hql)
      simp only [go_sem, Nat.reduceLT, Nat.reduceAdd, Nat.reduceEqDiff, Nat.reduceLeDiff, Nat.reduceSub, Nat.reduceMul, Int.reduceEq, eq_self, reduceIte, hSi, hq, hql, hgq, cE]
      rw [app_arr rfl rfl (by simp) (by simp; omega)]
      have hce : List.map cE us ++ [[PV.int .i64 (nth vs q).id.r, .int .i64 (nth vs q).id.n, .int .i64 (nth vs q).c, .str (nth vs q).t, .list ((nth vs q).ls.map cId)]] = (us ++ [nth vs q]).map cE := by simp [cE]
      simp only [go_sem, Nat.reduceLT, Nat.reduceAdd, Nat.reduceEqDiff, Nat.reduceLeDiff, Nat.reduceSub, Nat.reduceMul, Int.reduceEq, eq_self, reduceIte, hce]
      repeat refine ⟨rfl, ?_⟩
      simp only [go_sem, Nat.reduceLT, Nat.reduceAdd, Nat.reduceEqDiff, Nat.reduceLeDiff, Nat.reduceSub, Nat.reduceMul, Int.reduceEq, eq_self, reduceIte, wq]
      refine ops_call1 2 (delE_meets (vs.map cE) (b + k) 29 q (by simpa using hql)) rfl rfl rfl rfl (by simp [go_sem, Nat.reduceLT, Nat.reduceAdd, Nat.reduceEqDiff, Nat.reduceLeDiff, Nat.reduceSub, Nat.reduceMul, Int.reduceEq, eq_self, reduceIte]) (by simp [go_sem, Nat.reduceLT, Nat.reduceAdd, Nat.reduceEqDiff, Nat.reduceLeDiff, Nat.reduceSub, Nat.reduceMul, Int.reduceEq, eq_self, reduceIte, pos]) rfl ?_
      rw [eraseIdx_mapE]
      have hle : (vs.eraseIdx q).length = vs.length - 1 := by rw [List.length_eraseIdx, if_pos hql]
      simp only [go_sem, Nat.reduceLT, Nat.reduceAdd, Nat.reduceEqDiff, Nat.reduceLeDiff, Nat.reduceSub, Nat.reduceMul, Int.reduceEq, eq_self, reduceIte]
      repeat refine ⟨rfl, ?_⟩
      refine ops_call (.lookE (rdyI_meets r (us ++ [nth vs q]) (vs.eraseIdx q) (by simp; omega) (by omega) (fit_app hfu hfe) (fit_erase hfv q)) rfl (by simp [lookF, lookN, go_sem, Nat.reduceLT, Nat.reduceAdd, Nat.reduceEqDiff, Nat.reduceLeDiff, Nat.reduceSub, Nat.reduceMul, Int.reduceEq, eq_self, reduceIte, frzAt, pos, cSi])) ?_
      simp only [go_sem, Nat.reduceLT, Nat.reduceAdd, Nat.reduceEqDiff, Nat.reduceLeDiff, Nat.reduceSub, Nat.reduceMul, Int.reduceEq, eq_self, reduceIte]
      refine ⟨by simp, m - 1, by omega, k + 1, us ++ [nth vs q], vs.eraseIdx q, by omega, by omega, by simp; omega, fit_app hfu hfe, fit_erase hfv q, hse, ?_⟩
      simp [trim_mk, go_sem, Nat.reduceLT, Nat.reduceAdd, Nat.reduceEqDiff, Nat.reduceLeDiff, Nat.reduceSub, Nat.reduceMul, Int.reduceEq, eq_self, reduceIte, subHeap, renObj, renCell, renLeaf, pos, List.range_succ, hSi, Nat.add_assoc]
    · rw [settled_end hf] at hse
      rw [← hse]
      have hk1 : ws.length - vs.length = k := by omega
      simp only [go_sem, Nat.reduceLT, Nat.reduceAdd, Nat.reduceEqDiff, Nat.reduceLeDiff, Nat.reduceSub, Nat.reduceMul, Int.reduceEq, eq_self, reduceIte, hSi, hf, hk1]
      refine end_keep [] (by simp) (by simp) (by simp [hx, hSi]) ?_ ?_
      · simp [go_sem, Nat.reduceLT, Nat.reduceAdd, Nat.reduceEqDiff, Nat.reduceLeDiff, Nat.reduceSub, Nat.reduceMul, Int.reduceEq, eq_self, reduceIte, L52, R52, hx, pos, hSi]
      · simp [subHeap, renObj, hx, pos, go_sem, Nat.reduceLT, Nat.reduceAdd, Nat.reduceEqDiff, Nat.reduceLeDiff, Nat.reduceSub, Nat.reduceMul, Int.reduceEq, eq_self, reduceIte, hSi, List.range_succ]
end Go.Proofs.Ytiandbolipoebaa
/- Sites: New, Check: contracts. -/
namespace Go.Proofs.Ytiandbolipoebaa
set_option linter.unusedSimpArgs false
set_option linter.unusedVariables false
open Go.RowKit
/-- what is wrong with the k-th of those that wait -/
def siBad (r : Int) (lg ws : List Entry) (k : Nat) : Bool := (decide (0 < k) && !lessB (nth ws (k - 1)).id (nth ws k).id) || decide ((nth ws k).id.r = r) || decide (0 ≤ findE lg (nth ws k).id) || readyB lg (nth ws k)
def siWait (r : Int) (lg ws : List Entry) (k : Nat) : Int := if checkEntry (nth ws k) ≠ 0 then checkEntry (nth ws k) else if siBad r lg ws k = true then 4 else 0
def siErr (r : Int) (lg ws : List Entry) : Int := if ¬ (r = 0 ∨ r = 1) then 3 else if checkLog lg ≠ 0 then checkLog lg else if 20 < ws.length then 2 else firstNZ (siWait r lg ws) ws.length
theorem siErr_ok {r : Int} {lg ws : List Entry} (h : siErr r lg ws = 0) : (r = 0 ∨ r = 1) ∧ LogOk lg ∧ ws.length ≤ 20 ∧ ∀ k, k < ws.length → checkEntry (nth ws k) = 0 ∧ siBad r lg ws k = false := by
  unfold siErr at h
  split at h
  · cases h
  · rename_i h1
    split at h
    · rename_i h2; exact (h2 h).elim
    · rename_i h2
      split at h
      · cases h
      · rename_i h3
        refine ⟨by omega, log_ok.1 (by simpa using h2), by omega, fun k hk => ?_⟩
        have := firstNZ_zero.1 h k hk
        unfold siWait at this
        split at this
        · rename_i h4; exact (h4 this).elim
        · rename_i h4
          split at this
          · cases this
          · rename_i h5
            exact ⟨by simpa using h4, by simpa using h5⟩
theorem check_fit {e : Entry} (h : checkEntry e = 0) : (e.id.r = 0 ∨ e.id.r = 1) ∧ e.ls.length ≤ 1000000 := by
  have := (check_ok_bounds h).2.2.2.1
  exact ⟨reg_of_check h, by omega⟩
theorem log_fit {lg : List Entry} (h : LogOk lg) : fitE lg := fun e he => by
  obtain ⟨k, hk, rfl⟩ := List.getElem_of_mem he
  rw [← nth_eq _ _ hk]
  exact check_fit (h.chk k hk)
theorem waits_fit {ws : List Entry} (h : ∀ k, k < ws.length → checkEntry (nth ws k) = 0) : fitE ws := fun e he => by
  obtain ⟨k, hk, rfl⟩ := List.getElem_of_mem he
  rw [← nth_eq _ _ hk]
  exact check_fit (h k hk)
theorem siNew_meets (r : Int) : Meets Try.prog 7 [.int .i64 r] [] (.tup [.agg (if r = 0 ∨ r = 1 then cSi r [] [] else cSi 0 [] []), .int .i64 (if r = 0 ∨ r = 1 then 0 else 3)]) [] := by
  refine Meets.of_walk Try.func7 Try.ntmps7 low7 res7 (by simp) fun x hx => ?_
  by_cases h0 : r = 0
  · subst h0
    simp only [go_sem, Nat.reduceLT, Nat.reduceAdd, Nat.reduceEqDiff, Nat.reduceLeDiff, Nat.reduceSub, Nat.reduceMul, Int.reduceEq, eq_self, reduceIte, L7, R7]
    refine ret_pure hx ?_
    simp [go_sem, Nat.reduceLT, Nat.reduceAdd, Nat.reduceEqDiff, Nat.reduceLeDiff, Nat.reduceSub, Nat.reduceMul, Int.reduceEq, eq_self, reduceIte, L7, R7, cSi]
  · by_cases h1 : r = 1
    · subst h1
      simp only [go_sem, Nat.reduceLT, Nat.reduceAdd, Nat.reduceEqDiff, Nat.reduceLeDiff, Nat.reduceSub, Nat.reduceMul, Int.reduceEq, eq_self, reduceIte, L7, R7, Int.ofNat_zero, Int.natCast_one, Int.cast_ofNat_Int, Int.reduceLT, Int.reduceLE, Int.reduceToNat, Nat.reduceLT, Int.toNat_zero, Int.natCast_zero, Int.le_refl, Int.lt_irrefl, Int.reduceAdd, frz, false_or, or_true]
      refine ret_pure hx ?_
      simp [go_sem, Nat.reduceLT, Nat.reduceAdd, Nat.reduceEqDiff, Nat.reduceLeDiff, Nat.reduceSub, Nat.reduceMul, Int.reduceEq, eq_self, reduceIte, L7, R7, cSi]
    · simp only [go_sem, Nat.reduceLT, Nat.reduceAdd, Nat.reduceEqDiff, Nat.reduceLeDiff, Nat.reduceSub, Nat.reduceMul, Int.reduceEq, eq_self, reduceIte, L7, R7, h0, h1]
      refine ret_pure hx ?_
      simp [go_sem, Nat.reduceLT, Nat.reduceAdd, Nat.reduceEqDiff, Nat.reduceLeDiff, Nat.reduceSub, Nat.reduceMul, Int.reduceEq, eq_self, reduceIte, L7, R7, cSi, h0, h1]
set_option maxHeartbeats 4000000 in
theorem siCheck_meets (r : Int) (lg ws : List Entry) (hl : lg.length ≤ 9223372036854775806) (hw : ws.length ≤ 9223372036854775806) : Meets Try.prog 15 [.agg (cSi r lg ws)] [] (.int .i64 (siErr r lg ws)) [] := by
  refine Meets.of_walk Try.func15 Try.ntmps15 low15 res15 (by simp) fun x hx => ?_
  simp only [go_sem, Nat.reduceLT, Nat.reduceAdd, Nat.reduceEqDiff, Nat.reduceLeDiff, Nat.reduceSub, Nat.reduceMul, Int.reduceEq, eq_self, reduceIte, L15, R15, cSi]
  by_cases h0 : r = 0
  · have hr : r = 0 ∨ r = 1 := .inl h0
    have hd0 : decide (r = 0) = true := by simp [h0]
    have hd1 : True := trivial
    clear h0
    simp only [go_sem, Nat.reduceLT, Nat.reduceAdd, Nat.reduceEqDiff, Nat.reduceLeDiff, Nat.reduceSub, Nat.reduceMul, Int.reduceEq, eq_self, reduceIte, hd0, hd1, cSi]
    refine ops_call (.pureE (dagCheck_meets lg hl) (by simp [go_sem, Nat.reduceLT, Nat.reduceAdd, Nat.reduceEqDiff, Nat.reduceLeDiff, Nat.reduceSub, Nat.reduceMul, Int.reduceEq, eq_self, reduceIte])) ?_
    by_cases hlog : checkLog lg = 0
    · have hok := log_ok.1 hlog
      have hlen := hok.len
      by_cases h20 : (20 : Int) < (ws.length : Int)
      · have e : siErr r lg ws = 2 := by rw [siErr, if_neg (by simp [hr]), if_neg (by simp [hlog]), if_pos (by omega)]
        simp only [go_sem, Nat.reduceLT, Nat.reduceAdd, Nat.reduceEqDiff, Nat.reduceLeDiff, Nat.reduceSub, Nat.reduceMul, Int.reduceEq, eq_self, reduceIte, hlog, h20, cSi]
        refine ret_pure hx ?_
        simp [go_sem, Nat.reduceLT, Nat.reduceAdd, Nat.reduceEqDiff, Nat.reduceLeDiff, Nat.reduceSub, Nat.reduceMul, Int.reduceEq, eq_self, reduceIte, L15, R15, e]
      · have e : siErr r lg ws = firstNZ (siWait r lg ws) ws.length := by rw [siErr, if_neg (by simp [hr]), if_neg (by simp [hlog]), if_neg (by omega)]
        simp only [go_sem, Nat.reduceLT, Nat.reduceAdd, Nat.reduceEqDiff, Nat.reduceLeDiff, Nat.reduceSub, Nat.reduceMul, Int.reduceEq, eq_self, reduceIte, hlog, h20, cSi, e]
        refine loop_inv [1, 26, 27, 28] 1 (fun m st => ∃ k : Nat, k + m = ws.length ∧ firstNZ (siWait r lg ws) k = 0 ∧
          st = ⟨mkE .top [(1, .ptr 0 0), (26, .list (ws.map cE)), (27, .int .i64 ws.length), (28, .int .i64 k)], [.box (cSi r lg ws)]⟩) ws.length (by simp [hx]) (by simp) ?_ ?_
        · refine ⟨0, by omega, rfl, ?_⟩
          simp [trim_mk, go_sem, Nat.reduceLT, Nat.reduceAdd, Nat.reduceEqDiff, Nat.reduceLeDiff, Nat.reduceSub, Nat.reduceMul, Int.reduceEq, eq_self, reduceIte, subHeap, renObj, pos, List.range_succ, cSi]
        · rintro m st ⟨k, hk, hz, rfl⟩
          by_cases hlt : k < ws.length
          · have hg : ws[k]? = some (nth ws k) := nth_get? _ _ hlt
            have wk := i64_up (k := k) (by omega)
            have fin : ∀ q : Int, siWait r lg ws k = q → q ≠ 0 → firstNZ (siWait r lg ws) ws.length = q := fun q h1 h2 => by rw [firstNZ_hit hz (by rw [h1]; exact h2) hlt, h1]
            simp only [go_sem, Nat.reduceLT, Nat.reduceAdd, Nat.reduceEqDiff, Nat.reduceLeDiff, Nat.reduceSub, Nat.reduceMul, Int.reduceEq, eq_self, reduceIte, hlt, hg, cE, cSi]
            refine ops_call (.pureE (check_meets (nth ws k)) (by simp [go_sem, Nat.reduceLT, Nat.reduceAdd, Nat.reduceEqDiff, Nat.reduceLeDiff, Nat.reduceSub, Nat.reduceMul, Int.reduceEq, eq_self, reduceIte, cE])) ?_
            by_cases h1 : checkEntry (nth ws k) = 0
            · have hfit := check_fit h1
              have hw1 : siWait r lg ws k = if siBad r lg ws k = true then 4 else 0 := by rw [siWait, if_neg (by simp [h1])]
              simp only [go_sem, Nat.reduceLT, Nat.reduceAdd, Nat.reduceEqDiff, Nat.reduceLeDiff, Nat.reduceSub, Nat.reduceMul, Int.reduceEq, eq_self, reduceIte, h1, cE, cSi]
              by_cases hk0 : (0 : Int) < (k : Int)
              · obtain ⟨k', rfl⟩ : ∃ k', k = k' + 1 := ⟨k - 1, by omega⟩
                have hwd : IntKind.i64.wrap (((k' + 1 : Nat) : Int) - 1) = (k' : Int) := by rw [IntKind.wrap_i64]; omega
                have hkl : k' < ws.length := by omega
                have hg' : ws[k']? = some (nth ws k') := nth_get? _ _ hkl
                simp only [go_sem, Nat.reduceLT, Nat.reduceAdd, Nat.reduceEqDiff, Nat.reduceLeDiff, Nat.reduceSub, Nat.reduceMul, Int.reduceEq, eq_self, reduceIte, hk0, hwd, hkl, hg', cE, cSi]
                refine ops_call (.pureE (less_meets (nth ws k').id (nth ws (k' + 1)).id) (by simp [go_sem, Nat.reduceLT, Nat.reduceAdd, Nat.reduceEqDiff, Nat.reduceLeDiff, Nat.reduceSub, Nat.reduceMul, Int.reduceEq, eq_self, reduceIte, cId])) ?_
                cases hle : lessB (nth ws k').id (nth ws (k' + 1)).id
                · have hw2 : siWait r lg ws (k' + 1) = 4 := by rw [hw1, if_pos (by simp [siBad, hle])]
                  simp only [go_sem, Nat.reduceLT, Nat.reduceAdd, Nat.reduceEqDiff, Nat.reduceLeDiff, Nat.reduceSub, Nat.reduceMul, Int.reduceEq, eq_self, reduceIte]
                  repeat refine ⟨rfl, ?_⟩
                  refine ret_pure hx ?_
                  simp [go_sem, Nat.reduceLT, Nat.reduceAdd, Nat.reduceEqDiff, Nat.reduceLeDiff, Nat.reduceSub, Nat.reduceMul, Int.reduceEq, eq_self, reduceIte, L15, R15, fin 4 hw2 (by decide)]
                · have hb1 : (decide (0 < k' + 1) && !lessB (nth ws (k' + 1 - 1)).id (nth ws (k' + 1)).id) = false := by simp [hle]
                  cases hd2 : decide ((nth ws (k' + 1)).id.r = r)
                  · simp only [go_sem, Nat.reduceLT, Nat.reduceAdd, Nat.reduceEqDiff, Nat.reduceLeDiff, Nat.reduceSub, Nat.reduceMul, Int.reduceEq, eq_self, reduceIte, hd2, cE, cSi]
                    refine ops_call (.pureE (find_meets lg (nth ws (k' + 1)).id hl) (by simp [go_sem, Nat.reduceLT, Nat.reduceAdd, Nat.reduceEqDiff, Nat.reduceLeDiff, Nat.reduceSub, Nat.reduceMul, Int.reduceEq, eq_self, reduceIte, cId])) ?_
                    by_cases h3 : 0 ≤ findE lg (nth ws (k' + 1)).id
                    · have hw2 : siWait r lg ws (k' + 1) = 4 := by rw [hw1, if_pos (by simp [siBad, h3])]
                      simp only [go_sem, Nat.reduceLT, Nat.reduceAdd, Nat.reduceEqDiff, Nat.reduceLeDiff, Nat.reduceSub, Nat.reduceMul, Int.reduceEq, eq_self, reduceIte, h3]
                      repeat refine ⟨rfl, ?_⟩
                      refine ret_pure hx ?_
                      simp [go_sem, Nat.reduceLT, Nat.reduceAdd, Nat.reduceEqDiff, Nat.reduceLeDiff, Nat.reduceSub, Nat.reduceMul, Int.reduceEq, eq_self, reduceIte, L15, R15, fin 4 hw2 (by decide)]
                    · simp only [go_sem, Nat.reduceLT, Nat.reduceAdd, Nat.reduceEqDiff, Nat.reduceLeDiff, Nat.reduceSub, Nat.reduceMul, Int.reduceEq, eq_self, reduceIte, h3, cE, cSi]
                      refine ops_call (.pureE (ready_meets lg (nth ws (k' + 1)) hok.reg (by omega) hfit.1 (by have := hfit.2; omega)) (by simp [go_sem, Nat.reduceLT, Nat.reduceAdd, Nat.reduceEqDiff, Nat.reduceLeDiff, Nat.reduceSub, Nat.reduceMul, Int.reduceEq, eq_self, reduceIte, cE])) ?_
                      cases h4 : readyB lg (nth ws (k' + 1))
                      · have hw2 : siWait r lg ws (k' + 1) = 0 := by rw [hw1, if_neg (by rw [siBad, hb1, hd2, h4]; simp [h3])]
                        simp only [go_sem, Nat.reduceLT, Nat.reduceAdd, Nat.reduceEqDiff, Nat.reduceLeDiff, Nat.reduceSub, Nat.reduceMul, Int.reduceEq, eq_self, reduceIte, wk]
                        repeat refine ⟨rfl, ?_⟩
                        refine ⟨by simp, m - 1, by omega, k' + 1 + 1, by omega, firstNZ_succ hz hw2, ?_⟩
                        simp [trim_mk, go_sem, Nat.reduceLT, Nat.reduceAdd, Nat.reduceEqDiff, Nat.reduceLeDiff, Nat.reduceSub, Nat.reduceMul, Int.reduceEq, eq_self, reduceIte, subHeap, renObj, pos, List.range_succ, cSi]
                      · have hw2 : siWait r lg ws (k' + 1) = 4 := by rw [hw1, if_pos (by simp [siBad, h4])]
                        simp only [go_sem, Nat.reduceLT, Nat.reduceAdd, Nat.reduceEqDiff, Nat.reduceLeDiff, Nat.reduceSub, Nat.reduceMul, Int.reduceEq, eq_self, reduceIte]
                        repeat refine ⟨rfl, ?_⟩
                        refine ret_pure hx ?_
                        simp [go_sem, Nat.reduceLT, Nat.reduceAdd, Nat.reduceEqDiff, Nat.reduceLeDiff, Nat.reduceSub, Nat.reduceMul, Int.reduceEq, eq_self, reduceIte, L15, R15, fin 4 hw2 (by decide)]
                  · have hw2 : siWait r lg ws (k' + 1) = 4 := by rw [hw1, if_pos (by simp [siBad, hd2])]
                    simp only [go_sem, Nat.reduceLT, Nat.reduceAdd, Nat.reduceEqDiff, Nat.reduceLeDiff, Nat.reduceSub, Nat.reduceMul, Int.reduceEq, eq_self, reduceIte, hd2]
                    repeat refine ⟨rfl, ?_⟩
                    refine ret_pure hx ?_
                    simp [go_sem, Nat.reduceLT, Nat.reduceAdd, Nat.reduceEqDiff, Nat.reduceLeDiff, Nat.reduceSub, Nat.reduceMul, Int.reduceEq, eq_self, reduceIte, L15, R15, fin 4 hw2 (by decide)]
              · have hkz : k = 0 := by omega
                have hb1 : (decide (0 < k) && !lessB (nth ws (k - 1)).id (nth ws k).id) = false := by simp [hkz]
                simp only [go_sem, Nat.reduceLT, Nat.reduceAdd, Nat.reduceEqDiff, Nat.reduceLeDiff, Nat.reduceSub, Nat.reduceMul, Int.reduceEq, eq_self, reduceIte, hk0, cE, cSi]
                cases hd2 : decide ((nth ws (k)).id.r = r)
                · simp only [go_sem, Nat.reduceLT, Nat.reduceAdd, Nat.reduceEqDiff, Nat.reduceLeDiff, Nat.reduceSub, Nat.reduceMul, Int.reduceEq, eq_self, reduceIte, hd2, cE, cSi]
                  refine ops_call (.pureE (find_meets lg (nth ws (k)).id hl) (by simp [go_sem, Nat.reduceLT, Nat.reduceAdd, Nat.reduceEqDiff, Nat.reduceLeDiff, Nat.reduceSub, Nat.reduceMul, Int.reduceEq, eq_self, reduceIte, cId])) ?_
                  by_cases h3 : 0 ≤ findE lg (nth ws (k)).id
                  · have hw2 : siWait r lg ws (k) = 4 := by rw [hw1, if_pos (by simp [siBad, h3])]
                    simp only [go_sem, Nat.reduceLT, Nat.reduceAdd, Nat.reduceEqDiff, Nat.reduceLeDiff, Nat.reduceSub, Nat.reduceMul, Int.reduceEq, eq_self, reduceIte, h3]
                    repeat refine ⟨rfl, ?_⟩
                    refine ret_pure hx ?_
                    simp [go_sem, Nat.reduceLT, Nat.reduceAdd, Nat.reduceEqDiff, Nat.reduceLeDiff, Nat.reduceSub, Nat.reduceMul, Int.reduceEq, eq_self, reduceIte, L15, R15, fin 4 hw2 (by decide)]
                  · simp only [go_sem, Nat.reduceLT, Nat.reduceAdd, Nat.reduceEqDiff, Nat.reduceLeDiff, Nat.reduceSub, Nat.reduceMul, Int.reduceEq, eq_self, reduceIte, h3, cE, cSi]
                    refine ops_call (.pureE (ready_meets lg (nth ws (k)) hok.reg (by omega) hfit.1 (by have := hfit.2; omega)) (by simp [go_sem, Nat.reduceLT, Nat.reduceAdd, Nat.reduceEqDiff, Nat.reduceLeDiff, Nat.reduceSub, Nat.reduceMul, Int.reduceEq, eq_self, reduceIte, cE])) ?_
                    cases h4 : readyB lg (nth ws (k))
                    · have hw2 : siWait r lg ws (k) = 0 := by rw [hw1, if_neg (by rw [siBad, hb1, hd2, h4]; simp [h3])]
                      simp only [go_sem, Nat.reduceLT, Nat.reduceAdd, Nat.reduceEqDiff, Nat.reduceLeDiff, Nat.reduceSub, Nat.reduceMul, Int.reduceEq, eq_self, reduceIte, wk]
                      repeat refine ⟨rfl, ?_⟩
                      refine ⟨by simp, m - 1, by omega, k + 1, by omega, firstNZ_succ hz hw2, ?_⟩
                      simp [trim_mk, go_sem, Nat.reduceLT, Nat.reduceAdd, Nat.reduceEqDiff, Nat.reduceLeDiff, Nat.reduceSub, Nat.reduceMul, Int.reduceEq, eq_self, reduceIte, subHeap, renObj, pos, List.range_succ, cSi]
                    · have hw2 : siWait r lg ws (k) = 4 := by rw [hw1, if_pos (by simp [siBad, h4])]
                      simp only [go_sem, Nat.reduceLT, Nat.reduceAdd, Nat.reduceEqDiff, Nat.reduceLeDiff, Nat.reduceSub, Nat.reduceMul, Int.reduceEq, eq_self, reduceIte]
                      repeat refine ⟨rfl, ?_⟩
                      refine ret_pure hx ?_
                      simp [go_sem, Nat.reduceLT, Nat.reduceAdd, Nat.reduceEqDiff, Nat.reduceLeDiff, Nat.reduceSub, Nat.reduceMul, Int.reduceEq, eq_self, reduceIte, L15, R15, fin 4 hw2 (by decide)]
                · have hw2 : siWait r lg ws (k) = 4 := by rw [hw1, if_pos (by simp [siBad, hd2])]
                  simp only [go_sem, Nat.reduceLT, Nat.reduceAdd, Nat.reduceEqDiff, Nat.reduceLeDiff, Nat.reduceSub, Nat.reduceMul, Int.reduceEq, eq_self, reduceIte, hd2]
                  repeat refine ⟨rfl, ?_⟩
                  refine ret_pure hx ?_
                  simp [go_sem, Nat.reduceLT, Nat.reduceAdd, Nat.reduceEqDiff, Nat.reduceLeDiff, Nat.reduceSub, Nat.reduceMul, Int.reduceEq, eq_self, reduceIte, L15, R15, fin 4 hw2 (by decide)]
            · have hw1 : siWait r lg ws k = checkEntry (nth ws k) := by rw [siWait, if_pos h1]
              simp only [go_sem, Nat.reduceLT, Nat.reduceAdd, Nat.reduceEqDiff, Nat.reduceLeDiff, Nat.reduceSub, Nat.reduceMul, Int.reduceEq, eq_self, reduceIte, h1, cE, cSi]
              refine ret_pure hx ?_
              simp [go_sem, Nat.reduceLT, Nat.reduceAdd, Nat.reduceEqDiff, Nat.reduceLeDiff, Nat.reduceSub, Nat.reduceMul, Int.reduceEq, eq_self, reduceIte, L15, R15, fin _ hw1 h1]
          · obtain rfl : k = ws.length := by omega
            simp only [go_sem, Nat.reduceLT, Nat.reduceAdd, Nat.reduceEqDiff, Nat.reduceLeDiff, Nat.reduceSub, Nat.reduceMul, Int.reduceEq, eq_self, reduceIte, hlt]
            refine ret_pure hx ?_
            simp [go_sem, Nat.reduceLT, Nat.reduceAdd, Nat.reduceEqDiff, Nat.reduceLeDiff, Nat.reduceSub, Nat.reduceMul, Int.reduceEq, eq_self, reduceIte, L15, R15, hz]
    · have e : siErr r lg ws = checkLog lg := by rw [siErr, if_neg (by simp [hr]), if_pos hlog]
      simp only [go_sem, Nat.reduceLT, Nat.reduceAdd, Nat.reduceEqDiff, Nat.reduceLeDiff, Nat.reduceSub, Nat.reduceMul, Int.reduceEq, eq_self, reduceIte, hlog]
      refine ret_pure hx ?_
      simp [go_sem, Nat.reduceLT, Nat.reduceAdd, Nat.reduceEqDiff, Nat.reduceLeDiff, Nat.reduceSub, Nat.reduceMul, Int.reduceEq, eq_self, reduceIte, L15, R15, e]
  · have hd0 : decide (r = 0) = false := by simp [h0]
    by_cases h1 : r = 1
    · have hr : r = 0 ∨ r = 1 := .inr h1
      have hd1 : decide (r = 1) = true := by simp [h1]
      clear h0 h1
      simp only [go_sem, Nat.reduceLT, Nat.reduceAdd, Nat.reduceEqDiff, Nat.reduceLeDiff, Nat.reduceSub, Nat.reduceMul, Int.reduceEq, eq_self, reduceIte, hd0, hd1, cSi]
      refine ops_call (.pureE (dagCheck_meets lg hl) (by simp [go_sem, Nat.reduceLT, Nat.reduceAdd, Nat.reduceEqDiff, Nat.reduceLeDiff, Nat.reduceSub, Nat.reduceMul, Int.reduceEq, eq_self, reduceIte])) ?_
      by_cases hlog : checkLog lg = 0
      · have hok := log_ok.1 hlog
        have hlen := hok.len
        by_cases h20 : (20 : Int) < (ws.length : Int)
        · have e : siErr r lg ws = 2 := by rw [siErr, if_neg (by simp [hr]), if_neg (by simp [hlog]), if_pos (by omega)]
          simp only [go_sem, Nat.reduceLT, Nat.reduceAdd, Nat.reduceEqDiff, Nat.reduceLeDiff, Nat.reduceSub, Nat.reduceMul, Int.reduceEq, eq_self, reduceIte, hlog, h20, cSi]
          refine ret_pure hx ?_
          simp [go_sem, Nat.reduceLT, Nat.reduceAdd, Nat.reduceEqDiff, Nat.reduceLeDiff, Nat.reduceSub, Nat.reduceMul, Int.reduceEq, eq_self, reduceIte, L15, R15, e]
        · have e : siErr r lg ws = firstNZ (siWait r lg ws) ws.length := by rw [siErr, if_neg (by simp [hr]), if_neg (by simp [hlog]), if_neg (by omega)]
          simp only [go_sem, Nat.reduceLT, Nat.reduceAdd, Nat.reduceEqDiff, Nat.reduceLeDiff, Nat.reduceSub, Nat.reduceMul, Int.reduceEq, eq_self, reduceIte, hlog, h20, cSi, e]
          refine loop_inv [1, 26, 27, 28] 1 (fun m st => ∃ k : Nat, k + m = ws.length ∧ firstNZ (siWait r lg ws) k = 0 ∧
            st = ⟨mkE .top [(1, .ptr 0 0), (26, .list (ws.map cE)), (27, .int .i64 ws.length), (28, .int .i64 k)], [.box (cSi r lg ws)]⟩) ws.length (by simp [hx]) (by simp) ?_ ?_
          · refine ⟨0, by omega, rfl, ?_⟩
            simp [trim_mk, go_sem, Nat.reduceLT, Nat.reduceAdd, Nat.reduceEqDiff, Nat.reduceLeDiff, Nat.reduceSub, Nat.reduceMul, Int.reduceEq, eq_self, reduceIte, subHeap, renObj, pos, List.range_succ, cSi]
          · rintro m st ⟨k, hk, hz, rfl⟩
            by_cases hlt : k < ws.length
            · have hg : ws[k]? = some (nth ws k) := nth_get? _ _ hlt
              have wk := i64_up (k := k) (by omega)
              have fin : ∀ q : Int, siWait r lg ws k = q → q ≠ 0 → firstNZ (siWait r lg ws) ws.length = q := fun q h1 h2 => by rw [firstNZ_hit hz (by rw [h1]; exact h2) hlt, h1]
              simp only [go_sem, Nat.reduceLT, Nat.reduceAdd, Nat.reduceEqDiff, Nat.reduceLeDiff, Nat.reduceSub, Nat.reduceMul, Int.reduceEq, eq_self, reduceIte, hlt, hg, cE, cSi]
              refine ops_call (.pureE (check_meets (nth ws k)) (by simp [go_sem, Nat.reduceLT, Nat.reduceAdd, Nat.reduceEqDiff, Nat.reduceLeDiff, Nat.reduceSub, Nat.reduceMul, Int.reduceEq, eq_self, reduceIte, cE])) ?_
              by_cases h1 : checkEntry (nth ws k) = 0
              · have hfit := check_fit h1
                have hw1 : siWait r lg ws k = if siBad r lg ws k = true then 4 else 0 := by rw [siWait, if_neg (by simp [h1])]
                simp only [go_sem, Nat.reduceLT, Nat.reduceAdd, Nat.reduceEqDiff, Nat.reduceLeDiff, Nat.reduceSub, Nat.reduceMul, Int.reduceEq, eq_self, reduceIte, h1, cE, cSi]
                by_cases hk0 : (0 : Int) < (k : Int)
                · obtain ⟨k', rfl⟩ : ∃ k', k = k' + 1 := ⟨k - 1, by omega⟩
                  have hwd : IntKind.i64.wrap (((k' + 1 : Nat) : Int) - 1) = (k' : Int) := by rw [IntKind.wrap_i64]; omega
                  have hkl : k' < ws.length := by omega
                  have hg' : ws[k']? = some (nth ws k') := nth_get? _ _ hkl
                  simp only [go_sem, Nat.reduceLT, Nat.reduceAdd, Nat.reduceEqDiff, Nat.reduceLeDiff, Nat.reduceSub, Nat.reduceMul, Int.reduceEq, eq_self, reduceIte, hk0, hwd, hkl, hg', cE, cSi]
                  refine ops_call (.pureE (less_meets (nth ws k').id (nth ws (k' + 1)).id) (by simp [go_sem, Nat.reduceLT, Nat.reduceAdd, Nat.reduceEqDiff, Nat.reduceLeDiff, Nat.reduceSub, Nat.reduceMul, Int.reduceEq, eq_self, reduceIte, cId])) ?_
                  cases hle : lessB (nth ws k').id (nth ws (k' + 1)).id
                  · have hw2 : siWait r lg ws (k' + 1) = 4 := by rw [hw1, if_pos (by simp [siBad, hle])]
                    simp only [go_sem, Nat.reduceLT, Nat.reduceAdd, Nat.reduceEqDiff, Nat.reduceLeDiff, Nat.reduceSub, Nat.reduceMul, Int.reduceEq, eq_self, reduceIte]
                    repeat refine ⟨rfl, ?_⟩
                    refine ret_pure hx ?_
                    simp [go_sem, Nat.reduceLT, Nat.reduceAdd, Nat.reduceEqDiff, Nat.reduceLeDiff, Nat.reduceSub, Nat.reduceMul, Int.reduceEq, eq_self, reduceIte, L15, R15, fin 4 hw2 (by decide)]
                  · have hb1 : (decide (0 < k' + 1) && !lessB (nth ws (k' + 1 - 1)).id (nth ws (k' + 1)).id) = false := by simp [hle]
                    cases hd2 : decide ((nth ws (k' + 1)).id.r = r)
                    · simp only [go_sem, Nat.reduceLT, Nat.reduceAdd, Nat.reduceEqDiff, Nat.reduceLeDiff, Nat.reduceSub, Nat.reduceMul, Int.reduceEq, eq_self, reduceIte, hd2, cE, cSi]
                      refine ops_call (.pureE (find_meets lg (nth ws (k' + 1)).id hl) (by simp [go_sem, Nat.reduceLT, Nat.reduceAdd, Nat.reduceEqDiff, Nat.reduceLeDiff, Nat.reduceSub, Nat.reduceMul, Int.reduceEq, eq_self, reduceIte, cId])) ?_
                      by_cases h3 : 0 ≤ findE lg (nth ws (k' + 1)).id
                      · have hw2 : siWait r lg ws (k' + 1) = 4 := by rw [hw1, if_pos (by simp [siBad, h3])]
                        simp only [go_sem, Nat.reduceLT, Nat.reduceAdd, Nat.reduceEqDiff, Nat.reduceLeDiff, Nat.reduceSub, Nat.reduceMul, Int.reduceEq, eq_self, reduceIte, h3]
                        repeat refine ⟨rfl, ?_⟩
                        refine ret_pure hx ?_
                        simp [go_sem, Nat.reduceLT, Nat.reduceAdd, Nat.reduceEqDiff, Nat.reduceLeDiff, Nat.reduceSub, Nat.reduceMul, Int.reduceEq, eq_self, reduceIte, L15, R15, fin 4 hw2 (by decide)]
                      · simp only [go_sem, Nat.reduceLT, Nat.reduceAdd, Nat.reduceEqDiff, Nat.reduceLeDiff, Nat.reduceSub, Nat.reduceMul, Int.reduceEq, eq_self, reduceIte, h3, cE, cSi]
                        refine ops_call (.pureE (ready_meets lg (nth ws (k' + 1)) hok.reg (by omega) hfit.1 (by have := hfit.2; omega)) (by simp [go_sem, Nat.reduceLT, Nat.reduceAdd, Nat.reduceEqDiff, Nat.reduceLeDiff, Nat.reduceSub, Nat.reduceMul, Int.reduceEq, eq_self, reduceIte, cE])) ?_
                        cases h4 : readyB lg (nth ws (k' + 1))
                        · have hw2 : siWait r lg ws (k' + 1) = 0 := by rw [hw1, if_neg (by rw [siBad, hb1, hd2, h4]; simp [h3])]
                          simp only [go_sem, Nat.reduceLT, Nat.reduceAdd, Nat.reduceEqDiff, Nat.reduceLeDiff, Nat.reduceSub, Nat.reduceMul, Int.reduceEq, eq_self, reduceIte, wk]
                          repeat refine ⟨rfl, ?_⟩
                          refine ⟨by simp, m - 1, by omega, k' + 1 + 1, by omega, firstNZ_succ hz hw2, ?_⟩
                          simp [trim_mk, go_sem, Nat.reduceLT, Nat.reduceAdd, Nat.reduceEqDiff, Nat.reduceLeDiff, Nat.reduceSub, Nat.reduceMul, Int.reduceEq, eq_self, reduceIte, subHeap, renObj, pos, List.range_succ, cSi]
                        · have hw2 : siWait r lg ws (k' + 1) = 4 := by rw [hw1, if_pos (by simp [siBad, h4])]
                          simp only [go_sem, Nat.reduceLT, Nat.reduceAdd, Nat.reduceEqDiff, Nat.reduceLeDiff, Nat.reduceSub, Nat.reduceMul, Int.reduceEq, eq_self, reduceIte]
                          repeat refine ⟨rfl, ?_⟩
                          refine ret_pure hx ?_
                          simp [go_sem, Nat.reduceLT, Nat.reduceAdd, Nat.reduceEqDiff, Nat.reduceLeDiff, Nat.reduceSub, Nat.reduceMul, Int.reduceEq, eq_self, reduceIte, L15, R15, fin 4 hw2 (by decide)]
                    · have hw2 : siWait r lg ws (k' + 1) = 4 := by rw [hw1, if_pos (by simp [siBad, hd2])]
                      simp only [go_sem, Nat.reduceLT, Nat.reduceAdd, Nat.reduceEqDiff, Nat.reduceLeDiff, Nat.reduceSub, Nat.reduceMul, Int.reduceEq, eq_self, reduceIte, hd2]
                      repeat refine ⟨rfl, ?_⟩
                      refine ret_pure hx ?_
                      simp [go_sem, Nat.reduceLT, Nat.reduceAdd, Nat.reduceEqDiff, Nat.reduceLeDiff, Nat.reduceSub, Nat.reduceMul, Int.reduceEq, eq_self, reduceIte, L15, R15, fin 4 hw2 (by decide)]
                · have hkz : k = 0 := by omega
                  have hb1 : (decide (0 < k) && !lessB (nth ws (k - 1)).id (nth ws k).id) = false := by simp [hkz]
                  simp only [go_sem, Nat.reduceLT, Nat.reduceAdd, Nat.reduceEqDiff, Nat.reduceLeDiff, Nat.reduceSub, Nat.reduceMul, Int.reduceEq, eq_self, reduceIte, hk0, cE, cSi]
                  cases hd2 : decide ((nth ws (k)).id.r = r)
                  · simp only [go_sem, Nat.reduceLT, Nat.reduceAdd, Nat.reduceEqDiff, Nat.reduceLeDiff, Nat.reduceSub, Nat.reduceMul, Int.reduceEq, eq_self, reduceIte, hd2, cE, cSi]
                    refine ops_call (.pureE (find_meets lg (nth ws (k)).id hl) (by simp [go_sem, Nat.reduceLT, Nat.reduceAdd, Nat.reduceEqDiff, Nat.reduceLeDiff, Nat.reduceSub, Nat.reduceMul, Int.reduceEq, eq_self, reduceIte, cId])) ?_
                    by_cases h3 : 0 ≤ findE lg (nth ws (k)).id
                    · have hw2 : siWait r lg ws (k) = 4 := by rw [hw1, if_pos (by simp [siBad, h3])]
                      simp only [go_sem, Nat.reduceLT, Nat.reduceAdd, Nat.reduceEqDiff, Nat.reduceLeDiff, Nat.reduceSub, Nat.reduceMul, Int.reduceEq, eq_self, reduceIte, h3]
                      repeat refine ⟨rfl, ?_⟩
                      refine ret_pure hx ?_
                      simp [go_sem, Nat.reduceLT, Nat.reduceAdd, Nat.reduceEqDiff, Nat.reduceLeDiff, Nat.reduceSub, Nat.reduceMul, Int.reduceEq, eq_self, reduceIte, L15, R15, fin 4 hw2 (by decide)]
                    · simp only [go_sem, Nat.reduceLT, Nat.reduceAdd, Nat.reduceEqDiff, Nat.reduceLeDiff, Nat.reduceSub, Nat.reduceMul, Int.reduceEq, eq_self, reduceIte, h3, cE, cSi]
                      refine ops_call (.pureE (ready_meets lg (nth ws (k)) hok.reg (by omega) hfit.1 (by have := hfit.2; omega)) (by simp [go_sem, Nat.reduceLT, Nat.reduceAdd, Nat.reduceEqDiff, Nat.reduceLeDiff, Nat.reduceSub, Nat.reduceMul, Int.reduceEq, eq_self, reduceIte, cE])) ?_
                      cases h4 : readyB lg (nth ws (k))
                      · have hw2 : siWait r lg ws (k) = 0 := by rw [hw1, if_neg (by rw [siBad, hb1, hd2, h4]; simp [h3])]
                        simp only [go_sem, Nat.reduceLT, Nat.reduceAdd, Nat.reduceEqDiff, Nat.reduceLeDiff, Nat.reduceSub, Nat.reduceMul, Int.reduceEq, eq_self, reduceIte, wk]
                        repeat refine ⟨rfl, ?_⟩
                        refine ⟨by simp, m - 1, by omega, k + 1, by omega, firstNZ_succ hz hw2, ?_⟩
                        simp [trim_mk, go_sem, Nat.reduceLT, Nat.reduceAdd, Nat.reduceEqDiff, Nat.reduceLeDiff, Nat.reduceSub, Nat.reduceMul, Int.reduceEq, eq_self, reduceIte, subHeap, renObj, pos, List.range_succ, cSi]
                      · have hw2 : siWait r lg ws (k) = 4 := by rw [hw1, if_pos (by simp [siBad, h4])]
                        simp only [go_sem, Nat.reduceLT, Nat.reduceAdd, Nat.reduceEqDiff, Nat.reduceLeDiff, Nat.reduceSub, Nat.reduceMul, Int.reduceEq, eq_self, reduceIte]
                        repeat refine ⟨rfl, ?_⟩
                        refine ret_pure hx ?_
                        simp [go_sem, Nat.reduceLT, Nat.reduceAdd, Nat.reduceEqDiff, Nat.reduceLeDiff, Nat.reduceSub, Nat.reduceMul, Int.reduceEq, eq_self, reduceIte, L15, R15, fin 4 hw2 (by decide)]
                  · have hw2 : siWait r lg ws (k) = 4 := by rw [hw1, if_pos (by simp [siBad, hd2])]
                    simp only [go_sem, Nat.reduceLT, Nat.reduceAdd, Nat.reduceEqDiff, Nat.reduceLeDiff, Nat.reduceSub, Nat.reduceMul, Int.reduceEq, eq_self, reduceIte, hd2]
                    repeat refine ⟨rfl, ?_⟩
                    refine ret_pure hx ?_
                    simp [go_sem, Nat.reduceLT, Nat.reduceAdd, Nat.reduceEqDiff, Nat.reduceLeDiff, Nat.reduceSub, Nat.reduceMul, Int.reduceEq, eq_self, reduceIte, L15, R15, fin 4 hw2 (by decide)]
              · have hw1 : siWait r lg ws k = checkEntry (nth ws k) := by rw [siWait, if_pos h1]
                simp only [go_sem, Nat.reduceLT, Nat.reduceAdd, Nat.reduceEqDiff, Nat.reduceLeDiff, Nat.reduceSub, Nat.reduceMul, Int.reduceEq, eq_self, reduceIte, h1, cE, cSi]
                refine ret_pure hx ?_
                simp [go_sem, Nat.reduceLT, Nat.reduceAdd, Nat.reduceEqDiff, Nat.reduceLeDiff, Nat.reduceSub, Nat.reduceMul, Int.reduceEq, eq_self, reduceIte, L15, R15, fin _ hw1 h1]
            · obtain rfl : k = ws.length := by omega
              simp only [go_sem, Nat.reduceLT, Nat.reduceAdd, Nat.reduceEqDiff, Nat.reduceLeDiff, Nat.reduceSub, Nat.reduceMul, Int.reduceEq, eq_self, reduceIte, hlt]
              refine ret_pure hx ?_
              simp [go_sem, Nat.reduceLT, Nat.reduceAdd, Nat.reduceEqDiff, Nat.reduceLeDiff, Nat.reduceSub, Nat.reduceMul, Int.reduceEq, eq_self, reduceIte, L15, R15, hz]
      · have e : siErr r lg ws = checkLog lg := by rw [siErr, if_neg (by simp [hr]), if_pos hlog]
        simp only [go_sem, Nat.reduceLT, Nat.reduceAdd, Nat.reduceEqDiff, Nat.reduceLeDiff, Nat.reduceSub, Nat.reduceMul, Int.reduceEq, eq_self, reduceIte, hlog]
        refine ret_pure hx ?_
        simp [go_sem, Nat.reduceLT, Nat.reduceAdd, Nat.reduceEqDiff, Nat.reduceLeDiff, Nat.reduceSub, Nat.reduceMul, Int.reduceEq, eq_self, reduceIte, L15, R15, e]
    · have hd1 : decide (r = 1) = false := by simp [h1]
      have e : siErr r lg ws = 3 := by rw [siErr, if_pos (by omega)]
      simp only [go_sem, Nat.reduceLT, Nat.reduceAdd, Nat.reduceEqDiff, Nat.reduceLeDiff, Nat.reduceSub, Nat.reduceMul, Int.reduceEq, eq_self, reduceIte, hd0, hd1, cSi]
      refine ret_pure hx ?_
      simp [go_sem, Nat.reduceLT, Nat.reduceAdd, Nat.reduceEqDiff, Nat.reduceLeDiff, Nat.reduceSub, Nat.reduceMul, Int.reduceEq, eq_self, reduceIte, L15, R15, e]
end Go.Proofs.Ytiandbolipoebaa
/- Sites: Append: contracts. -/
namespace Go.Proofs.Ytiandbolipoebaa
set_option linter.unusedSimpArgs false
set_option linter.unusedVariables false
open Go.RowKit
/-- what is appended -/
def apE (r : Int) (lg : List Entry) (c : Int) (t : ByteArray) : Entry := ⟨⟨r, (cntR lg r : Int) + 1⟩, c, t, sortI (headsC lg c)⟩
def zE : Entry := ⟨⟨0, 0⟩, 0, ⟨#[]⟩, []⟩
def apErr (r : Int) (lg : List Entry) (c : Int) (t : ByteArray) : Int :=
  if wthn c 1 7 = false then 3 else if 12 < t.size ∨ (20 : Int) < (cntR lg r : Int) + 1 ∨ lg.length = 40 ∨ 6 < (sortI (headsC lg c)).length then 2 else 0
/-- what AppendOf and appended answer, of a right site -/
def apSi (r : Int) (lg ws : List Entry) (c : Int) (t : ByteArray) : Int × List Entry × List Entry := if apErr r lg c t = 0 then (r, settled (lg ++ [apE r lg c t]) ws) else (0, [], [])
def apEn (r : Int) (lg : List Entry) (c : Int) (t : ByteArray) : Entry := if apErr r lg c t = 0 then apE r lg c t else zE
def cSi3 (s : Int × List Entry × List Entry) : List PV := cSi s.1 s.2.1 s.2.2
theorem headsC_len (lg : List Entry) (c : Int) : (sortI (headsC lg c)).length ≤ lg.length := by
  unfold sortI headsC
  rw [List.length_mergeSort, List.length_map]
  refine Nat.le_trans (List.length_filter_le ..) ?_
  unfold withC
  exact List.length_filter_le ..
theorem ap_fit {r : Int} {lg : List Entry} {c : Int} {t : ByteArray} (hr : r = 0 ∨ r = 1) (h : lg.length ≤ 40) : ((apE r lg c t).id.r = 0 ∨ (apE r lg c t).id.r = 1) ∧ (apE r lg c t).ls.length ≤ 1000000 := by
  have := headsC_len lg c
  exact ⟨hr, by show (sortI (headsC lg c)).length ≤ _; omega⟩
set_option maxHeartbeats 4000000 in
theorem appended_meets (r : Int) (lg ws : List Entry) (c : Int) (t : ByteArray) (hr : r = 0 ∨ r = 1) (h : LogOk lg) (hw : ws.length ≤ 20) (hf : fitE ws) :
    Meets Try.prog 25 [.agg (cSi r lg ws), .int .i64 c, .str t] [] (.tup [.agg (cSi3 (apSi r lg ws c t)), .agg (cE (apEn r lg c t)), .int .i64 (apErr r lg c t)]) [] := by
  have hlen := h.len
  refine Meets.of_walk Try.func25 Try.ntmps25 low25 res25 (by simp) fun x hx => ?_
  simp only [go_sem, Nat.reduceLT, Nat.reduceAdd, Nat.reduceEqDiff, Nat.reduceLeDiff, Nat.reduceSub, Nat.reduceMul, Int.reduceEq, eq_self, reduceIte, L25, R25, cSi]
  refine ops_call (.pureE (colors_meets c) (by simp [go_sem, Nat.reduceLT, Nat.reduceAdd, Nat.reduceEqDiff, Nat.reduceLeDiff, Nat.reduceSub, Nat.reduceMul, Int.reduceEq, eq_self, reduceIte])) ?_
  cases hc : wthn c 1 7
  · have e : apErr r lg c t = 3 := by rw [apErr, if_pos hc]
    simp only [go_sem, Nat.reduceLT, Nat.reduceAdd, Nat.reduceEqDiff, Nat.reduceLeDiff, Nat.reduceSub, Nat.reduceMul, Int.reduceEq, eq_self, reduceIte]
    refine ret_pure hx ?_
    simp [go_sem, Nat.reduceLT, Nat.reduceAdd, Nat.reduceEqDiff, Nat.reduceLeDiff, Nat.reduceSub, Nat.reduceMul, Int.reduceEq, eq_self, reduceIte, L25, R25, apSi, apEn, e, cSi3, cSi, cE, zE]
  · have e0 : apErr r lg c t = if 12 < t.size ∨ (20 : Int) < (cntR lg r : Int) + 1 ∨ lg.length = 40 ∨ 6 < (sortI (headsC lg c)).length then 2 else 0 := by rw [apErr, if_neg (by simp [hc])]
    rcases hr with rfl | rfl
    · skip
      have hcn : IntKind.i64.wrap ((cntR lg 0 : Int) + 1) = (cntR lg 0 : Int) + 1 := by have := cntR_le lg 0; rw [IntWalk.i64_in _ (by omega)]
      simp only [go_sem, Nat.reduceLT, Nat.reduceAdd, Nat.reduceEqDiff, Nat.reduceLeDiff, Nat.reduceSub, Nat.reduceMul, Int.reduceEq, eq_self, reduceIte, cSi]
      refine ops_call (.pureE (many_meets lg h.reg (by omega)) (by simp [go_sem, Nat.reduceLT, Nat.reduceAdd, Nat.reduceEqDiff, Nat.reduceLeDiff, Nat.reduceSub, Nat.reduceMul, Int.reduceEq, eq_self, reduceIte])) ?_
      simp only [go_sem, Nat.reduceLT, Nat.reduceAdd, Nat.reduceEqDiff, Nat.reduceLeDiff, Nat.reduceSub, Nat.reduceMul, Int.reduceEq, eq_self, reduceIte, cSi, Int.ofNat_zero, Int.natCast_one, Int.cast_ofNat_Int, Int.reduceLT, Int.reduceLE, Int.reduceToNat, Nat.reduceLT, Int.toNat_zero, Int.natCast_zero, Int.le_refl, Int.lt_irrefl, Int.reduceAdd, frz, false_or, or_true, hcn]
      repeat refine ⟨rfl, ?_⟩
      refine ops_call (.pureE (top_meets lg c h hc) (by simp [go_sem, Nat.reduceLT, Nat.reduceAdd, Nat.reduceEqDiff, Nat.reduceLeDiff, Nat.reduceSub, Nat.reduceMul, Int.reduceEq, eq_self, reduceIte])) ?_
      simp only [go_sem, Nat.reduceLT, Nat.reduceAdd, Nat.reduceEqDiff, Nat.reduceLeDiff, Nat.reduceSub, Nat.reduceMul, Int.reduceEq, eq_self, reduceIte, cSi]
      repeat refine ⟨rfl, ?_⟩
      by_cases d1 : (12 : Int) < (t.size : Int)
      · have e : apErr 0 lg c t = 2 := by rw [e0, if_pos (by omega)]
        simp only [go_sem, Nat.reduceLT, Nat.reduceAdd, Nat.reduceEqDiff, Nat.reduceLeDiff, Nat.reduceSub, Nat.reduceMul, Int.reduceEq, eq_self, reduceIte, d1]
        refine ret_pure hx ?_
        simp [go_sem, Nat.reduceLT, Nat.reduceAdd, Nat.reduceEqDiff, Nat.reduceLeDiff, Nat.reduceSub, Nat.reduceMul, Int.reduceEq, eq_self, reduceIte, L25, R25, apSi, apEn, e, cSi3, cSi, cE, zE]
      · by_cases d2 : (20 : Int) < (cntR lg 0 : Int) + 1
        · have e : apErr 0 lg c t = 2 := by rw [e0, if_pos (by omega)]
          simp only [go_sem, Nat.reduceLT, Nat.reduceAdd, Nat.reduceEqDiff, Nat.reduceLeDiff, Nat.reduceSub, Nat.reduceMul, Int.reduceEq, eq_self, reduceIte, d1, d2]
          refine ret_pure hx ?_
          simp [go_sem, Nat.reduceLT, Nat.reduceAdd, Nat.reduceEqDiff, Nat.reduceLeDiff, Nat.reduceSub, Nat.reduceMul, Int.reduceEq, eq_self, reduceIte, L25, R25, apSi, apEn, e, cSi3, cSi, cE, zE]
        · by_cases d3 : (lg.length : Int) = 40
          · have e : apErr 0 lg c t = 2 := by rw [e0, if_pos (by omega)]
            simp only [go_sem, Nat.reduceLT, Nat.reduceAdd, Nat.reduceEqDiff, Nat.reduceLeDiff, Nat.reduceSub, Nat.reduceMul, Int.reduceEq, eq_self, reduceIte, d1, d2, d3, cSi]
            refine ret_pure hx ?_
            simp [go_sem, Nat.reduceLT, Nat.reduceAdd, Nat.reduceEqDiff, Nat.reduceLeDiff, Nat.reduceSub, Nat.reduceMul, Int.reduceEq, eq_self, reduceIte, L25, R25, apSi, apEn, e, cSi3, cSi, cE, zE]
          · by_cases d4 : (6 : Int) < ((sortI (headsC lg c)).length : Int)
            · have e : apErr 0 lg c t = 2 := by rw [e0, if_pos (by omega)]
              simp only [go_sem, Nat.reduceLT, Nat.reduceAdd, Nat.reduceEqDiff, Nat.reduceLeDiff, Nat.reduceSub, Nat.reduceMul, Int.reduceEq, eq_self, reduceIte, d1, d2, d3, d4, cSi]
              refine ret_pure hx ?_
              simp [go_sem, Nat.reduceLT, Nat.reduceAdd, Nat.reduceEqDiff, Nat.reduceLeDiff, Nat.reduceSub, Nat.reduceMul, Int.reduceEq, eq_self, reduceIte, L25, R25, apSi, apEn, e, cSi3, cSi, cE, zE]
            · have e : apErr 0 lg c t = 0 := by rw [e0, if_neg (by omega)]
              have hfl := log_fit h
              have hae : fitE (lg ++ [apE 0 lg c t]) := fit_app hfl (ap_fit (by decide) hlen)
              have hsl := settled_sum (lg ++ [apE 0 lg c t]) ws
              rw [List.length_append, List.length_cons, List.length_nil] at hsl
              simp only [go_sem, Nat.reduceLT, Nat.reduceAdd, Nat.reduceEqDiff, Nat.reduceLeDiff, Nat.reduceSub, Nat.reduceMul, Int.reduceEq, eq_self, reduceIte, d1, d2, d3, d4, cSi]
              refine ops_call (.heapE [] (r' := .agg [.int .i64 0, .arr 4 lg.length, .arr 5 ws.length]) (H' := [.box (cSi 0 lg ws), .box [.int .i64 0, .nilsl, .nilsl], .box [.int .i64 0, .int .i64 0, .int .i64 0, .str ⟨#[]⟩, .nilsl], .box (cE (apE 0 lg c t)), .arr lg.length true false 29 5 (lg.map cE), .arr ws.length true false 29 5 (ws.map cE)]) (siOwn_meets 0 lg ws (by omega) (by omega) hfl hf) (by simp) (by simp) (by simp [go_sem, Nat.reduceLT, Nat.reduceAdd, Nat.reduceEqDiff, Nat.reduceLeDiff, Nat.reduceSub, Nat.reduceMul, Int.reduceEq, eq_self, reduceIte, cSi]) rfl rfl rfl) ?_
              simp only [go_sem, Nat.reduceLT, Nat.reduceAdd, Nat.reduceEqDiff, Nat.reduceLeDiff, Nat.reduceSub, Nat.reduceMul, Int.reduceEq, eq_self, reduceIte, cSi, cE]
              rw [app_arr rfl rfl (by simp) (by simp; omega)]
              have hce : List.map cE lg ++ [[PV.int .i64 (apE 0 lg c t).id.r, .int .i64 (apE 0 lg c t).id.n, .int .i64 (apE 0 lg c t).c, .str (apE 0 lg c t).t, .list ((apE 0 lg c t).ls.map cId)]] = (lg ++ [apE 0 lg c t]).map cE := by simp [cE]
              simp only [go_sem, Nat.reduceLT, Nat.reduceAdd, Nat.reduceEqDiff, Nat.reduceLeDiff, Nat.reduceSub, Nat.reduceMul, Int.reduceEq, eq_self, reduceIte, hce]
              repeat refine ⟨rfl, ?_⟩
              have hst := settle_meets (lg.length + 1) ws.length 0 (lg ++ [apE 0 lg c t]) ws (by simp; omega) hae hf
              generalize ws.length - (settled (lg ++ [apE 0 lg c t]) ws).2.length = k at hst
              refine ops_call (.heapE [6, 4, 5] (r' := .tup []) (H' := [.box (cSi 0 lg ws), .box [.int .i64 0, .nilsl, .nilsl], .box [.int .i64 0, .int .i64 0, .int .i64 0, .str ⟨#[]⟩, .nilsl], .box (cE (apE 0 lg c t)), .arr (lg.length + 1 + k) true false 29 5 ((settled (lg ++ [apE 0 lg c t]) ws).1.map cE), .arr (ws.length + k) true false 29 5 ((settled (lg ++ [apE 0 lg c t]) ws).2.map cE), .box [.int .i64 0, .arr 4 (lg.length + 1 + k), .arr 5 (ws.length + k)]]) hst (by decide) (by simp) (by simp [go_sem, Nat.reduceLT, Nat.reduceAdd, Nat.reduceEqDiff, Nat.reduceLeDiff, Nat.reduceSub, Nat.reduceMul, Int.reduceEq, eq_self, reduceIte, pos]) rfl rfl rfl) ?_
              simp only [go_sem, Nat.reduceLT, Nat.reduceAdd, Nat.reduceEqDiff, Nat.reduceLeDiff, Nat.reduceSub, Nat.reduceMul, Int.reduceEq, eq_self, reduceIte, cSi, cE]
              refine ops_call (.pureE (entOwn_meets (apE 0 lg c t) (ap_fit (by decide) hlen).2) (by simp [go_sem, Nat.reduceLT, Nat.reduceAdd, Nat.reduceEqDiff, Nat.reduceLeDiff, Nat.reduceSub, Nat.reduceMul, Int.reduceEq, eq_self, reduceIte, cE])) ?_
              simp only [go_sem, Nat.reduceLT, Nat.reduceAdd, Nat.reduceEqDiff, Nat.reduceLeDiff, Nat.reduceSub, Nat.reduceMul, Int.reduceEq, eq_self, reduceIte, cSi, cE]
              repeat refine ⟨rfl, ?_⟩
              refine ret_pure hx ?_
              simp [go_sem, Nat.reduceLT, Nat.reduceAdd, Nat.reduceEqDiff, Nat.reduceLeDiff, Nat.reduceSub, Nat.reduceMul, Int.reduceEq, eq_self, reduceIte, L25, R25, apSi, apEn, e, cSi3, cSi, cE, frzAt, pos]
    · skip
      have hcn : IntKind.i64.wrap ((cntR lg 1 : Int) + 1) = (cntR lg 1 : Int) + 1 := by have := cntR_le lg 1; rw [IntWalk.i64_in _ (by omega)]
      simp only [go_sem, Nat.reduceLT, Nat.reduceAdd, Nat.reduceEqDiff, Nat.reduceLeDiff, Nat.reduceSub, Nat.reduceMul, Int.reduceEq, eq_self, reduceIte, cSi]
      refine ops_call (.pureE (many_meets lg h.reg (by omega)) (by simp [go_sem, Nat.reduceLT, Nat.reduceAdd, Nat.reduceEqDiff, Nat.reduceLeDiff, Nat.reduceSub, Nat.reduceMul, Int.reduceEq, eq_self, reduceIte])) ?_
      simp only [go_sem, Nat.reduceLT, Nat.reduceAdd, Nat.reduceEqDiff, Nat.reduceLeDiff, Nat.reduceSub, Nat.reduceMul, Int.reduceEq, eq_self, reduceIte, cSi, Int.ofNat_zero, Int.natCast_one, Int.cast_ofNat_Int, Int.reduceLT, Int.reduceLE, Int.reduceToNat, Nat.reduceLT, Int.toNat_zero, Int.natCast_zero, Int.le_refl, Int.lt_irrefl, Int.reduceAdd, frz, false_or, or_true, hcn]
      repeat refine ⟨rfl, ?_⟩
      refine ops_call (.pureE (top_meets lg c h hc) (by simp [go_sem, Nat.reduceLT, Nat.reduceAdd, Nat.reduceEqDiff, Nat.reduceLeDiff, Nat.reduceSub, Nat.reduceMul, Int.reduceEq, eq_self, reduceIte])) ?_
      simp only [go_sem, Nat.reduceLT, Nat.reduceAdd, Nat.reduceEqDiff, Nat.reduceLeDiff, Nat.reduceSub, Nat.reduceMul, Int.reduceEq, eq_self, reduceIte, cSi]
      repeat refine ⟨rfl, ?_⟩
      by_cases d1 : (12 : Int) < (t.size : Int)
      · have e : apErr 1 lg c t = 2 := by rw [e0, if_pos (by omega)]
        simp only [go_sem, Nat.reduceLT, Nat.reduceAdd, Nat.reduceEqDiff, Nat.reduceLeDiff, Nat.reduceSub, Nat.reduceMul, Int.reduceEq, eq_self, reduceIte, d1]
        refine ret_pure hx ?_
        simp [go_sem, Nat.reduceLT, Nat.reduceAdd, Nat.reduceEqDiff, Nat.reduceLeDiff, Nat.reduceSub, Nat.reduceMul, Int.reduceEq, eq_self, reduceIte, L25, R25, apSi, apEn, e, cSi3, cSi, cE, zE]
      · by_cases d2 : (20 : Int) < (cntR lg 1 : Int) + 1
        · have e : apErr 1 lg c t = 2 := by rw [e0, if_pos (by omega)]
          simp only [go_sem, Nat.reduceLT, Nat.reduceAdd, Nat.reduceEqDiff, Nat.reduceLeDiff, Nat.reduceSub, Nat.reduceMul, Int.reduceEq, eq_self, reduceIte, d1, d2]
          refine ret_pure hx ?_
          simp [go_sem, Nat.reduceLT, Nat.reduceAdd, Nat.reduceEqDiff, Nat.reduceLeDiff, Nat.reduceSub, Nat.reduceMul, Int.reduceEq, eq_self, reduceIte, L25, R25, apSi, apEn, e, cSi3, cSi, cE, zE]
        · by_cases d3 : (lg.length : Int) = 40
          · have e : apErr 1 lg c t = 2 := by rw [e0, if_pos (by omega)]
            simp only [go_sem, Nat.reduceLT, Nat.reduceAdd, Nat.reduceEqDiff, Nat.reduceLeDiff, Nat.reduceSub, Nat.reduceMul, Int.reduceEq, eq_self, reduceIte, d1, d2, d3, cSi]
            refine ret_pure hx ?_
            simp [go_sem, Nat.reduceLT, Nat.reduceAdd, Nat.reduceEqDiff, Nat.reduceLeDiff, Nat.reduceSub, Nat.reduceMul, Int.reduceEq, eq_self, reduceIte, L25, R25, apSi, apEn, e, cSi3, cSi, cE, zE]
          · by_cases d4 : (6 : Int) < ((sortI (headsC lg c)).length : Int)
            · have e : apErr 1 lg c t = 2 := by rw [e0, if_pos (by omega)]
              simp only [go_sem, Nat.reduceLT, Nat.reduceAdd, Nat.reduceEqDiff, Nat.reduceLeDiff, Nat.reduceSub, Nat.reduceMul, Int.reduceEq, eq_self, reduceIte, d1, d2, d3, d4, cSi]
              refine ret_pure hx ?_
              simp [go_sem, Nat.reduceLT, Nat.reduceAdd, Nat.reduceEqDiff, Nat.reduceLeDiff, Nat.reduceSub, Nat.reduceMul, Int.reduceEq, eq_self, reduceIte, L25, R25, apSi, apEn, e, cSi3, cSi, cE, zE]
            · have e : apErr 1 lg c t = 0 := by rw [e0, if_neg (by omega)]
              have hfl := log_fit h
              have hae : fitE (lg ++ [apE 1 lg c t]) := fit_app hfl (ap_fit (by decide) hlen)
              have hsl := settled_sum (lg ++ [apE 1 lg c t]) ws
              rw [List.length_append, List.length_cons, List.length_nil] at hsl
              simp only [go_sem, Nat.reduceLT, Nat.reduceAdd, Nat.reduceEqDiff, Nat.reduceLeDiff, Nat.reduceSub, Nat.reduceMul, Int.reduceEq, eq_self, reduceIte, d1, d2, d3, d4, cSi]
              refine ops_call (.heapE [] (r' := .agg [.int .i64 1, .arr 4 lg.length, .arr 5 ws.length]) (H' := [.box (cSi 1 lg ws), .box [.int .i64 0, .nilsl, .nilsl], .box [.int .i64 0, .int .i64 0, .int .i64 0, .str ⟨#[]⟩, .nilsl], .box (cE (apE 1 lg c t)), .arr lg.length true false 29 5 (lg.map cE), .arr ws.length true false 29 5 (ws.map cE)]) (siOwn_meets 1 lg ws (by omega) (by omega) hfl hf) (by simp) (by simp) (by simp [go_sem, Nat.reduceLT, Nat.reduceAdd, Nat.reduceEqDiff, Nat.reduceLeDiff, Nat.reduceSub, Nat.reduceMul, Int.reduceEq, eq_self, reduceIte, cSi]) rfl rfl rfl) ?_
              simp only [go_sem, Nat.reduceLT, Nat.reduceAdd, Nat.reduceEqDiff, Nat.reduceLeDiff, Nat.reduceSub, Nat.reduceMul, Int.reduceEq, eq_self, reduceIte, cSi, cE]
              rw [app_arr rfl rfl (by simp) (by simp; omega)]
              have hce : List.map cE lg ++ [[PV.int .i64 (apE 1 lg c t).id.r, .int .i64 (apE 1 lg c t).id.n, .int .i64 (apE 1 lg c t).c, .str (apE 1 lg c t).t, .list ((apE 1 lg c t).ls.map cId)]] = (lg ++ [apE 1 lg c t]).map cE := by simp [cE]
              simp only [go_sem, Nat.reduceLT, Nat.reduceAdd, Nat.reduceEqDiff, Nat.reduceLeDiff, Nat.reduceSub, Nat.reduceMul, Int.reduceEq, eq_self, reduceIte, hce]
              repeat refine ⟨rfl, ?_⟩
              have hst := settle_meets (lg.length + 1) ws.length 1 (lg ++ [apE 1 lg c t]) ws (by simp; omega) hae hf
              generalize ws.length - (settled (lg ++ [apE 1 lg c t]) ws).2.length = k at hst
              refine ops_call (.heapE [6, 4, 5] (r' := .tup []) (H' := [.box (cSi 1 lg ws), .box [.int .i64 0, .nilsl, .nilsl], .box [.int .i64 0, .int .i64 0, .int .i64 0, .str ⟨#[]⟩, .nilsl], .box (cE (apE 1 lg c t)), .arr (lg.length + 1 + k) true false 29 5 ((settled (lg ++ [apE 1 lg c t]) ws).1.map cE), .arr (ws.length + k) true false 29 5 ((settled (lg ++ [apE 1 lg c t]) ws).2.map cE), .box [.int .i64 1, .arr 4 (lg.length + 1 + k), .arr 5 (ws.length + k)]]) hst (by decide) (by simp) (by simp [go_sem, Nat.reduceLT, Nat.reduceAdd, Nat.reduceEqDiff, Nat.reduceLeDiff, Nat.reduceSub, Nat.reduceMul, Int.reduceEq, eq_self, reduceIte, pos]) rfl rfl rfl) ?_
              simp only [go_sem, Nat.reduceLT, Nat.reduceAdd, Nat.reduceEqDiff, Nat.reduceLeDiff, Nat.reduceSub, Nat.reduceMul, Int.reduceEq, eq_self, reduceIte, cSi, cE]
              refine ops_call (.pureE (entOwn_meets (apE 1 lg c t) (ap_fit (by decide) hlen).2) (by simp [go_sem, Nat.reduceLT, Nat.reduceAdd, Nat.reduceEqDiff, Nat.reduceLeDiff, Nat.reduceSub, Nat.reduceMul, Int.reduceEq, eq_self, reduceIte, cE])) ?_
              simp only [go_sem, Nat.reduceLT, Nat.reduceAdd, Nat.reduceEqDiff, Nat.reduceLeDiff, Nat.reduceSub, Nat.reduceMul, Int.reduceEq, eq_self, reduceIte, cSi, cE]
              repeat refine ⟨rfl, ?_⟩
              refine ret_pure hx ?_
              simp [go_sem, Nat.reduceLT, Nat.reduceAdd, Nat.reduceEqDiff, Nat.reduceLeDiff, Nat.reduceSub, Nat.reduceMul, Int.reduceEq, eq_self, reduceIte, L25, R25, apSi, apEn, e, cSi3, cSi, cE, frzAt, pos]
/-- what Append answers -/
def apErrX (r : Int) (lg ws : List Entry) (c : Int) (t : ByteArray) : Int := if siErr r lg ws ≠ 0 then siErr r lg ws else apErr r lg c t
def apSiX (r : Int) (lg ws : List Entry) (c : Int) (t : ByteArray) : Int × List Entry × List Entry := if siErr r lg ws ≠ 0 then (0, [], []) else apSi r lg ws c t
def apEnX (r : Int) (lg ws : List Entry) (c : Int) (t : ByteArray) : Entry := if siErr r lg ws ≠ 0 then zE else apEn r lg c t
theorem siAppend_meets (r : Int) (lg ws : List Entry) (c : Int) (t : ByteArray) (hl : lg.length ≤ 9223372036854775806) (hw : ws.length ≤ 9223372036854775806) :
    Meets Try.prog 8 [.agg (cSi r lg ws), .int .i64 c, .str t] [] (.tup [.agg (cSi3 (apSiX r lg ws c t)), .agg (cE (apEnX r lg ws c t)), .int .i64 (apErrX r lg ws c t)]) [] := by
  refine Meets.of_walk Try.func8 Try.ntmps8 low8 res8 (by simp) fun x hx => ?_
  simp only [go_sem, Nat.reduceLT, Nat.reduceAdd, Nat.reduceEqDiff, Nat.reduceLeDiff, Nat.reduceSub, Nat.reduceMul, Int.reduceEq, eq_self, reduceIte, L8, R8, cSi]
  refine ops_call (.pureE (siCheck_meets r lg ws hl hw) (by simp [go_sem, Nat.reduceLT, Nat.reduceAdd, Nat.reduceEqDiff, Nat.reduceLeDiff, Nat.reduceSub, Nat.reduceMul, Int.reduceEq, eq_self, reduceIte, cSi])) ?_
  by_cases h0 : siErr r lg ws = 0
  · obtain ⟨hr, hok, hw20, hch⟩ := siErr_ok h0
    simp only [go_sem, Nat.reduceLT, Nat.reduceAdd, Nat.reduceEqDiff, Nat.reduceLeDiff, Nat.reduceSub, Nat.reduceMul, Int.reduceEq, eq_self, reduceIte, h0, cSi]
    refine ops_call (.pureE (appended_meets r lg ws c t hr hok hw20 (waits_fit fun k hk => (hch k hk).1)) (by simp [go_sem, Nat.reduceLT, Nat.reduceAdd, Nat.reduceEqDiff, Nat.reduceLeDiff, Nat.reduceSub, Nat.reduceMul, Int.reduceEq, eq_self, reduceIte, cSi])) ?_
    simp only [go_sem, Nat.reduceLT, Nat.reduceAdd, Nat.reduceEqDiff, Nat.reduceLeDiff, Nat.reduceSub, Nat.reduceMul, Int.reduceEq, eq_self, reduceIte, cSi3, cSi, cE]
    refine ret_pure hx ?_
    simp [go_sem, Nat.reduceLT, Nat.reduceAdd, Nat.reduceEqDiff, Nat.reduceLeDiff, Nat.reduceSub, Nat.reduceMul, Int.reduceEq, eq_self, reduceIte, L8, R8, apSiX, apEnX, apErrX, h0, cSi3, cSi, cE]
  · simp only [go_sem, Nat.reduceLT, Nat.reduceAdd, Nat.reduceEqDiff, Nat.reduceLeDiff, Nat.reduceSub, Nat.reduceMul, Int.reduceEq, eq_self, reduceIte, h0, cSi]
    refine ret_pure hx ?_
    simp [go_sem, Nat.reduceLT, Nat.reduceAdd, Nat.reduceEqDiff, Nat.reduceLeDiff, Nat.reduceSub, Nat.reduceMul, Int.reduceEq, eq_self, reduceIte, L8, R8, apSiX, apEnX, apErrX, h0, cSi3, cSi, cE, zE]
end Go.Proofs.Ytiandbolipoebaa
/- Sites: Receive: contracts. -/
namespace Go.Proofs.Ytiandbolipoebaa
set_option linter.unusedSimpArgs false
set_option linter.unusedVariables false
open Go.RowKit
theorem lessB_irr (a : Id) : lessB a a = false := by simp [lessB]
theorem lessB_asym {a b : Id} (h : lessB a b = true) : lessB b a = false := by
  rw [← Bool.not_eq_true]
  intro h2
  have := lessB_trans h h2
  rw [lessB_irr] at this; cases this
theorem idEq_of {a b : Id} (h1 : lessB a b = false) (h2 : lessB b a = false) : a = b := by
  simp only [lessB, decide_eq_false_iff_not] at *
  cases a; cases b
  simp only [Id.mk.injEq] at *
  omega
/-- entries that rise -/
def upE (ws : List Entry) : Prop := ∀ i j, i < j → j < ws.length → lessB (nth ws i).id (nth ws j).id = true
theorem upE_of {ws : List Entry} (h : ∀ k, k + 1 < ws.length → lessB (nth ws k).id (nth ws (k + 1)).id = true) : upE ws := by
  intro i j hij hj
  have key : ∀ d, i + d + 1 < ws.length → lessB (nth ws i).id (nth ws (i + d + 1)).id = true := by
    intro d
    induction d with
    | zero => intro hd; exact h i hd
    | succ d ih => intro hd; exact lessB_trans (ih (by omega)) (h (i + d + 1) hd)
  have := key (j - i - 1) (by omega)
  rwa [show i + (j - i - 1) + 1 = j by omega] at this
theorem siErr_up {r : Int} {lg ws : List Entry} (h : siErr r lg ws = 0) : upE ws := by
  obtain ⟨-, -, -, hc⟩ := siErr_ok h
  refine upE_of fun k hk => ?_
  have := (hc (k + 1) hk).2
  unfold siBad at this
  simp only [Bool.or_eq_false_iff, Nat.add_sub_cancel] at this
  have h2 := this.1.1.1
  simpa using h2
/-- how many stand ahead of an id; does it stand there? -/
def posE (l : List Entry) (y : Id) : Nat := l.countP fun e => lessB e.id y
def foundE (l : List Entry) (y : Id) : Bool := l.any fun e => decide (e.id = y)
theorem posE_at {l : List Entry} {y : Id} {i : Nat} (hi : i ≤ l.length) (h1 : ∀ k, k < i → lessB (nth l k).id y = true) (h2 : ∀ k, i ≤ k → k < l.length → lessB (nth l k).id y = false) : posE l y = i := by
  unfold posE
  conv => lhs; rw [← List.take_append_drop i l]
  rw [List.countP_append]
  have a : (l.take i).countP (fun e => lessB e.id y) = (l.take i).length := by
    rw [List.countP_eq_length]
    intro w hw
    obtain ⟨k, hk, rfl⟩ := List.getElem_of_mem hw
    rw [List.length_take] at hk
    have := h1 k (by omega)
    rw [nth_eq _ _ (by omega)] at this
    simpa using this
  have b : (l.drop i).countP (fun e => lessB e.id y) = 0 := by
    rw [List.countP_eq_zero]
    intro w hw
    obtain ⟨k, hk, rfl⟩ := List.getElem_of_mem hw
    rw [List.length_drop] at hk
    have := h2 (i + k) (by omega) (by omega)
    rw [nth_eq _ _ (by omega)] at this
    simpa using this
  rw [a, b, List.length_take]; omega
theorem foundE_at {l : List Entry} {y : Id} (hu : upE l) {i : Nat} (hi : i ≤ l.length) (h1 : ∀ k, k < i → lessB (nth l k).id y = true) (h2 : ∀ k, i ≤ k → k < l.length → lessB (nth l k).id y = false) : foundE l y = decide (i < l.length ∧ (nth l i).id = y) := by
  rw [Bool.eq_iff_iff, decide_eq_true_eq]
  unfold foundE
  rw [List.any_eq_true]
  constructor
  · rintro ⟨w, hw, hn⟩
    obtain ⟨k, hk, rfl⟩ := List.getElem_of_mem hw
    rw [← nth_eq _ _ hk, decide_eq_true_eq] at hn
    by_cases h : k < i
    · have := h1 k h; rw [hn, lessB_irr] at this; cases this
    · by_cases e : k = i
      · subst e; exact ⟨hk, hn⟩
      · have a := hu i k (by omega) hk
        have b := h2 i (Nat.le_refl _) (by omega)
        rw [hn] at a; rw [a] at b; cases b
  · rintro ⟨a, b⟩
    exact ⟨_, nthM a, by simpa using b⟩
theorem posE_le (l : List Entry) (y : Id) : posE l y ≤ l.length := by unfold posE; exact List.countP_le_length
theorem ordI_zero {a b : Id} : ordI a b = 0 ↔ a = b := by
  cases a; cases b
  simp only [ordI, cmpI, Id.mk.injEq]
  repeat' split
  all_goals omega
theorem raw1_meets (e : Entry) (y : Id) : Meets Try.prog 57 [.agg (cE e), .agg (cId y)] [] (.int .i64 (ordI e.id y)) [] := by
  refine Meets.of_walk Try.func57 Try.ntmps57 low57 res57 (by simp) fun x hx => ?_
  simp only [go_sem, Nat.reduceLT, Nat.reduceAdd, Nat.reduceEqDiff, Nat.reduceLeDiff, Nat.reduceSub, Nat.reduceMul, Int.reduceEq, eq_self, reduceIte, L57, R57, cE, cId]
  refine ops_call (.pureE (order_meets e.id y) (by simp [go_sem, Nat.reduceLT, Nat.reduceAdd, Nat.reduceEqDiff, Nat.reduceLeDiff, Nat.reduceSub, Nat.reduceMul, Int.reduceEq, eq_self, reduceIte, cId])) ?_
  simp only [go_sem, Nat.reduceLT, Nat.reduceAdd, Nat.reduceEqDiff, Nat.reduceLeDiff, Nat.reduceSub, Nat.reduceMul, Int.reduceEq, eq_self, reduceIte]
  refine ret_pure hx ?_
  simp [go_sem, Nat.reduceLT, Nat.reduceAdd, Nat.reduceEqDiff, Nat.reduceLeDiff, Nat.reduceSub, Nat.reduceMul, Int.reduceEq, eq_self, reduceIte, L57, R57]
set_option maxHeartbeats 1000000 in
theorem bsE_meets (l : List Entry) (y : Id) (hu : upE l) (hl : l.length ≤ 4611686018427387904) :
    Meets Try.prog 56 [.list (l.map cE), .agg (cId y), .clo 57 []] [] (.tup [.int .i64 (posE l y), .bool (foundE l y)]) [] := by
  refine Meets.of_walk Try.func56 Try.ntmps56 low56 res56 (by simp) fun x hx => ?_
  simp only [go_sem, Nat.reduceLT, Nat.reduceAdd, Nat.reduceEqDiff, Nat.reduceLeDiff, Nat.reduceSub, Nat.reduceMul, Int.reduceEq, eq_self, reduceIte, L56, R56]
  refine loop_inv [0, 2, 4, 8, 9, 10] 1 (fun g st => ∃ i j : Nat, i ≤ j ∧ j ≤ l.length ∧ j - i = g ∧ (∀ k, k < i → lessB (nth l k).id y = true) ∧ (∀ k, j ≤ k → k < l.length → lessB (nth l k).id y = false) ∧
    st = ⟨mkE .top [(0, .list (l.map cE)), (2, .clo 57 []), (4, .ptr 0 0), (8, .int .i64 l.length), (9, .int .i64 i), (10, .int .i64 j)], [.box (cId y)]⟩) l.length (by simp [hx]) (by simp) ?_ ?_
  · refine ⟨0, l.length, by omega, by omega, by omega, fun k h => by omega, fun k h1 h2 => by omega, ?_⟩
    simp [trim_mk, go_sem, Nat.reduceLT, Nat.reduceAdd, Nat.reduceEqDiff, Nat.reduceLeDiff, Nat.reduceSub, Nat.reduceMul, Int.reduceEq, eq_self, reduceIte, subHeap, renObj, pos, List.range_succ, cId]
  · rintro g st ⟨i, j, hij, hj, hg, hlo, hhi, rfl⟩
    by_cases hlt : i < j
    · have w1 : IntKind.i64.wrap ((i : Int) + (j : Int)) = ((i + j : Nat) : Int) := by rw [IntKind.wrap_i64]; omega
      obtain ⟨h, hh⟩ : ∃ h, h = (i + j) / 2 := ⟨_, rfl⟩
      have hgt : l[h]? = some (nth l h) := nth_get? _ _ (by omega)
      have hhl : h < l.length := by omega
      have w2 : IntKind.u64.wrap ((i + j : Nat) : Int) = ((i + j : Nat) : Int) := by rw [IntKind.wrap_u64]; omega
      have w3 : ((i + j : Nat) : Int).fdiv (2 ^ min (Int.toNat 1) 64) = (h : Int) := by
        show Int.fdiv _ 2 = _
        rw [Int.fdiv_eq_ediv_of_nonneg _ (by omega)]; omega
      have w4 : IntKind.i64.wrap (h : Int) = (h : Int) := by rw [IntKind.wrap_i64]; omega
      have w5 := i64_up (k := h) (by omega)
      simp only [go_sem, Nat.reduceLT, Nat.reduceAdd, Nat.reduceEqDiff, Nat.reduceLeDiff, Nat.reduceSub, Nat.reduceMul, Int.reduceEq, eq_self, reduceIte, hlt, w1, w2, w3, w4, Int.reduceLE, hgt, hhl, cE, cId]
      refine ops_callv rfl (by kernel_rfl) (.pureE (raw1_meets (nth l h) y) (by simp [go_sem, Nat.reduceLT, Nat.reduceAdd, Nat.reduceEqDiff, Nat.reduceLeDiff, Nat.reduceSub, Nat.reduceMul, Int.reduceEq, eq_self, reduceIte, cE, cId])) ?_
      by_cases hc : lessB (nth l h).id y = true
      · have e : ordI (nth l h).id y < 0 := ordI_lt.2 hc
        simp only [go_sem, Nat.reduceLT, Nat.reduceAdd, Nat.reduceEqDiff, Nat.reduceLeDiff, Nat.reduceSub, Nat.reduceMul, Int.reduceEq, eq_self, reduceIte, e, w5]
        refine ⟨by simp, j - (h + 1), by omega, h + 1, j, by omega, hj, rfl, fun k hk => ?_, hhi, ?_⟩
        · by_cases ek : k = h
          · rw [ek]; exact hc
          · exact lessB_trans (hu k h (by omega) (by omega)) hc
        · simp [trim_mk, go_sem, Nat.reduceLT, Nat.reduceAdd, Nat.reduceEqDiff, Nat.reduceLeDiff, Nat.reduceSub, Nat.reduceMul, Int.reduceEq, eq_self, reduceIte, subHeap, renObj, pos, List.range_succ, cId]
      · have e : ¬ ordI (nth l h).id y < 0 := fun q => hc (ordI_lt.1 q)
        simp only [go_sem, Nat.reduceLT, Nat.reduceAdd, Nat.reduceEqDiff, Nat.reduceLeDiff, Nat.reduceSub, Nat.reduceMul, Int.reduceEq, eq_self, reduceIte, e]
        refine ⟨by simp, h - i, by omega, i, h, by omega, by omega, rfl, hlo, fun k h1 h2 => ?_, ?_⟩
        · by_cases ek : k = h
          · rw [ek]; simpa using hc
          · rw [← Bool.not_eq_true]
            exact fun q => hc (lessB_trans (hu h k (by omega) h2) q)
        · simp [trim_mk, go_sem, Nat.reduceLT, Nat.reduceAdd, Nat.reduceEqDiff, Nat.reduceLeDiff, Nat.reduceSub, Nat.reduceMul, Int.reduceEq, eq_self, reduceIte, subHeap, renObj, pos, List.range_succ, cId]
    · obtain rfl : i = j := by omega
      have hp := posE_at hj hlo hhi
      have hf := foundE_at hu hj hlo hhi
      by_cases hil : i < l.length
      · have hgt : l[i]? = some (nth l i) := nth_get? _ _ hil
        simp only [go_sem, Nat.reduceLT, Nat.reduceAdd, Nat.reduceEqDiff, Nat.reduceLeDiff, Nat.reduceSub, Nat.reduceMul, Int.reduceEq, eq_self, reduceIte, hlt, hil, hgt, cE, cId]
        refine ops_callv rfl (by kernel_rfl) (.pureE (raw1_meets (nth l i) y) (by simp [go_sem, Nat.reduceLT, Nat.reduceAdd, Nat.reduceEqDiff, Nat.reduceLeDiff, Nat.reduceSub, Nat.reduceMul, Int.reduceEq, eq_self, reduceIte, cE, cId])) ?_
        have e : (ordI (nth l i).id y = 0) ↔ (nth l i).id = y := ordI_zero
        simp only [go_sem, Nat.reduceLT, Nat.reduceAdd, Nat.reduceEqDiff, Nat.reduceLeDiff, Nat.reduceSub, Nat.reduceMul, Int.reduceEq, eq_self, reduceIte, e]
        refine ret_pure hx ?_
        simp [go_sem, Nat.reduceLT, Nat.reduceAdd, Nat.reduceEqDiff, Nat.reduceLeDiff, Nat.reduceSub, Nat.reduceMul, Int.reduceEq, eq_self, reduceIte, L56, R56, hp, hf, hil]
      · simp only [go_sem, Nat.reduceLT, Nat.reduceAdd, Nat.reduceEqDiff, Nat.reduceLeDiff, Nat.reduceSub, Nat.reduceMul, Int.reduceEq, eq_self, reduceIte, hlt, hil]
        refine ret_pure hx ?_
        simp [go_sem, Nat.reduceLT, Nat.reduceAdd, Nat.reduceEqDiff, Nat.reduceLeDiff, Nat.reduceSub, Nat.reduceMul, Int.reduceEq, eq_self, reduceIte, L56, R56, hp, hf, hil]
/-- what comes to a right site leaves behind -/
def rcP (lg ws : List Entry) (e : Entry) : List Entry × List Entry := settled lg (ws.insertIdx (posE ws e.id) e)
def rcErr (r : Int) (lg ws : List Entry) (e : Entry) : Int :=
  if 0 ≤ findE lg e.id ∨ 0 ≤ findE ws e.id then 0 else if e.id.r = r then 4 else if 20 < (rcP lg ws e).2.length ∨ 40 < (rcP lg ws e).1.length then 2 else 0
def rcSi (r : Int) (lg ws : List Entry) (e : Entry) : Int × List Entry × List Entry :=
  if 0 ≤ findE lg e.id ∨ 0 ≤ findE ws e.id then (r, lg, ws) else if rcErr r lg ws e = 0 then (r, rcP lg ws e) else (0, [], [])
theorem fit_ins {ws : List Entry} {e : Entry} (h : fitE ws) (he : (e.id.r = 0 ∨ e.id.r = 1) ∧ e.ls.length ≤ 1000000) {i : Nat} (hi : i ≤ ws.length) : fitE (ws.insertIdx i e) := fun x hx => by
  rcases (List.mem_insertIdx hi).1 hx with h1 | h1
  · subst h1; exact he
  · exact h x h1
theorem insE_len (l : List Entry) (w : Entry) {k : Nat} (h : k ≤ l.length) : (l.insertIdx k w).length = l.length + 1 := by rw [List.length_insertIdx, if_pos h]
set_option maxHeartbeats 4000000 in
theorem siRaw_meets (r : Int) (lg ws : List Entry) (e : Entry) (hl : lg.length ≤ 1000) (hw : ws.length ≤ 1000) (hf1 : fitE lg) (hf2 : fitE ws) (hu : upE ws) (he : (e.id.r = 0 ∨ e.id.r = 1) ∧ e.ls.length ≤ 1000000) :
    Meets Try.prog 27 [.agg (cSi r lg ws), .agg (cE e)] [] (.tup [.agg (cSi3 (rcSi r lg ws e)), .int .i64 (rcErr r lg ws e)]) [] := by
  refine Meets.of_walk Try.func27 Try.ntmps27 low27 res27 (by simp) fun x hx => ?_
  simp only [go_sem, Nat.reduceLT, Nat.reduceAdd, Nat.reduceEqDiff, Nat.reduceLeDiff, Nat.reduceSub, Nat.reduceMul, Int.reduceEq, eq_self, reduceIte, L27, R27, cSi, cE]
  refine ops_call (.heapE [] (r' := .agg [.int .i64 r, .arr 3 lg.length, .arr 4 ws.length]) (H' := [.box (cSi r lg ws), .box (cE e), .box [.int .i64 0, .nilsl, .nilsl], .arr lg.length true false 29 5 (lg.map cE), .arr ws.length true false 29 5 (ws.map cE)]) (siOwn_meets r lg ws (by omega) (by omega) hf1 hf2) (by simp) (by simp) (by simp [go_sem, Nat.reduceLT, Nat.reduceAdd, Nat.reduceEqDiff, Nat.reduceLeDiff, Nat.reduceSub, Nat.reduceMul, Int.reduceEq, eq_self, reduceIte, cSi]) rfl rfl rfl) ?_
  simp only [go_sem, Nat.reduceLT, Nat.reduceAdd, Nat.reduceEqDiff, Nat.reduceLeDiff, Nat.reduceSub, Nat.reduceMul, Int.reduceEq, eq_self, reduceIte, cSi, cE]
  refine ops_call (.pureE (find_meets lg e.id (by omega)) (by simp [go_sem, Nat.reduceLT, Nat.reduceAdd, Nat.reduceEqDiff, Nat.reduceLeDiff, Nat.reduceSub, Nat.reduceMul, Int.reduceEq, eq_self, reduceIte, cId])) ?_
  by_cases h1 : 0 ≤ findE lg e.id
  · have e1 : rcErr r lg ws e = 0 := by rw [rcErr, if_pos (.inl h1)]
    simp only [go_sem, Nat.reduceLT, Nat.reduceAdd, Nat.reduceEqDiff, Nat.reduceLeDiff, Nat.reduceSub, Nat.reduceMul, Int.reduceEq, eq_self, reduceIte, h1, cSi, cE]
    refine ret_pure hx ?_
    simp [go_sem, Nat.reduceLT, Nat.reduceAdd, Nat.reduceEqDiff, Nat.reduceLeDiff, Nat.reduceSub, Nat.reduceMul, Int.reduceEq, eq_self, reduceIte, L27, R27, rcSi, e1, h1, cSi3, cSi, cE, frzAt, pos]
  · simp only [go_sem, Nat.reduceLT, Nat.reduceAdd, Nat.reduceEqDiff, Nat.reduceLeDiff, Nat.reduceSub, Nat.reduceMul, Int.reduceEq, eq_self, reduceIte, h1, cSi, cE]
    refine ops_call (.pureE (find_meets ws e.id (by omega)) (by simp [go_sem, Nat.reduceLT, Nat.reduceAdd, Nat.reduceEqDiff, Nat.reduceLeDiff, Nat.reduceSub, Nat.reduceMul, Int.reduceEq, eq_self, reduceIte, cId])) ?_
    by_cases h2 : 0 ≤ findE ws e.id
    · have e1 : rcErr r lg ws e = 0 := by rw [rcErr, if_pos (.inr h2)]
      simp only [go_sem, Nat.reduceLT, Nat.reduceAdd, Nat.reduceEqDiff, Nat.reduceLeDiff, Nat.reduceSub, Nat.reduceMul, Int.reduceEq, eq_self, reduceIte, h2, cSi, cE]
      refine ret_pure hx ?_
      simp [go_sem, Nat.reduceLT, Nat.reduceAdd, Nat.reduceEqDiff, Nat.reduceLeDiff, Nat.reduceSub, Nat.reduceMul, Int.reduceEq, eq_self, reduceIte, L27, R27, rcSi, e1, h2, cSi3, cSi, cE, frzAt, pos]
    · by_cases h3 : e.id.r = r
      · have e1 : rcErr r lg ws e = 4 := by rw [rcErr, if_neg (by omega), if_pos h3]
        simp only [go_sem, Nat.reduceLT, Nat.reduceAdd, Nat.reduceEqDiff, Nat.reduceLeDiff, Nat.reduceSub, Nat.reduceMul, Int.reduceEq, eq_self, reduceIte, h2, h3, cSi, cE]
        refine ret_pure hx ?_
        simp [go_sem, Nat.reduceLT, Nat.reduceAdd, Nat.reduceEqDiff, Nat.reduceLeDiff, Nat.reduceSub, Nat.reduceMul, Int.reduceEq, eq_self, reduceIte, L27, R27, rcSi, e1, h1, h2, cSi3, cSi, cE, frzAt, pos]
      · have e0 : rcErr r lg ws e = if 20 < (rcP lg ws e).2.length ∨ 40 < (rcP lg ws e).1.length then 2 else 0 := by rw [rcErr, if_neg (by omega), if_neg h3]
        have hil := insE_len ws e (posE_le ws e.id)
        have hst := settle_meets lg.length (ws.length + 1) r lg (ws.insertIdx (posE ws e.id) e) (by omega) hf1 (fit_ins hf2 he (posE_le ws e.id))
        rw [show settled lg (ws.insertIdx (posE ws e.id) e) = rcP lg ws e from rfl] at hst
        generalize (ws.insertIdx (posE ws e.id) e).length - (rcP lg ws e).2.length = k at hst
        simp only [go_sem, Nat.reduceLT, Nat.reduceAdd, Nat.reduceEqDiff, Nat.reduceLeDiff, Nat.reduceSub, Nat.reduceMul, Int.reduceEq, eq_self, reduceIte, h2, h3, cSi, cE]
        refine ops_call (.scalarE (bsE_meets ws e.id hu (by omega)) rfl (by simp [go_sem, Nat.reduceLT, Nat.reduceAdd, Nat.reduceEqDiff, Nat.reduceLeDiff, Nat.reduceSub, Nat.reduceMul, Int.reduceEq, eq_self, reduceIte, frzAt, pos, cId])) ?_
        simp only [go_sem, Nat.reduceLT, Nat.reduceAdd, Nat.reduceEqDiff, Nat.reduceLeDiff, Nat.reduceSub, Nat.reduceMul, Int.reduceEq, eq_self, reduceIte, cSi, cE]
        repeat refine ⟨rfl, ?_⟩
        refine ops_call (.pureE (entOwn_meets e he.2) (by simp [go_sem, Nat.reduceLT, Nat.reduceAdd, Nat.reduceEqDiff, Nat.reduceLeDiff, Nat.reduceSub, Nat.reduceMul, Int.reduceEq, eq_self, reduceIte, cE])) ?_
        simp only [go_sem, Nat.reduceLT, Nat.reduceAdd, Nat.reduceEqDiff, Nat.reduceLeDiff, Nat.reduceSub, Nat.reduceMul, Int.reduceEq, eq_self, reduceIte, cSi, cE]
        refine ops_call1 4 (insE_meets (ws.map cE) (cE e) ws.length (posE ws e.id) (by simp; exact posE_le _ _) rfl (by simp; omega)) rfl rfl rfl rfl (by simp [go_sem, Nat.reduceLT, Nat.reduceAdd, Nat.reduceEqDiff, Nat.reduceLeDiff, Nat.reduceSub, Nat.reduceMul, Int.reduceEq, eq_self, reduceIte]) (by simp [go_sem, Nat.reduceLT, Nat.reduceAdd, Nat.reduceEqDiff, Nat.reduceLeDiff, Nat.reduceSub, Nat.reduceMul, Int.reduceEq, eq_self, reduceIte, pos, cE]) rfl ?_
        rw [insIdx_mapE]
        simp only [go_sem, Nat.reduceLT, Nat.reduceAdd, Nat.reduceEqDiff, Nat.reduceLeDiff, Nat.reduceSub, Nat.reduceMul, Int.reduceEq, eq_self, reduceIte, cSi, cE]
        repeat refine ⟨rfl, ?_⟩
        refine ops_call (.heapE [5, 3, 4] (r' := .tup []) (H' := [.box (cSi r lg ws), .box (cE e), .box [.int .i64 0, .nilsl, .nilsl], .arr (lg.length + k) true false 29 5 ((rcP lg ws e).1.map cE), .arr (ws.length + 1 + k) true false 29 5 ((rcP lg ws e).2.map cE), .box [.int .i64 r, .arr 3 (lg.length + k), .arr 4 (ws.length + 1 + k)]]) hst (by decide) (by simp) (by simp [go_sem, Nat.reduceLT, Nat.reduceAdd, Nat.reduceEqDiff, Nat.reduceLeDiff, Nat.reduceSub, Nat.reduceMul, Int.reduceEq, eq_self, reduceIte, pos]) rfl rfl rfl) ?_
        by_cases g1 : (20 : Int) < ((rcP lg ws e).2.length : Int)
        · have e1 : rcErr r lg ws e = 2 := by rw [e0, if_pos (by omega)]
          simp only [go_sem, Nat.reduceLT, Nat.reduceAdd, Nat.reduceEqDiff, Nat.reduceLeDiff, Nat.reduceSub, Nat.reduceMul, Int.reduceEq, eq_self, reduceIte, g1, cSi, cE]
          refine ret_pure hx ?_
          simp [go_sem, Nat.reduceLT, Nat.reduceAdd, Nat.reduceEqDiff, Nat.reduceLeDiff, Nat.reduceSub, Nat.reduceMul, Int.reduceEq, eq_self, reduceIte, L27, R27, rcSi, e1, h1, h2, cSi3, cSi, cE, frzAt, pos]
        · by_cases g2 : (40 : Int) < ((rcP lg ws e).1.length : Int)
          · have e1 : rcErr r lg ws e = 2 := by rw [e0, if_pos (by omega)]
            simp only [go_sem, Nat.reduceLT, Nat.reduceAdd, Nat.reduceEqDiff, Nat.reduceLeDiff, Nat.reduceSub, Nat.reduceMul, Int.reduceEq, eq_self, reduceIte, g1, g2, cSi, cE]
            refine ret_pure hx ?_
            simp [go_sem, Nat.reduceLT, Nat.reduceAdd, Nat.reduceEqDiff, Nat.reduceLeDiff, Nat.reduceSub, Nat.reduceMul, Int.reduceEq, eq_self, reduceIte, L27, R27, rcSi, e1, h1, h2, cSi3, cSi, cE, frzAt, pos]
          · have e1 : rcErr r lg ws e = 0 := by rw [e0, if_neg (by omega)]
            simp only [go_sem, Nat.reduceLT, Nat.reduceAdd, Nat.reduceEqDiff, Nat.reduceLeDiff, Nat.reduceSub, Nat.reduceMul, Int.reduceEq, eq_self, reduceIte, g1, g2, cSi, cE]
            refine ret_pure hx ?_
            simp [go_sem, Nat.reduceLT, Nat.reduceAdd, Nat.reduceEqDiff, Nat.reduceLeDiff, Nat.reduceSub, Nat.reduceMul, Int.reduceEq, eq_self, reduceIte, L27, R27, rcSi, e1, h1, h2, cSi3, cSi, cE, frzAt, pos]
/-- what Receive answers -/
def rcErrX (r : Int) (lg ws : List Entry) (e : Entry) : Int := if siErr r lg ws ≠ 0 then siErr r lg ws else if checkEntry e ≠ 0 then checkEntry e else rcErr r lg ws e
def rcSiX (r : Int) (lg ws : List Entry) (e : Entry) : Int × List Entry × List Entry := if siErr r lg ws ≠ 0 ∨ checkEntry e ≠ 0 then (0, [], []) else rcSi r lg ws e
set_option maxHeartbeats 1000000 in
theorem siReceive_meets (r : Int) (lg ws : List Entry) (e : Entry) (hl : lg.length ≤ 9223372036854775806) (hw : ws.length ≤ 9223372036854775806) :
    Meets Try.prog 9 [.agg (cSi r lg ws), .agg (cE e)] [] (.tup [.agg (cSi3 (rcSiX r lg ws e)), .int .i64 (rcErrX r lg ws e)]) [] := by
  refine Meets.of_walk Try.func9 Try.ntmps9 low9 res9 (by simp) fun x hx => ?_
  simp only [go_sem, Nat.reduceLT, Nat.reduceAdd, Nat.reduceEqDiff, Nat.reduceLeDiff, Nat.reduceSub, Nat.reduceMul, Int.reduceEq, eq_self, reduceIte, L9, R9, cSi, cE]
  refine ops_call (.pureE (siCheck_meets r lg ws hl hw) (by simp [go_sem, Nat.reduceLT, Nat.reduceAdd, Nat.reduceEqDiff, Nat.reduceLeDiff, Nat.reduceSub, Nat.reduceMul, Int.reduceEq, eq_self, reduceIte, cSi])) ?_
  by_cases h0 : siErr r lg ws = 0
  · obtain ⟨hr, hok, hw20, hch⟩ := siErr_ok h0
    have hlen := hok.len
    simp only [go_sem, Nat.reduceLT, Nat.reduceAdd, Nat.reduceEqDiff, Nat.reduceLeDiff, Nat.reduceSub, Nat.reduceMul, Int.reduceEq, eq_self, reduceIte, h0, cSi, cE]
    refine ops_call (.pureE (check_meets e) (by simp [go_sem, Nat.reduceLT, Nat.reduceAdd, Nat.reduceEqDiff, Nat.reduceLeDiff, Nat.reduceSub, Nat.reduceMul, Int.reduceEq, eq_self, reduceIte, cE])) ?_
    by_cases h1 : checkEntry e = 0
    · simp only [go_sem, Nat.reduceLT, Nat.reduceAdd, Nat.reduceEqDiff, Nat.reduceLeDiff, Nat.reduceSub, Nat.reduceMul, Int.reduceEq, eq_self, reduceIte, h1, cSi, cE]
      refine ops_call (.pureE (siRaw_meets r lg ws e (by omega) (by omega) (log_fit hok) (waits_fit fun k hk => (hch k hk).1) (siErr_up h0) (check_fit h1)) (by simp [go_sem, Nat.reduceLT, Nat.reduceAdd, Nat.reduceEqDiff, Nat.reduceLeDiff, Nat.reduceSub, Nat.reduceMul, Int.reduceEq, eq_self, reduceIte, cSi, cE])) ?_
      simp only [go_sem, Nat.reduceLT, Nat.reduceAdd, Nat.reduceEqDiff, Nat.reduceLeDiff, Nat.reduceSub, Nat.reduceMul, Int.reduceEq, eq_self, reduceIte, cSi3, cSi, cE]
      refine ret_pure hx ?_
      simp [go_sem, Nat.reduceLT, Nat.reduceAdd, Nat.reduceEqDiff, Nat.reduceLeDiff, Nat.reduceSub, Nat.reduceMul, Int.reduceEq, eq_self, reduceIte, L9, R9, rcSiX, rcErrX, h0, h1, cSi3, cSi]
    · simp only [go_sem, Nat.reduceLT, Nat.reduceAdd, Nat.reduceEqDiff, Nat.reduceLeDiff, Nat.reduceSub, Nat.reduceMul, Int.reduceEq, eq_self, reduceIte, h1, cSi, cE]
      refine ret_pure hx ?_
      simp [go_sem, Nat.reduceLT, Nat.reduceAdd, Nat.reduceEqDiff, Nat.reduceLeDiff, Nat.reduceSub, Nat.reduceMul, Int.reduceEq, eq_self, reduceIte, L9, R9, rcSiX, rcErrX, h0, h1, cSi3, cSi]
  · simp only [go_sem, Nat.reduceLT, Nat.reduceAdd, Nat.reduceEqDiff, Nat.reduceLeDiff, Nat.reduceSub, Nat.reduceMul, Int.reduceEq, eq_self, reduceIte, h0, cSi, cE]
    refine ret_pure hx ?_
    simp [go_sem, Nat.reduceLT, Nat.reduceAdd, Nat.reduceEqDiff, Nat.reduceLeDiff, Nat.reduceSub, Nat.reduceMul, Int.reduceEq, eq_self, reduceIte, L9, R9, rcSiX, rcErrX, h0, cSi3, cSi]
end Go.Proofs.Ytiandbolipoebaa
/- Sites, in the law text's words: IsReady, CheckSite, Settled: contracts. -/
namespace Go.Proofs.Ytiandbolipoebaa
set_option linter.unusedSimpArgs false
set_option linter.unusedVariables false
open Go.RowKit
set_option maxHeartbeats 1000000 in
theorem isReady_meets (l : List Entry) (e : Entry) (h : okReg l) (hl : l.length ≤ 1000000000000000) (he : e.id.r = 0 ∨ e.id.r = 1) (hls : e.ls.length ≤ 9223372036854775806) :
    Meets Try.prog 32 [.list (l.map cE), .agg (cE e)] [] (.bool (readyB l e)) [] := by
  refine Meets.of_walk Try.func32 Try.ntmps32 low32 res32 (by simp) fun x hx => ?_
  have hw : ∀ r, IntKind.i64.wrap ((cntR l r : Int) + 1) = (cntR l r : Int) + 1 := fun r => by have := cntR_le l r; rw [IntWalk.i64_in _ (by omega)]
  simp only [go_sem, Nat.reduceLT, Nat.reduceAdd, Nat.reduceEqDiff, Nat.reduceLeDiff, Nat.reduceSub, Nat.reduceMul, Int.reduceEq, eq_self, reduceIte, L32, R32, cE]
  refine loop_inv [0, 3, 5] 1 (fun m st => ∃ k : Nat, k + m = e.ls.length ∧ ((e.ls.take k).any fun y => decide (findE l y < 0)) = false ∧
    st = ⟨mkE .top [(0, .list (l.map cE)), (3, .ptr 0 0), (5, .int .i64 k)], [.box (cE e)]⟩) e.ls.length (by simp [hx]) (by simp) ?_ ?_
  · refine ⟨0, by omega, by simp, ?_⟩
    simp [trim_mk, go_sem, Nat.reduceLT, Nat.reduceAdd, Nat.reduceEqDiff, Nat.reduceLeDiff, Nat.reduceSub, Nat.reduceMul, Int.reduceEq, eq_self, reduceIte, subHeap, renObj, pos, List.range_succ, cE]
  · rintro m st ⟨k, hk, hi, rfl⟩
    by_cases hlt : k < e.ls.length
    · have hg : e.ls[k]? = some (nth e.ls k) := nth_get? _ _ hlt
      have wk := i64_up (k := k) (by omega)
      simp only [go_sem, Nat.reduceLT, Nat.reduceAdd, Nat.reduceEqDiff, Nat.reduceLeDiff, Nat.reduceSub, Nat.reduceMul, Int.reduceEq, eq_self, reduceIte, hlt, hg, cE, cId]
      refine ops_call (.pureE (entryAt_meets l (nth e.ls k) (by omega)) (by simp [go_sem, Nat.reduceLT, Nat.reduceAdd, Nat.reduceEqDiff, Nat.reduceLeDiff, Nat.reduceSub, Nat.reduceMul, Int.reduceEq, eq_self, reduceIte, cId])) ?_
      by_cases h1 : findE l (nth e.ls k) < 0
      · have : readyB l e = false := by
          have hany : (e.ls.any fun y => decide (findE l y < 0)) = true := List.any_eq_true.2 ⟨_, nthM hlt, by simpa using h1⟩
          rw [readyB, hany]; simp
        simp only [go_sem, Nat.reduceLT, Nat.reduceAdd, Nat.reduceEqDiff, Nat.reduceLeDiff, Nat.reduceSub, Nat.reduceMul, Int.reduceEq, eq_self, reduceIte, h1]
        refine ret_pure hx ?_
        simp [go_sem, Nat.reduceLT, Nat.reduceAdd, Nat.reduceEqDiff, Nat.reduceLeDiff, Nat.reduceSub, Nat.reduceMul, Int.reduceEq, eq_self, reduceIte, L32, R32, this]
      · simp only [go_sem, Nat.reduceLT, Nat.reduceAdd, Nat.reduceEqDiff, Nat.reduceLeDiff, Nat.reduceSub, Nat.reduceMul, Int.reduceEq, eq_self, reduceIte, h1, wk]
        refine ⟨by simp, m - 1, by omega, k + 1, by omega, ?_, ?_⟩
        · rw [List.take_succ_eq_append_getElem hlt, List.any_append, hi, ← nth_eq _ _ hlt]; simpa using h1
        · simp [trim_mk, go_sem, Nat.reduceLT, Nat.reduceAdd, Nat.reduceEqDiff, Nat.reduceLeDiff, Nat.reduceSub, Nat.reduceMul, Int.reduceEq, eq_self, reduceIte, subHeap, renObj, pos, List.range_succ, cE]
    · have htk : e.ls.take k = e.ls := List.take_of_length_le (by omega)
      rw [htk] at hi
      have hrb : readyB l e = decide ((cntR l e.id.r : Int) + 1 = e.id.n) := by rw [readyB, hi]; simp
      simp only [go_sem, Nat.reduceLT, Nat.reduceAdd, Nat.reduceEqDiff, Nat.reduceLeDiff, Nat.reduceSub, Nat.reduceMul, Int.reduceEq, eq_self, reduceIte, hlt, cE]
      refine ops_call (.pureE (countOf_meets l h hl) (by simp [go_sem, Nat.reduceLT, Nat.reduceAdd, Nat.reduceEqDiff, Nat.reduceLeDiff, Nat.reduceSub, Nat.reduceMul, Int.reduceEq, eq_self, reduceIte])) ?_
      rcases he with hr | hr
      all_goals
        rw [hr] at hrb
        simp only [go_sem, Nat.reduceLT, Nat.reduceAdd, Nat.reduceEqDiff, Nat.reduceLeDiff, Nat.reduceSub, Nat.reduceMul, Int.reduceEq, eq_self, reduceIte, hr, hw, Int.ofNat_zero, Int.natCast_one, Int.cast_ofNat_Int, Int.reduceLT, Int.reduceLE, Int.reduceToNat, Nat.reduceLT, Int.toNat_zero, Int.natCast_zero, Int.le_refl, Int.lt_irrefl, Int.reduceAdd, frz, false_or, or_true]
        repeat refine ⟨rfl, ?_⟩
        refine ret_pure hx ?_
        simp [go_sem, Nat.reduceLT, Nat.reduceAdd, Nat.reduceEqDiff, Nat.reduceLeDiff, Nat.reduceSub, Nat.reduceMul, Int.reduceEq, eq_self, reduceIte, L32, R32, hrb]
set_option maxHeartbeats 4000000 in
theorem checkSite_meets (r : Int) (lg ws : List Entry) (hl : lg.length ≤ 9223372036854775806) (hw : ws.length ≤ 9223372036854775806) : Meets Try.prog 10 [.agg (cSi r lg ws)] [] (.int .i64 (siErr r lg ws)) [] := by
  refine Meets.of_walk Try.func10 Try.ntmps10 low10 res10 (by simp) fun x hx => ?_
  simp only [go_sem, Nat.reduceLT, Nat.reduceAdd, Nat.reduceEqDiff, Nat.reduceLeDiff, Nat.reduceSub, Nat.reduceMul, Int.reduceEq, eq_self, reduceIte, L10, R10, cSi]
  refine ops_call (.pureE (between_meets r 0 1) (by simp [go_sem, Nat.reduceLT, Nat.reduceAdd, Nat.reduceEqDiff, Nat.reduceLeDiff, Nat.reduceSub, Nat.reduceMul, Int.reduceEq, eq_self, reduceIte])) ?_
  cases hrw : wthn r 0 1
  · have hr : ¬ (r = 0 ∨ r = 1) := fun q => by
      have : wthn r 0 1 = true := wthn_iff.2 (by omega)
      rw [hrw] at this; cases this
    have e : siErr r lg ws = 3 := by rw [siErr, if_pos hr]
    simp only [go_sem, Nat.reduceLT, Nat.reduceAdd, Nat.reduceEqDiff, Nat.reduceLeDiff, Nat.reduceSub, Nat.reduceMul, Int.reduceEq, eq_self, reduceIte, cSi]
    refine ret_pure hx ?_
    simp [go_sem, Nat.reduceLT, Nat.reduceAdd, Nat.reduceEqDiff, Nat.reduceLeDiff, Nat.reduceSub, Nat.reduceMul, Int.reduceEq, eq_self, reduceIte, L10, R10, e]
  · rw [wthn_iff] at hrw
    have hr : r = 0 ∨ r = 1 := by omega
    simp only [go_sem, Nat.reduceLT, Nat.reduceAdd, Nat.reduceEqDiff, Nat.reduceLeDiff, Nat.reduceSub, Nat.reduceMul, Int.reduceEq, eq_self, reduceIte, cSi]
    refine ops_call (.pureE (checkLog_meets lg hl) (by simp [go_sem, Nat.reduceLT, Nat.reduceAdd, Nat.reduceEqDiff, Nat.reduceLeDiff, Nat.reduceSub, Nat.reduceMul, Int.reduceEq, eq_self, reduceIte])) ?_
    by_cases hlog : checkLog lg = 0
    · have hok := log_ok.1 hlog
      have hlen := hok.len
      by_cases h20 : (20 : Int) < (ws.length : Int)
      · have e : siErr r lg ws = 2 := by rw [siErr, if_neg (by simp [hr]), if_neg (by simp [hlog]), if_pos (by omega)]
        simp only [go_sem, Nat.reduceLT, Nat.reduceAdd, Nat.reduceEqDiff, Nat.reduceLeDiff, Nat.reduceSub, Nat.reduceMul, Int.reduceEq, eq_self, reduceIte, hlog, h20, cSi]
        refine ret_pure hx ?_
        simp [go_sem, Nat.reduceLT, Nat.reduceAdd, Nat.reduceEqDiff, Nat.reduceLeDiff, Nat.reduceSub, Nat.reduceMul, Int.reduceEq, eq_self, reduceIte, L10, R10, e]
      · have e : siErr r lg ws = firstNZ (siWait r lg ws) ws.length := by rw [siErr, if_neg (by simp [hr]), if_neg (by simp [hlog]), if_neg (by omega)]
        simp only [go_sem, Nat.reduceLT, Nat.reduceAdd, Nat.reduceEqDiff, Nat.reduceLeDiff, Nat.reduceSub, Nat.reduceMul, Int.reduceEq, eq_self, reduceIte, hlog, h20, cSi, e]
        refine loop_inv [1, 4] 1 (fun m st => ∃ k : Nat, k + m = ws.length ∧ firstNZ (siWait r lg ws) k = 0 ∧
          st = ⟨mkE .top [(1, .ptr 0 0), (4, .int .i64 k)], [.box (cSi r lg ws)]⟩) ws.length (by simp [hx]) (by simp) ?_ ?_
        · refine ⟨0, by omega, rfl, ?_⟩
          simp [trim_mk, go_sem, Nat.reduceLT, Nat.reduceAdd, Nat.reduceEqDiff, Nat.reduceLeDiff, Nat.reduceSub, Nat.reduceMul, Int.reduceEq, eq_self, reduceIte, subHeap, renObj, pos, List.range_succ, cSi]
        · rintro m st ⟨k, hk, hz, rfl⟩
          by_cases hlt : k < ws.length
          · have hg : ws[k]? = some (nth ws k) := nth_get? _ _ hlt
            have wk := i64_up (k := k) (by omega)
            have fin : ∀ q : Int, siWait r lg ws k = q → q ≠ 0 → firstNZ (siWait r lg ws) ws.length = q := fun q h1 h2 => by rw [firstNZ_hit hz (by rw [h1]; exact h2) hlt, h1]
            simp only [go_sem, Nat.reduceLT, Nat.reduceAdd, Nat.reduceEqDiff, Nat.reduceLeDiff, Nat.reduceSub, Nat.reduceMul, Int.reduceEq, eq_self, reduceIte, hlt, hg, cE, cSi]
            refine ops_call (.pureE (checkEntry_meets (nth ws k)) (by simp [go_sem, Nat.reduceLT, Nat.reduceAdd, Nat.reduceEqDiff, Nat.reduceLeDiff, Nat.reduceSub, Nat.reduceMul, Int.reduceEq, eq_self, reduceIte, cE])) ?_
            by_cases h1 : checkEntry (nth ws k) = 0
            · have hfit := check_fit h1
              have hw1 : siWait r lg ws k = if siBad r lg ws k = true then 4 else 0 := by rw [siWait, if_neg (by simp [h1])]
              by_cases hk0 : (0 : Int) < (k : Int)
              · obtain ⟨k', rfl⟩ : ∃ k', k = k' + 1 := ⟨k - 1, by omega⟩
                have hwd : IntKind.i64.wrap (((k' + 1 : Nat) : Int) - 1) = (k' : Int) := by rw [IntKind.wrap_i64]; omega
                have hkl : k' < ws.length := by omega
                have hg' : ws[k']? = some (nth ws k') := nth_get? _ _ hkl
                simp only [go_sem, Nat.reduceLT, Nat.reduceAdd, Nat.reduceEqDiff, Nat.reduceLeDiff, Nat.reduceSub, Nat.reduceMul, Int.reduceEq, eq_self, reduceIte, h1, hk0, hwd, hkl, hg', cE, cSi]
                refine ops_call (.pureE (isAhead_meets (nth ws k').id (nth ws (k' + 1)).id) (by simp [go_sem, Nat.reduceLT, Nat.reduceAdd, Nat.reduceEqDiff, Nat.reduceLeDiff, Nat.reduceSub, Nat.reduceMul, Int.reduceEq, eq_self, reduceIte, cId])) ?_
                cases hle : lessB (nth ws k').id (nth ws (k' + 1)).id
                · have hw2 : siWait r lg ws (k' + 1) = 4 := by rw [hw1, if_pos (by simp [siBad, hle])]
                  simp only [go_sem, Nat.reduceLT, Nat.reduceAdd, Nat.reduceEqDiff, Nat.reduceLeDiff, Nat.reduceSub, Nat.reduceMul, Int.reduceEq, eq_self, reduceIte]
                  repeat refine ⟨rfl, ?_⟩
                  refine ret_pure hx ?_
                  simp [go_sem, Nat.reduceLT, Nat.reduceAdd, Nat.reduceEqDiff, Nat.reduceLeDiff, Nat.reduceSub, Nat.reduceMul, Int.reduceEq, eq_self, reduceIte, L10, R10, fin 4 hw2 (by decide)]
                · have hb1 : (decide (0 < k' + 1) && !lessB (nth ws (k' + 1 - 1)).id (nth ws (k' + 1)).id) = false := by simp [hle]
                  cases hd2 : decide ((nth ws (k' + 1)).id.r = r)
                  · simp only [go_sem, Nat.reduceLT, Nat.reduceAdd, Nat.reduceEqDiff, Nat.reduceLeDiff, Nat.reduceSub, Nat.reduceMul, Int.reduceEq, eq_self, reduceIte, hd2, cE, cSi]
                    refine ops_call (.pureE (entryAt_meets lg (nth ws (k' + 1)).id hl) (by simp [go_sem, Nat.reduceLT, Nat.reduceAdd, Nat.reduceEqDiff, Nat.reduceLeDiff, Nat.reduceSub, Nat.reduceMul, Int.reduceEq, eq_self, reduceIte, cId])) ?_
                    by_cases h3 : 0 ≤ findE lg (nth ws (k' + 1)).id
                    · have hw2 : siWait r lg ws (k' + 1) = 4 := by rw [hw1, if_pos (by simp [siBad, h3])]
                      simp only [go_sem, Nat.reduceLT, Nat.reduceAdd, Nat.reduceEqDiff, Nat.reduceLeDiff, Nat.reduceSub, Nat.reduceMul, Int.reduceEq, eq_self, reduceIte, h3]
                      repeat refine ⟨rfl, ?_⟩
                      refine ret_pure hx ?_
                      simp [go_sem, Nat.reduceLT, Nat.reduceAdd, Nat.reduceEqDiff, Nat.reduceLeDiff, Nat.reduceSub, Nat.reduceMul, Int.reduceEq, eq_self, reduceIte, L10, R10, fin 4 hw2 (by decide)]
                    · simp only [go_sem, Nat.reduceLT, Nat.reduceAdd, Nat.reduceEqDiff, Nat.reduceLeDiff, Nat.reduceSub, Nat.reduceMul, Int.reduceEq, eq_self, reduceIte, h3, cE, cSi]
                      refine ops_call (.pureE (isReady_meets lg (nth ws (k' + 1)) hok.reg (by omega) hfit.1 (by have := hfit.2; omega)) (by simp [go_sem, Nat.reduceLT, Nat.reduceAdd, Nat.reduceEqDiff, Nat.reduceLeDiff, Nat.reduceSub, Nat.reduceMul, Int.reduceEq, eq_self, reduceIte, cE])) ?_
                      cases h4 : readyB lg (nth ws (k' + 1))
                      · have hw2 : siWait r lg ws (k' + 1) = 0 := by rw [hw1, if_neg (by rw [siBad, hb1, hd2, h4]; simp [h3])]
                        simp only [go_sem, Nat.reduceLT, Nat.reduceAdd, Nat.reduceEqDiff, Nat.reduceLeDiff, Nat.reduceSub, Nat.reduceMul, Int.reduceEq, eq_self, reduceIte, wk]
                        repeat refine ⟨rfl, ?_⟩
                        refine ⟨by simp, m - 1, by omega, k' + 1 + 1, by omega, firstNZ_succ hz hw2, ?_⟩
                        simp [trim_mk, go_sem, Nat.reduceLT, Nat.reduceAdd, Nat.reduceEqDiff, Nat.reduceLeDiff, Nat.reduceSub, Nat.reduceMul, Int.reduceEq, eq_self, reduceIte, subHeap, renObj, pos, List.range_succ, cSi]
                      · have hw2 : siWait r lg ws (k' + 1) = 4 := by rw [hw1, if_pos (by simp [siBad, h4])]
                        simp only [go_sem, Nat.reduceLT, Nat.reduceAdd, Nat.reduceEqDiff, Nat.reduceLeDiff, Nat.reduceSub, Nat.reduceMul, Int.reduceEq, eq_self, reduceIte]
                        repeat refine ⟨rfl, ?_⟩
                        refine ret_pure hx ?_
                        simp [go_sem, Nat.reduceLT, Nat.reduceAdd, Nat.reduceEqDiff, Nat.reduceLeDiff, Nat.reduceSub, Nat.reduceMul, Int.reduceEq, eq_self, reduceIte, L10, R10, fin 4 hw2 (by decide)]
                  · have hw2 : siWait r lg ws (k' + 1) = 4 := by rw [hw1, if_pos (by simp [siBad, hd2])]
                    simp only [go_sem, Nat.reduceLT, Nat.reduceAdd, Nat.reduceEqDiff, Nat.reduceLeDiff, Nat.reduceSub, Nat.reduceMul, Int.reduceEq, eq_self, reduceIte, hd2]
                    repeat refine ⟨rfl, ?_⟩
                    refine ret_pure hx ?_
                    simp [go_sem, Nat.reduceLT, Nat.reduceAdd, Nat.reduceEqDiff, Nat.reduceLeDiff, Nat.reduceSub, Nat.reduceMul, Int.reduceEq, eq_self, reduceIte, L10, R10, fin 4 hw2 (by decide)]
              · have hkz : k = 0 := by omega
                have hb1 : (decide (0 < k) && !lessB (nth ws (k - 1)).id (nth ws k).id) = false := by simp [hkz]
                simp only [go_sem, Nat.reduceLT, Nat.reduceAdd, Nat.reduceEqDiff, Nat.reduceLeDiff, Nat.reduceSub, Nat.reduceMul, Int.reduceEq, eq_self, reduceIte, h1, hk0, cE, cSi]
                cases hd2 : decide ((nth ws (k)).id.r = r)
                · simp only [go_sem, Nat.reduceLT, Nat.reduceAdd, Nat.reduceEqDiff, Nat.reduceLeDiff, Nat.reduceSub, Nat.reduceMul, Int.reduceEq, eq_self, reduceIte, hd2, cE, cSi]
                  refine ops_call (.pureE (entryAt_meets lg (nth ws (k)).id hl) (by simp [go_sem, Nat.reduceLT, Nat.reduceAdd, Nat.reduceEqDiff, Nat.reduceLeDiff, Nat.reduceSub, Nat.reduceMul, Int.reduceEq, eq_self, reduceIte, cId])) ?_
                  by_cases h3 : 0 ≤ findE lg (nth ws (k)).id
                  · have hw2 : siWait r lg ws (k) = 4 := by rw [hw1, if_pos (by simp [siBad, h3])]
                    simp only [go_sem, Nat.reduceLT, Nat.reduceAdd, Nat.reduceEqDiff, Nat.reduceLeDiff, Nat.reduceSub, Nat.reduceMul, Int.reduceEq, eq_self, reduceIte, h3]
                    repeat refine ⟨rfl, ?_⟩
                    refine ret_pure hx ?_
                    simp [go_sem, Nat.reduceLT, Nat.reduceAdd, Nat.reduceEqDiff, Nat.reduceLeDiff, Nat.reduceSub, Nat.reduceMul, Int.reduceEq, eq_self, reduceIte, L10, R10, fin 4 hw2 (by decide)]
                  · simp only [go_sem, Nat.reduceLT, Nat.reduceAdd, Nat.reduceEqDiff, Nat.reduceLeDiff, Nat.reduceSub, Nat.reduceMul, Int.reduceEq, eq_self, reduceIte, h3, cE, cSi]
                    refine ops_call (.pureE (isReady_meets lg (nth ws (k)) hok.reg (by omega) hfit.1 (by have := hfit.2; omega)) (by simp [go_sem, Nat.reduceLT, Nat.reduceAdd, Nat.reduceEqDiff, Nat.reduceLeDiff, Nat.reduceSub, Nat.reduceMul, Int.reduceEq, eq_self, reduceIte, cE])) ?_
                    cases h4 : readyB lg (nth ws (k))
                    · have hw2 : siWait r lg ws (k) = 0 := by rw [hw1, if_neg (by rw [siBad, hb1, hd2, h4]; simp [h3])]
                      simp only [go_sem, Nat.reduceLT, Nat.reduceAdd, Nat.reduceEqDiff, Nat.reduceLeDiff, Nat.reduceSub, Nat.reduceMul, Int.reduceEq, eq_self, reduceIte, wk]
                      repeat refine ⟨rfl, ?_⟩
                      refine ⟨by simp, m - 1, by omega, k + 1, by omega, firstNZ_succ hz hw2, ?_⟩
                      simp [trim_mk, go_sem, Nat.reduceLT, Nat.reduceAdd, Nat.reduceEqDiff, Nat.reduceLeDiff, Nat.reduceSub, Nat.reduceMul, Int.reduceEq, eq_self, reduceIte, subHeap, renObj, pos, List.range_succ, cSi]
                    · have hw2 : siWait r lg ws (k) = 4 := by rw [hw1, if_pos (by simp [siBad, h4])]
                      simp only [go_sem, Nat.reduceLT, Nat.reduceAdd, Nat.reduceEqDiff, Nat.reduceLeDiff, Nat.reduceSub, Nat.reduceMul, Int.reduceEq, eq_self, reduceIte]
                      repeat refine ⟨rfl, ?_⟩
                      refine ret_pure hx ?_
                      simp [go_sem, Nat.reduceLT, Nat.reduceAdd, Nat.reduceEqDiff, Nat.reduceLeDiff, Nat.reduceSub, Nat.reduceMul, Int.reduceEq, eq_self, reduceIte, L10, R10, fin 4 hw2 (by decide)]
                · have hw2 : siWait r lg ws (k) = 4 := by rw [hw1, if_pos (by simp [siBad, hd2])]
                  simp only [go_sem, Nat.reduceLT, Nat.reduceAdd, Nat.reduceEqDiff, Nat.reduceLeDiff, Nat.reduceSub, Nat.reduceMul, Int.reduceEq, eq_self, reduceIte, hd2]
                  repeat refine ⟨rfl, ?_⟩
                  refine ret_pure hx ?_
                  simp [go_sem, Nat.reduceLT, Nat.reduceAdd, Nat.reduceEqDiff, Nat.reduceLeDiff, Nat.reduceSub, Nat.reduceMul, Int.reduceEq, eq_self, reduceIte, L10, R10, fin 4 hw2 (by decide)]
            · have hw1 : siWait r lg ws k = checkEntry (nth ws k) := by rw [siWait, if_pos h1]
              simp only [go_sem, Nat.reduceLT, Nat.reduceAdd, Nat.reduceEqDiff, Nat.reduceLeDiff, Nat.reduceSub, Nat.reduceMul, Int.reduceEq, eq_self, reduceIte, h1, cE, cSi]
              refine ret_pure hx ?_
              simp [go_sem, Nat.reduceLT, Nat.reduceAdd, Nat.reduceEqDiff, Nat.reduceLeDiff, Nat.reduceSub, Nat.reduceMul, Int.reduceEq, eq_self, reduceIte, L10, R10, fin _ hw1 h1]
          · obtain rfl : k = ws.length := by omega
            simp only [go_sem, Nat.reduceLT, Nat.reduceAdd, Nat.reduceEqDiff, Nat.reduceLeDiff, Nat.reduceSub, Nat.reduceMul, Int.reduceEq, eq_self, reduceIte, hlt, cSi]
            refine ret_pure hx ?_
            simp [go_sem, Nat.reduceLT, Nat.reduceAdd, Nat.reduceEqDiff, Nat.reduceLeDiff, Nat.reduceSub, Nat.reduceMul, Int.reduceEq, eq_self, reduceIte, L10, R10, hz]
    · have e : siErr r lg ws = checkLog lg := by rw [siErr, if_neg (by simp [hr]), if_pos hlog]
      simp only [go_sem, Nat.reduceLT, Nat.reduceAdd, Nat.reduceEqDiff, Nat.reduceLeDiff, Nat.reduceSub, Nat.reduceMul, Int.reduceEq, eq_self, reduceIte, hlog]
      refine ret_pure hx ?_
      simp [go_sem, Nat.reduceLT, Nat.reduceAdd, Nat.reduceEqDiff, Nat.reduceLeDiff, Nat.reduceSub, Nat.reduceMul, Int.reduceEq, eq_self, reduceIte, L10, R10, e]
set_option maxHeartbeats 4000000 in
theorem settledR_meets : ∀ (n : Nat) (r : Int) (lg ws : List Entry), ws.length = n → lg.length + ws.length ≤ 1000000 → fitE lg → fitE ws →
    Meets Try.prog 35 [.agg (cSi r lg ws)] [] (.agg (cSi3 (r, settled lg ws))) [] := by
  intro n
  induction n with
  | zero =>
    intro r lg ws hn hb hf1 hf2
    obtain rfl : ws = [] := List.length_eq_zero_iff.1 hn
    refine Meets.of_walk Try.func35 Try.ntmps35 low35 res35 (by simp) fun x hx => ?_
    simp only [go_sem, Nat.reduceLT, Nat.reduceAdd, Nat.reduceEqDiff, Nat.reduceLeDiff, Nat.reduceSub, Nat.reduceMul, Int.reduceEq, eq_self, reduceIte, L35, R35, cSi]
    refine loop_inv [1, 2, 3] 2 (fun m st => st = ⟨mkE .top [(1, .ptr 0 0), (2, .ptr 1 0), (3, .int .i64 0)], [.box (cSi r lg []), .box [.int .i64 0, .nilsl, .nilsl]]⟩) 0 (by simp [hx]) (by simp) ?_ ?_
    · simp [trim_mk, go_sem, Nat.reduceLT, Nat.reduceAdd, Nat.reduceEqDiff, Nat.reduceLeDiff, Nat.reduceSub, Nat.reduceMul, Int.reduceEq, eq_self, reduceIte, subHeap, renObj, renCell, renLeaf, pos, List.range_succ, cSi]
    · rintro m st rfl
      simp only [go_sem, Nat.reduceLT, Nat.reduceAdd, Nat.reduceEqDiff, Nat.reduceLeDiff, Nat.reduceSub, Nat.reduceMul, Int.reduceEq, eq_self, reduceIte, cSi, Int.ofNat_zero, Int.natCast_one, Int.cast_ofNat_Int, Int.reduceLT, Int.reduceLE, Int.reduceToNat, Nat.reduceLT, Int.toNat_zero, Int.natCast_zero, Int.le_refl, Int.lt_irrefl, Int.reduceAdd, frz, false_or, or_true]
      refine ret_pure hx ?_
      simp [go_sem, Nat.reduceLT, Nat.reduceAdd, Nat.reduceEqDiff, Nat.reduceLeDiff, Nat.reduceSub, Nat.reduceMul, Int.reduceEq, eq_self, reduceIte, L35, R35, settled, settleN, cSi3, cSi]
  | succ n ih =>
    intro r lg ws hn hb hf1 hf2
    refine Meets.of_walk Try.func35 Try.ntmps35 low35 res35 (by simp) fun x hx => ?_
    simp only [go_sem, Nat.reduceLT, Nat.reduceAdd, Nat.reduceEqDiff, Nat.reduceLeDiff, Nat.reduceSub, Nat.reduceMul, Int.reduceEq, eq_self, reduceIte, L35, R35, cSi]
    refine loop_inv [1, 2, 3] 2 (fun m st => ∃ k : Nat, k + m = ws.length ∧ idxF (readyB lg) (ws.drop k) k = rdyI lg ws ∧
      st = ⟨mkE .top [(1, .ptr 0 0), (2, .ptr 1 0), (3, .int .i64 k)], [.box (cSi r lg ws), .box [.int .i64 0, .nilsl, .nilsl]]⟩) ws.length (by simp [hx]) (by simp) ?_ ?_
    · refine ⟨0, by omega, by simp [rdyI], ?_⟩
      simp [trim_mk, go_sem, Nat.reduceLT, Nat.reduceAdd, Nat.reduceEqDiff, Nat.reduceLeDiff, Nat.reduceSub, Nat.reduceMul, Int.reduceEq, eq_self, reduceIte, subHeap, renObj, renCell, renLeaf, pos, List.range_succ, cSi]
    · rintro m st ⟨k, hk, hi, rfl⟩
      by_cases hlt : k < ws.length
      · have hg : ws[k]? = some (nth ws k) := nth_get? _ _ hlt
        have wk := i64_up (k := k) (by omega)
        have hfe := hf2 _ (nthM hlt)
        rw [idxF_drop _ ws k hlt] at hi
        simp only [go_sem, Nat.reduceLT, Nat.reduceAdd, Nat.reduceEqDiff, Nat.reduceLeDiff, Nat.reduceSub, Nat.reduceMul, Int.reduceEq, eq_self, reduceIte, hlt, hg, cE, cSi]
        refine ops_call (.pureE (isReady_meets lg (nth ws k) (fit_reg hf1) (by omega) hfe.1 (by have := hfe.2; omega)) (by simp [go_sem, Nat.reduceLT, Nat.reduceAdd, Nat.reduceEqDiff, Nat.reduceLeDiff, Nat.reduceSub, Nat.reduceMul, Int.reduceEq, eq_self, reduceIte, cE])) ?_
        cases hrd : readyB lg (nth ws k)
        · rw [if_neg (by simp [hrd])] at hi
          simp only [go_sem, Nat.reduceLT, Nat.reduceAdd, Nat.reduceEqDiff, Nat.reduceLeDiff, Nat.reduceSub, Nat.reduceMul, Int.reduceEq, eq_self, reduceIte, wk]
          refine ⟨by simp, m - 1, by omega, k + 1, by omega, hi, ?_⟩
          simp [trim_mk, go_sem, Nat.reduceLT, Nat.reduceAdd, Nat.reduceEqDiff, Nat.reduceLeDiff, Nat.reduceSub, Nat.reduceMul, Int.reduceEq, eq_self, reduceIte, subHeap, renObj, renCell, renLeaf, pos, List.range_succ, cSi]
        · rw [if_pos hrd] at hi
          have hs := settled_step (lg := lg) (ws := ws) (by rw [← hi]; omega)
          rw [← hi, Int.toNat_natCast] at hs
          have hrow1 : (∀ row ∈ List.map cE ws, row.length = 5) = True := eq_true (cE_row ws)
          have hq1 : k ≤ ws.length := by omega
          have hq2 : k + 1 ≤ ws.length := by omega
          simp only [go_sem, Nat.reduceLT, Nat.reduceAdd, Nat.reduceEqDiff, Nat.reduceLeDiff, Nat.reduceSub, Nat.reduceMul, Int.reduceEq, eq_self, reduceIte, cE, cSi]
          rw [app_arr rfl rfl (cE_row lg) (by simp; omega)]
          simp only [go_sem, Nat.reduceLT, Nat.reduceAdd, Nat.reduceEqDiff, Nat.reduceLeDiff, Nat.reduceSub, Nat.reduceMul, Int.reduceEq, eq_self, reduceIte, hlt, hg, cE, cSi]
          rw [app_arr rfl rfl (by simp) (by simp; omega)]
          have hce : List.map cE lg ++ [[PV.int .i64 (nth ws k).id.r, .int .i64 (nth ws k).id.n, .int .i64 (nth ws k).c, .str (nth ws k).t, .list ((nth ws k).ls.map cId)]] = (lg ++ [nth ws k]).map cE := by simp [cE]
          simp only [go_sem, Nat.reduceLT, Nat.reduceAdd, Nat.reduceEqDiff, Nat.reduceLeDiff, Nat.reduceSub, Nat.reduceMul, Int.reduceEq, eq_self, reduceIte, hce]
          repeat refine ⟨rfl, ?_⟩
          simp only [go_sem, Nat.reduceLT, Nat.reduceAdd, Nat.reduceEqDiff, Nat.reduceLeDiff, Nat.reduceSub, Nat.reduceMul, Int.reduceEq, eq_self, reduceIte, cSi, wk, hrow1, hq1, hq2, Int.le_refl, Int.sub_zero, Int.toNat_zero]
          rw [app_arr rfl rfl (fun row h => cE_row ws row (List.mem_of_mem_take h)) (by simp; omega)]
          simp only [go_sem, Nat.reduceLT, Nat.reduceAdd, Nat.reduceEqDiff, Nat.reduceLeDiff, Nat.reduceSub, Nat.reduceMul, Int.reduceEq, eq_self, reduceIte, cSi, wk, hrow1, hq1, hq2, Int.le_refl, Int.sub_zero, Int.toNat_zero]
          have htd : List.take ((ws.length : Int) - ((k + 1 : Nat) : Int)).toNat (List.drop (k + 1) (List.map cE ws)) = List.drop (k + 1) (List.map cE ws) := List.take_of_length_le (by simp; omega)
          have her : List.take k (List.map cE ws) ++ List.drop (k + 1) (List.map cE ws) = (ws.eraseIdx k).map cE := by rw [← eraseIdx_mapE, List.eraseIdx_eq_take_drop_succ]
          rw [htd, app_arr rfl rfl (fun row h => cE_row ws row (List.mem_of_mem_drop h)) (by simp; omega)]
          simp only [go_sem, Nat.reduceLT, Nat.reduceAdd, Nat.reduceEqDiff, Nat.reduceLeDiff, Nat.reduceSub, Nat.reduceMul, Int.reduceEq, eq_self, reduceIte, her]
          repeat refine ⟨rfl, ?_⟩
          have hel : (ws.eraseIdx k).length = n := by rw [List.length_eraseIdx, if_pos hlt]; omega
          refine ops_call (.pureME (H1 := [.box (cSi r lg ws), .box [.int .i64 0, .nilsl, .nilsl], .box [.int .i64 r, .arr 3 2, .arr 4 2], .arr 2 false false 29 5 ((lg ++ [nth ws k]).map cE), .arr 2 false false 29 5 ((ws.eraseIdx k).map cE)])
            (ih r (lg ++ [nth ws k]) (ws.eraseIdx k) (by omega) (by simp; omega) (fit_app hf1 hfe) (fit_erase hf2 k)) (Milder.trans (Milder.shut 3 rfl) (Milder.shut 4 rfl)) (by simp [go_sem, Nat.reduceLT, Nat.reduceAdd, Nat.reduceEqDiff, Nat.reduceLeDiff, Nat.reduceSub, Nat.reduceMul, Int.reduceEq, eq_self, reduceIte, frzAt, pos, cSi])) ?_
          rw [← hs]
          simp only [go_sem, Nat.reduceLT, Nat.reduceAdd, Nat.reduceEqDiff, Nat.reduceLeDiff, Nat.reduceSub, Nat.reduceMul, Int.reduceEq, eq_self, reduceIte, cSi3, cSi]
          repeat refine ⟨rfl, ?_⟩
          refine ret_pure hx ?_
          simp [go_sem, Nat.reduceLT, Nat.reduceAdd, Nat.reduceEqDiff, Nat.reduceLeDiff, Nat.reduceSub, Nat.reduceMul, Int.reduceEq, eq_self, reduceIte, L35, R35, cSi3, cSi]
      · have : ws.drop k = [] := List.drop_eq_nil_of_le (by omega)
        rw [this] at hi
        have hs := settled_end (lg := lg) (ws := ws) (by rw [← hi]; simp [idxF])
        simp only [go_sem, Nat.reduceLT, Nat.reduceAdd, Nat.reduceEqDiff, Nat.reduceLeDiff, Nat.reduceSub, Nat.reduceMul, Int.reduceEq, eq_self, reduceIte, hlt, cSi]
        refine ret_pure hx ?_
        simp [go_sem, Nat.reduceLT, Nat.reduceAdd, Nat.reduceEqDiff, Nat.reduceLeDiff, Nat.reduceSub, Nat.reduceMul, Int.reduceEq, eq_self, reduceIte, L35, R35, hs, cSi3, cSi]
end Go.Proofs.Ytiandbolipoebaa
/- Sites, in the law text's words: AppendOf, ReceiveOf, SameLog and SameSite at one thing twice, siteIs: contracts. -/
namespace Go.Proofs.Ytiandbolipoebaa
set_option linter.unusedSimpArgs false
set_option linter.unusedVariables false
open Go.RowKit
theorem sameLog_meets (l : List Entry) (hl : l.length ≤ 9223372036854775806) : Meets Try.prog 19 [.list (l.map cE), .list (l.map cE)] [] (.bool true) [] := by
  refine Meets.of_walk Try.func19 Try.ntmps19 low19 res19 (by simp) fun x hx => ?_
  simp only [go_sem, Nat.reduceLT, Nat.reduceAdd, Nat.reduceEqDiff, Nat.reduceLeDiff, Nat.reduceSub, Nat.reduceMul, Int.reduceEq, eq_self, reduceIte, L19, R19]
  refine loop_inv [0, 1, 5] 0 (fun n st => ∃ k : Nat, k + n = l.length ∧
    st = ⟨mkE .top [(0, .list (l.map cE)), (1, .list (l.map cE)), (5, .int .i64 k)], []⟩) l.length (by simp [hx]) (by simp) ?_ ?_
  · refine ⟨0, by omega, ?_⟩
    simp [trim_mk, go_sem, Nat.reduceLT, Nat.reduceAdd, Nat.reduceEqDiff, Nat.reduceLeDiff, Nat.reduceSub, Nat.reduceMul, Int.reduceEq, eq_self, reduceIte, subHeap, renObj, pos]
  · rintro n st ⟨k, hk, rfl⟩
    by_cases hlt : k < l.length
    · have hg : l[k]? = some (nth l k) := nth_get? _ _ hlt
      have wk := i64_up (k := k) (by omega)
      have hs : sameE (nth l k) (nth l k) = true := by simp [sameE]
      simp only [go_sem, Nat.reduceLT, Nat.reduceAdd, Nat.reduceEqDiff, Nat.reduceLeDiff, Nat.reduceSub, Nat.reduceMul, Int.reduceEq, eq_self, reduceIte, hlt, hg, cE]
      refine ops_call (.pureE (sameEntry_meets (nth l k) (nth l k)) (by simp [go_sem, Nat.reduceLT, Nat.reduceAdd, Nat.reduceEqDiff, Nat.reduceLeDiff, Nat.reduceSub, Nat.reduceMul, Int.reduceEq, eq_self, reduceIte, cE])) ?_
      rw [hs]
      simp only [go_sem, Nat.reduceLT, Nat.reduceAdd, Nat.reduceEqDiff, Nat.reduceLeDiff, Nat.reduceSub, Nat.reduceMul, Int.reduceEq, eq_self, reduceIte, wk]
      repeat refine ⟨rfl, ?_⟩
      refine ⟨by simp, n - 1, by omega, k + 1, by omega, ?_⟩
      simp [trim_mk, go_sem, Nat.reduceLT, Nat.reduceAdd, Nat.reduceEqDiff, Nat.reduceLeDiff, Nat.reduceSub, Nat.reduceMul, Int.reduceEq, eq_self, reduceIte, subHeap, renObj, pos]
    · simp only [go_sem, Nat.reduceLT, Nat.reduceAdd, Nat.reduceEqDiff, Nat.reduceLeDiff, Nat.reduceSub, Nat.reduceMul, Int.reduceEq, eq_self, reduceIte, hlt]
      refine ret_pure hx ?_
      simp [go_sem, Nat.reduceLT, Nat.reduceAdd, Nat.reduceEqDiff, Nat.reduceLeDiff, Nat.reduceSub, Nat.reduceMul, Int.reduceEq, eq_self, reduceIte, L19, R19]
theorem sameSite_meets (s : Int × List Entry × List Entry) (h1 : s.2.1.length ≤ 9223372036854775806) (h2 : s.2.2.length ≤ 9223372036854775806) : Meets Try.prog 20 [.agg (cSi3 s), .agg (cSi3 s)] [] (.bool true) [] := by
  refine Meets.of_walk Try.func20 Try.ntmps20 low20 res20 (by simp) fun x hx => ?_
  simp only [go_sem, Nat.reduceLT, Nat.reduceAdd, Nat.reduceEqDiff, Nat.reduceLeDiff, Nat.reduceSub, Nat.reduceMul, Int.reduceEq, eq_self, reduceIte, L20, R20, cSi3, cSi]
  refine ops_call (.pureE (sameLog_meets s.2.1 h1) (by simp [go_sem, Nat.reduceLT, Nat.reduceAdd, Nat.reduceEqDiff, Nat.reduceLeDiff, Nat.reduceSub, Nat.reduceMul, Int.reduceEq, eq_self, reduceIte])) ?_
  simp only [go_sem, Nat.reduceLT, Nat.reduceAdd, Nat.reduceEqDiff, Nat.reduceLeDiff, Nat.reduceSub, Nat.reduceMul, Int.reduceEq, eq_self, reduceIte, cSi]
  refine ops_call (.pureE (sameLog_meets s.2.2 h2) (by simp [go_sem, Nat.reduceLT, Nat.reduceAdd, Nat.reduceEqDiff, Nat.reduceLeDiff, Nat.reduceSub, Nat.reduceMul, Int.reduceEq, eq_self, reduceIte])) ?_
  simp only [go_sem, Nat.reduceLT, Nat.reduceAdd, Nat.reduceEqDiff, Nat.reduceLeDiff, Nat.reduceSub, Nat.reduceMul, Int.reduceEq, eq_self, reduceIte]
  refine ret_pure hx ?_
  simp [go_sem, Nat.reduceLT, Nat.reduceAdd, Nat.reduceEqDiff, Nat.reduceLeDiff, Nat.reduceSub, Nat.reduceMul, Int.reduceEq, eq_self, reduceIte, L20, R20]
theorem siteIs_meets (e : Int) (s : Int × List Entry × List Entry) (h1 : s.2.1.length ≤ 9223372036854775806) (h2 : s.2.2.length ≤ 9223372036854775806) :
    Meets Try.prog 16 [.agg (if e = 0 then cSi3 s else cSi 0 [] []), .int .i64 e, .int .i64 e, .agg (cSi3 s)] [] (.bool true) [] := by
  refine Meets.of_walk Try.func16 Try.ntmps16 low16 res16 (by simp) fun x hx => ?_
  by_cases h : e = 0
  · simp only [go_sem, Nat.reduceLT, Nat.reduceAdd, Nat.reduceEqDiff, Nat.reduceLeDiff, Nat.reduceSub, Nat.reduceMul, Int.reduceEq, eq_self, reduceIte, L16, R16, h, cSi3, cSi]
    refine ops_call (.pureE (sameSite_meets s h1 h2) (by simp [go_sem, Nat.reduceLT, Nat.reduceAdd, Nat.reduceEqDiff, Nat.reduceLeDiff, Nat.reduceSub, Nat.reduceMul, Int.reduceEq, eq_self, reduceIte, cSi3, cSi])) ?_
    simp only [go_sem, Nat.reduceLT, Nat.reduceAdd, Nat.reduceEqDiff, Nat.reduceLeDiff, Nat.reduceSub, Nat.reduceMul, Int.reduceEq, eq_self, reduceIte]
    refine ret_pure hx ?_
    simp [go_sem, Nat.reduceLT, Nat.reduceAdd, Nat.reduceEqDiff, Nat.reduceLeDiff, Nat.reduceSub, Nat.reduceMul, Int.reduceEq, eq_self, reduceIte, L16, R16]
  · simp only [go_sem, Nat.reduceLT, Nat.reduceAdd, Nat.reduceEqDiff, Nat.reduceLeDiff, Nat.reduceSub, Nat.reduceMul, Int.reduceEq, eq_self, reduceIte, L16, R16, h, cSi3, cSi]
    refine ops_call (.pureE (sameSite_meets (0, [], []) (by simp) (by simp)) (by simp [go_sem, Nat.reduceLT, Nat.reduceAdd, Nat.reduceEqDiff, Nat.reduceLeDiff, Nat.reduceSub, Nat.reduceMul, Int.reduceEq, eq_self, reduceIte, cSi3, cSi])) ?_
    simp only [go_sem, Nat.reduceLT, Nat.reduceAdd, Nat.reduceEqDiff, Nat.reduceLeDiff, Nat.reduceSub, Nat.reduceMul, Int.reduceEq, eq_self, reduceIte]
    refine ret_pure hx ?_
    simp [go_sem, Nat.reduceLT, Nat.reduceAdd, Nat.reduceEqDiff, Nat.reduceLeDiff, Nat.reduceSub, Nat.reduceMul, Int.reduceEq, eq_self, reduceIte, L16, R16]
set_option maxHeartbeats 4000000 in
theorem appendOf_meets (r : Int) (lg ws : List Entry) (c : Int) (t : ByteArray) (hr : r = 0 ∨ r = 1) (h : LogOk lg) (hw : ws.length ≤ 20) (hf : fitE ws) :
    Meets Try.prog 12 [.agg (cSi r lg ws), .int .i64 c, .str t] [] (.tup [.agg (cSi3 (apSi r lg ws c t)), .agg (cE (apEn r lg c t)), .int .i64 (apErr r lg c t)]) [] := by
  have hlen := h.len
  refine Meets.of_parts Try.func12 Try.ntmps12 low12 res12 (by simp) fun x hx => ?_
  simp only [L12, R12, LC.flat, List.cons_append, List.nil_append]
  refine WL_join 7 [6, 7, 9, 10] 6 (fun st => apErr r lg c t = 0 ∧ st = ⟨mkE .top [(6, .ptr 1 0), (7, .ptr 2 0), (9, .ptr 3 0), (10, .ptr 5 0)],
    [.box (cSi r lg ws), .box [.int .i64 0, .nilsl, .nilsl], .box [.int .i64 0, .int .i64 0, .int .i64 0, .str ⟨#[]⟩, .nilsl], .box (cE (apE r lg c t)), .arr 3 false false 29 5 ((lg ++ [apE r lg c t]).map cE), .box [.int .i64 r, .arr 4 3, .list (ws.map cE)]]⟩) (by simp [hx]) (by simp) ?_ ?_
  · simp only [List.take_succ_cons, List.take_zero]
    simp only [go_sem, Nat.reduceLT, Nat.reduceAdd, Nat.reduceEqDiff, Nat.reduceLeDiff, Nat.reduceSub, Nat.reduceMul, Int.reduceEq, eq_self, reduceIte, cSi]
    refine ops_call (.pureE (between_meets c 1 7) (by simp [go_sem, Nat.reduceLT, Nat.reduceAdd, Nat.reduceEqDiff, Nat.reduceLeDiff, Nat.reduceSub, Nat.reduceMul, Int.reduceEq, eq_self, reduceIte])) ?_
    cases hc : wthn c 1 7
    · have e : apErr r lg c t = 3 := by rw [apErr, if_pos hc]
      simp only [go_sem, Nat.reduceLT, Nat.reduceAdd, Nat.reduceEqDiff, Nat.reduceLeDiff, Nat.reduceSub, Nat.reduceMul, Int.reduceEq, eq_self, reduceIte]
      refine ret_pure hx ?_
      simp [go_sem, Nat.reduceLT, Nat.reduceAdd, Nat.reduceEqDiff, Nat.reduceLeDiff, Nat.reduceSub, Nat.reduceMul, Int.reduceEq, eq_self, reduceIte, L12, R12, apSi, apEn, e, cSi3, cSi, cE, zE]
    · have e0 : apErr r lg c t = if 12 < t.size ∨ (20 : Int) < (cntR lg r : Int) + 1 ∨ lg.length = 40 ∨ 6 < (sortI (headsC lg c)).length then 2 else 0 := by rw [apErr, if_neg (by simp [hc])]
      rcases hr with rfl | rfl
      · skip
        have hcn : IntKind.i64.wrap ((cntR lg 0 : Int) + 1) = (cntR lg 0 : Int) + 1 := by have := cntR_le lg 0; rw [IntWalk.i64_in _ (by omega)]
        simp only [go_sem, Nat.reduceLT, Nat.reduceAdd, Nat.reduceEqDiff, Nat.reduceLeDiff, Nat.reduceSub, Nat.reduceMul, Int.reduceEq, eq_self, reduceIte, cSi]
        refine ops_call (.pureE (countOf_meets lg h.reg (by omega)) (by simp [go_sem, Nat.reduceLT, Nat.reduceAdd, Nat.reduceEqDiff, Nat.reduceLeDiff, Nat.reduceSub, Nat.reduceMul, Int.reduceEq, eq_self, reduceIte])) ?_
        simp only [go_sem, Nat.reduceLT, Nat.reduceAdd, Nat.reduceEqDiff, Nat.reduceLeDiff, Nat.reduceSub, Nat.reduceMul, Int.reduceEq, eq_self, reduceIte, cSi, Int.ofNat_zero, Int.natCast_one, Int.cast_ofNat_Int, Int.reduceLT, Int.reduceLE, Int.reduceToNat, Nat.reduceLT, Int.toNat_zero, Int.natCast_zero, Int.le_refl, Int.lt_irrefl, Int.reduceAdd, frz, false_or, or_true, hcn]
        refine ops_call (.pureE (headsOf_meets lg c h hc) (by simp [go_sem, Nat.reduceLT, Nat.reduceAdd, Nat.reduceEqDiff, Nat.reduceLeDiff, Nat.reduceSub, Nat.reduceMul, Int.reduceEq, eq_self, reduceIte])) ?_
        rw [heads_eq h c]
        simp only [go_sem, Nat.reduceLT, Nat.reduceAdd, Nat.reduceEqDiff, Nat.reduceLeDiff, Nat.reduceSub, Nat.reduceMul, Int.reduceEq, eq_self, reduceIte, cSi]
        repeat refine ⟨rfl, ?_⟩
        by_cases d1 : (12 : Int) < (t.size : Int)
        · have e : apErr 0 lg c t = 2 := by rw [e0, if_pos (by omega)]
          simp only [go_sem, Nat.reduceLT, Nat.reduceAdd, Nat.reduceEqDiff, Nat.reduceLeDiff, Nat.reduceSub, Nat.reduceMul, Int.reduceEq, eq_self, reduceIte, d1]
          refine ret_pure hx ?_
          simp [go_sem, Nat.reduceLT, Nat.reduceAdd, Nat.reduceEqDiff, Nat.reduceLeDiff, Nat.reduceSub, Nat.reduceMul, Int.reduceEq, eq_self, reduceIte, L12, R12, apSi, apEn, e, cSi3, cSi, cE, zE]
        · by_cases d2 : (20 : Int) < (cntR lg 0 : Int) + 1
          · have e : apErr 0 lg c t = 2 := by rw [e0, if_pos (by omega)]
            simp only [go_sem, Nat.reduceLT, Nat.reduceAdd, Nat.reduceEqDiff, Nat.reduceLeDiff, Nat.reduceSub, Nat.reduceMul, Int.reduceEq, eq_self, reduceIte, d1, d2]
            refine ret_pure hx ?_
            simp [go_sem, Nat.reduceLT, Nat.reduceAdd, Nat.reduceEqDiff, Nat.reduceLeDiff, Nat.reduceSub, Nat.reduceMul, Int.reduceEq, eq_self, reduceIte, L12, R12, apSi, apEn, e, cSi3, cSi, cE, zE]
          · by_cases d3 : (lg.length : Int) = 40
            · have e : apErr 0 lg c t = 2 := by rw [e0, if_pos (by omega)]
              simp only [go_sem, Nat.reduceLT, Nat.reduceAdd, Nat.reduceEqDiff, Nat.reduceLeDiff, Nat.reduceSub, Nat.reduceMul, Int.reduceEq, eq_self, reduceIte, d1, d2, d3, cSi]
              refine ret_pure hx ?_
              simp [go_sem, Nat.reduceLT, Nat.reduceAdd, Nat.reduceEqDiff, Nat.reduceLeDiff, Nat.reduceSub, Nat.reduceMul, Int.reduceEq, eq_self, reduceIte, L12, R12, apSi, apEn, e, cSi3, cSi, cE, zE]
            · by_cases d4 : (6 : Int) < ((sortI (headsC lg c)).length : Int)
              · have e : apErr 0 lg c t = 2 := by rw [e0, if_pos (by omega)]
                simp only [go_sem, Nat.reduceLT, Nat.reduceAdd, Nat.reduceEqDiff, Nat.reduceLeDiff, Nat.reduceSub, Nat.reduceMul, Int.reduceEq, eq_self, reduceIte, d1, d2, d3, d4, cSi]
                refine ret_pure hx ?_
                simp [go_sem, Nat.reduceLT, Nat.reduceAdd, Nat.reduceEqDiff, Nat.reduceLeDiff, Nat.reduceSub, Nat.reduceMul, Int.reduceEq, eq_self, reduceIte, L12, R12, apSi, apEn, e, cSi3, cSi, cE, zE]
              · have e : apErr 0 lg c t = 0 := by rw [e0, if_neg (by omega)]
                simp only [go_sem, Nat.reduceLT, Nat.reduceAdd, Nat.reduceEqDiff, Nat.reduceLeDiff, Nat.reduceSub, Nat.reduceMul, Int.reduceEq, eq_self, reduceIte, d1, d2, d3, d4, cSi]
                rw [app_arr rfl rfl (cE_row lg) (by simp; omega)]
                simp only [go_sem, Nat.reduceLT, Nat.reduceAdd, Nat.reduceEqDiff, Nat.reduceLeDiff, Nat.reduceSub, Nat.reduceMul, Int.reduceEq, eq_self, reduceIte, cSi]
                rw [app_arr rfl rfl (by simp) (by simp; omega)]
                have hce : List.map cE lg ++ [[PV.int .i64 0, .int .i64 ((cntR lg 0 : Int) + 1), .int .i64 c, .str t, .list ((sortI (headsC lg c)).map cId)]] = (lg ++ [apE 0 lg c t]).map cE := by simp [cE, apE]
                simp only [go_sem, Nat.reduceLT, Nat.reduceAdd, Nat.reduceEqDiff, Nat.reduceLeDiff, Nat.reduceSub, Nat.reduceMul, Int.reduceEq, eq_self, reduceIte, hce]
                repeat refine ⟨rfl, ?_⟩
                refine ⟨by simp, _, weak_shut 4 (v := 3) (T := 29) (sz := 5) (sto := true) (rows := (lg ++ [apE 0 lg c t]).map cE) (by simp [trim_mk, subHeap, renObj, pos, List.range_succ]), e, ?_⟩
                simp [trim_mk, go_sem, Nat.reduceLT, Nat.reduceAdd, Nat.reduceEqDiff, Nat.reduceLeDiff, Nat.reduceSub, Nat.reduceMul, Int.reduceEq, eq_self, reduceIte, subHeap, renObj, renCell, renLeaf, pos, List.range_succ, cSi, cE, apE]
      · skip
        have hcn : IntKind.i64.wrap ((cntR lg 1 : Int) + 1) = (cntR lg 1 : Int) + 1 := by have := cntR_le lg 1; rw [IntWalk.i64_in _ (by omega)]
        simp only [go_sem, Nat.reduceLT, Nat.reduceAdd, Nat.reduceEqDiff, Nat.reduceLeDiff, Nat.reduceSub, Nat.reduceMul, Int.reduceEq, eq_self, reduceIte, cSi]
        refine ops_call (.pureE (countOf_meets lg h.reg (by omega)) (by simp [go_sem, Nat.reduceLT, Nat.reduceAdd, Nat.reduceEqDiff, Nat.reduceLeDiff, Nat.reduceSub, Nat.reduceMul, Int.reduceEq, eq_self, reduceIte])) ?_
        simp only [go_sem, Nat.reduceLT, Nat.reduceAdd, Nat.reduceEqDiff, Nat.reduceLeDiff, Nat.reduceSub, Nat.reduceMul, Int.reduceEq, eq_self, reduceIte, cSi, Int.ofNat_zero, Int.natCast_one, Int.cast_ofNat_Int, Int.reduceLT, Int.reduceLE, Int.reduceToNat, Nat.reduceLT, Int.toNat_zero, Int.natCast_zero, Int.le_refl, Int.lt_irrefl, Int.reduceAdd, frz, false_or, or_true, hcn]
        refine ops_call (.pureE (headsOf_meets lg c h hc) (by simp [go_sem, Nat.reduceLT, Nat.reduceAdd, Nat.reduceEqDiff, Nat.reduceLeDiff, Nat.reduceSub, Nat.reduceMul, Int.reduceEq, eq_self, reduceIte])) ?_
        rw [heads_eq h c]
        simp only [go_sem, Nat.reduceLT, Nat.reduceAdd, Nat.reduceEqDiff, Nat.reduceLeDiff, Nat.reduceSub, Nat.reduceMul, Int.reduceEq, eq_self, reduceIte, cSi]
        repeat refine ⟨rfl, ?_⟩
        by_cases d1 : (12 : Int) < (t.size : Int)
        · have e : apErr 1 lg c t = 2 := by rw [e0, if_pos (by omega)]
          simp only [go_sem, Nat.reduceLT, Nat.reduceAdd, Nat.reduceEqDiff, Nat.reduceLeDiff, Nat.reduceSub, Nat.reduceMul, Int.reduceEq, eq_self, reduceIte, d1]
          refine ret_pure hx ?_
          simp [go_sem, Nat.reduceLT, Nat.reduceAdd, Nat.reduceEqDiff, Nat.reduceLeDiff, Nat.reduceSub, Nat.reduceMul, Int.reduceEq, eq_self, reduceIte, L12, R12, apSi, apEn, e, cSi3, cSi, cE, zE]
        · by_cases d2 : (20 : Int) < (cntR lg 1 : Int) + 1
          · have e : apErr 1 lg c t = 2 := by rw [e0, if_pos (by omega)]
            simp only [go_sem, Nat.reduceLT, Nat.reduceAdd, Nat.reduceEqDiff, Nat.reduceLeDiff, Nat.reduceSub, Nat.reduceMul, Int.reduceEq, eq_self, reduceIte, d1, d2]
            refine ret_pure hx ?_
            simp [go_sem, Nat.reduceLT, Nat.reduceAdd, Nat.reduceEqDiff, Nat.reduceLeDiff, Nat.reduceSub, Nat.reduceMul, Int.reduceEq, eq_self, reduceIte, L12, R12, apSi, apEn, e, cSi3, cSi, cE, zE]
          · by_cases d3 : (lg.length : Int) = 40
            · have e : apErr 1 lg c t = 2 := by rw [e0, if_pos (by omega)]
              simp only [go_sem, Nat.reduceLT, Nat.reduceAdd, Nat.reduceEqDiff, Nat.reduceLeDiff, Nat.reduceSub, Nat.reduceMul, Int.reduceEq, eq_self, reduceIte, d1, d2, d3, cSi]
              refine ret_pure hx ?_
              simp [go_sem, Nat.reduceLT, Nat.reduceAdd, Nat.reduceEqDiff, Nat.reduceLeDiff, Nat.reduceSub, Nat.reduceMul, Int.reduceEq, eq_self, reduceIte, L12, R12, apSi, apEn, e, cSi3, cSi, cE, zE]
            · by_cases d4 : (6 : Int) < ((sortI (headsC lg c)).length : Int)
              · have e : apErr 1 lg c t = 2 := by rw [e0, if_pos (by omega)]
                simp only [go_sem, Nat.reduceLT, Nat.reduceAdd, Nat.reduceEqDiff, Nat.reduceLeDiff, Nat.reduceSub, Nat.reduceMul, Int.reduceEq, eq_self, reduceIte, d1, d2, d3, d4, cSi]
                refine ret_pure hx ?_
                simp [go_sem, Nat.reduceLT, Nat.reduceAdd, Nat.reduceEqDiff, Nat.reduceLeDiff, Nat.reduceSub, Nat.reduceMul, Int.reduceEq, eq_self, reduceIte, L12, R12, apSi, apEn, e, cSi3, cSi, cE, zE]
              · have e : apErr 1 lg c t = 0 := by rw [e0, if_neg (by omega)]
                simp only [go_sem, Nat.reduceLT, Nat.reduceAdd, Nat.reduceEqDiff, Nat.reduceLeDiff, Nat.reduceSub, Nat.reduceMul, Int.reduceEq, eq_self, reduceIte, d1, d2, d3, d4, cSi]
                rw [app_arr rfl rfl (cE_row lg) (by simp; omega)]
                simp only [go_sem, Nat.reduceLT, Nat.reduceAdd, Nat.reduceEqDiff, Nat.reduceLeDiff, Nat.reduceSub, Nat.reduceMul, Int.reduceEq, eq_self, reduceIte, cSi]
                rw [app_arr rfl rfl (by simp) (by simp; omega)]
                have hce : List.map cE lg ++ [[PV.int .i64 1, .int .i64 ((cntR lg 1 : Int) + 1), .int .i64 c, .str t, .list ((sortI (headsC lg c)).map cId)]] = (lg ++ [apE 1 lg c t]).map cE := by simp [cE, apE]
                simp only [go_sem, Nat.reduceLT, Nat.reduceAdd, Nat.reduceEqDiff, Nat.reduceLeDiff, Nat.reduceSub, Nat.reduceMul, Int.reduceEq, eq_self, reduceIte, hce]
                repeat refine ⟨rfl, ?_⟩
                refine ⟨by simp, _, weak_shut 4 (v := 3) (T := 29) (sz := 5) (sto := true) (rows := (lg ++ [apE 1 lg c t]).map cE) (by simp [trim_mk, subHeap, renObj, pos, List.range_succ]), e, ?_⟩
                simp [trim_mk, go_sem, Nat.reduceLT, Nat.reduceAdd, Nat.reduceEqDiff, Nat.reduceLeDiff, Nat.reduceSub, Nat.reduceMul, Int.reduceEq, eq_self, reduceIte, subHeap, renObj, renCell, renLeaf, pos, List.range_succ, cSi, cE, apE]
  · rintro st ⟨e, rfl⟩
    simp only [List.drop_succ_cons, List.drop_zero]
    refine WL_walk ?_
    simp only [go_sem, Nat.reduceLT, Nat.reduceAdd, Nat.reduceEqDiff, Nat.reduceLeDiff, Nat.reduceSub, Nat.reduceMul, Int.reduceEq, eq_self, reduceIte]
    refine ops_call (.pureE (settledR_meets ws.length r (lg ++ [apE r lg c t]) ws rfl (by simp; omega) (fit_app (log_fit h) (ap_fit hr hlen)) hf) (by simp [go_sem, Nat.reduceLT, Nat.reduceAdd, Nat.reduceEqDiff, Nat.reduceLeDiff, Nat.reduceSub, Nat.reduceMul, Int.reduceEq, eq_self, reduceIte, frzAt, pos, cSi])) ?_
    simp only [go_sem, Nat.reduceLT, Nat.reduceAdd, Nat.reduceEqDiff, Nat.reduceLeDiff, Nat.reduceSub, Nat.reduceMul, Int.reduceEq, eq_self, reduceIte, cSi3, cSi, cE]
    repeat refine ⟨rfl, ?_⟩
    refine ret_pure hx ?_
    simp [go_sem, Nat.reduceLT, Nat.reduceAdd, Nat.reduceEqDiff, Nat.reduceLeDiff, Nat.reduceSub, Nat.reduceMul, Int.reduceEq, eq_self, reduceIte, L12, R12, apSi, apEn, e, cSi3, cSi, cE]
end Go.Proofs.Ytiandbolipoebaa
/- Sites, in the law text's words: ReceiveOf: a contract. -/
namespace Go.Proofs.Ytiandbolipoebaa
set_option linter.unusedSimpArgs false
set_option linter.unusedVariables false
open Go.RowKit
theorem posE_spec {l : List Entry} (hu : upE l) (y : Id) : posE l y ≤ l.length ∧ (∀ k, k < posE l y → lessB (nth l k).id y = true) ∧ ∀ k, posE l y ≤ k → k < l.length → lessB (nth l k).id y = false := by
  have key : ∀ m, m ≤ l.length → ∃ i, i ≤ m ∧ (∀ k, k < i → lessB (nth l k).id y = true) ∧ ∀ k, i ≤ k → k < m → lessB (nth l k).id y = false := by
    intro m
    induction m with
    | zero => intro _; exact ⟨0, Nat.le_refl _, fun k h => by omega, fun k a b => by omega⟩
    | succ m ih =>
      intro hm
      by_cases h : lessB (nth l m).id y = true
      · refine ⟨m + 1, Nat.le_refl _, fun k hk => ?_, fun k a b => by omega⟩
        by_cases e : k = m
        · subst e; exact h
        · exact lessB_trans (hu k m (by omega) (by omega)) h
      · obtain ⟨i, h1, h2, h3⟩ := ih (by omega)
        refine ⟨i, by omega, h2, fun k a b => ?_⟩
        by_cases e : k = m
        · subst e; simpa using h
        · exact h3 k a (by omega)
  obtain ⟨i, h1, h2, h3⟩ := key l.length (Nat.le_refl _)
  rw [posE_at h1 h2 h3]
  exact ⟨h1, h2, h3⟩
theorem findE_not {l : List Entry} {y : Id} (h : ¬ 0 ≤ findE l y) : ∀ e ∈ l, e.id ≠ y := fun e he h2 => by
  have := idxF_any (fun e : Entry => decide (e.id = y)) l
  rw [show idxF (fun e : Entry => decide (e.id = y)) l 0 = findE l y from rfl, decide_eq_false h] at this
  have h3 := List.any_eq_false.1 this.symm e he
  simp [h2] at h3
theorem insE_app (x e : Entry) : ∀ (l : List Entry) (p : Nat), p ≤ l.length → (l ++ [x]).insertIdx p e = l.insertIdx p e ++ [x]
  | l, 0, _ => by cases l <;> rfl
  | [], p + 1, h => by simp at h
  | y :: l, p + 1, h => by
    simp only [List.cons_append, List.insertIdx_succ_cons]
    rw [insE_app x e l p (by simpa using h)]
theorem insE_end (e : Entry) : ∀ (l : List Entry), l.insertIdx l.length e = l ++ [e]
  | [] => rfl
  | y :: l => by
    simp only [List.length_cons, List.insertIdx_succ_cons, List.cons_append]
    rw [insE_end e l]
def insK (ws : List Entry) (e : Entry) (p k : Nat) : List Entry := if p < k then (ws.take k).insertIdx p e else ws.take k
theorem takeE_succ {l : List Entry} {k : Nat} (h : k < l.length) : l.take (k + 1) = l.take k ++ [nth l k] := by rw [List.take_succ_eq_append_getElem h, nth_eq _ _ h]
theorem insK_after {ws : List Entry} {e : Entry} {p k : Nat} (hk : k < ws.length) (h : p < k) : insK ws e p (k + 1) = insK ws e p k ++ [nth ws k] := by
  rw [insK, insK, if_pos (by omega), if_pos h, takeE_succ hk, insE_app _ _ _ _ (by rw [List.length_take]; omega)]
theorem insK_before {ws : List Entry} {e : Entry} {p k : Nat} (hk : k < ws.length) (h : k < p) : insK ws e p (k + 1) = insK ws e p k ++ [nth ws k] := by
  rw [insK, insK, if_neg (by omega), if_neg (by omega), takeE_succ hk]
theorem insK_at {ws : List Entry} {e : Entry} {k : Nat} (hk : k < ws.length) : insK ws e k (k + 1) = insK ws e k k ++ [e] ++ [nth ws k] := by
  have hl : (ws.take k).length = k := by rw [List.length_take]; omega
  have h2 := insE_end e (ws.take k)
  rw [hl] at h2
  rw [insK, insK, if_pos (by omega), if_neg (by omega), takeE_succ hk, insE_app _ _ _ _ (by omega), h2]
theorem insK_len (ws : List Entry) (e : Entry) (p k : Nat) : (insK ws e p k).length ≤ k + 1 := by
  unfold insK
  split
  · rw [List.length_insertIdx]
    split <;> rw [List.length_take] <;> omega
  · rw [List.length_take]; omega
set_option maxHeartbeats 8000000 in
theorem receiveOf_meets (r : Int) (lg ws : List Entry) (e : Entry) (hl : lg.length ≤ 1000) (hw : ws.length ≤ 1000) (hf1 : fitE lg) (hf2 : fitE ws) (hu : upE ws) (he : (e.id.r = 0 ∨ e.id.r = 1) ∧ e.ls.length ≤ 1000000) :
    Meets Try.prog 13 [.agg (cSi r lg ws), .agg (cE e)] [] (.tup [.agg (cSi3 (rcSi r lg ws e)), .int .i64 (rcErr r lg ws e)]) [] := by
  refine Meets.of_walk Try.func13 Try.ntmps13 low13 res13 (by simp) fun x hx => ?_
  simp only [go_sem, Nat.reduceLT, Nat.reduceAdd, Nat.reduceEqDiff, Nat.reduceLeDiff, Nat.reduceSub, Nat.reduceMul, Int.reduceEq, eq_self, reduceIte, L13, R13, cSi, cE]
  refine ops_call (.pureE (entryAt_meets lg e.id (by omega)) (by simp [go_sem, Nat.reduceLT, Nat.reduceAdd, Nat.reduceEqDiff, Nat.reduceLeDiff, Nat.reduceSub, Nat.reduceMul, Int.reduceEq, eq_self, reduceIte, cId])) ?_
  by_cases h1 : 0 ≤ findE lg e.id
  · have e1 : rcErr r lg ws e = 0 := by rw [rcErr, if_pos (.inl h1)]
    simp only [go_sem, Nat.reduceLT, Nat.reduceAdd, Nat.reduceEqDiff, Nat.reduceLeDiff, Nat.reduceSub, Nat.reduceMul, Int.reduceEq, eq_self, reduceIte, h1, cSi, cE]
    refine ret_pure hx ?_
    simp [go_sem, Nat.reduceLT, Nat.reduceAdd, Nat.reduceEqDiff, Nat.reduceLeDiff, Nat.reduceSub, Nat.reduceMul, Int.reduceEq, eq_self, reduceIte, L13, R13, rcSi, e1, h1, cSi3, cSi, cE, frzAt, pos]
  · simp only [go_sem, Nat.reduceLT, Nat.reduceAdd, Nat.reduceEqDiff, Nat.reduceLeDiff, Nat.reduceSub, Nat.reduceMul, Int.reduceEq, eq_self, reduceIte, h1, cSi, cE]
    refine ops_call (.pureE (entryAt_meets ws e.id (by omega)) (by simp [go_sem, Nat.reduceLT, Nat.reduceAdd, Nat.reduceEqDiff, Nat.reduceLeDiff, Nat.reduceSub, Nat.reduceMul, Int.reduceEq, eq_self, reduceIte, cId])) ?_
    by_cases h2 : 0 ≤ findE ws e.id
    · have e1 : rcErr r lg ws e = 0 := by rw [rcErr, if_pos (.inr h2)]
      simp only [go_sem, Nat.reduceLT, Nat.reduceAdd, Nat.reduceEqDiff, Nat.reduceLeDiff, Nat.reduceSub, Nat.reduceMul, Int.reduceEq, eq_self, reduceIte, h2, cSi, cE]
      refine ret_pure hx ?_
      simp [go_sem, Nat.reduceLT, Nat.reduceAdd, Nat.reduceEqDiff, Nat.reduceLeDiff, Nat.reduceSub, Nat.reduceMul, Int.reduceEq, eq_self, reduceIte, L13, R13, rcSi, e1, h2, cSi3, cSi, cE, frzAt, pos]
    · by_cases h3 : e.id.r = r
      · have e1 : rcErr r lg ws e = 4 := by rw [rcErr, if_neg (by omega), if_pos h3]
        simp only [go_sem, Nat.reduceLT, Nat.reduceAdd, Nat.reduceEqDiff, Nat.reduceLeDiff, Nat.reduceSub, Nat.reduceMul, Int.reduceEq, eq_self, reduceIte, h2, h3, cSi, cE]
        refine ret_pure hx ?_
        simp [go_sem, Nat.reduceLT, Nat.reduceAdd, Nat.reduceEqDiff, Nat.reduceLeDiff, Nat.reduceSub, Nat.reduceMul, Int.reduceEq, eq_self, reduceIte, L13, R13, rcSi, e1, h1, h2, cSi3, cSi, cE, frzAt, pos]
      · have e0 : rcErr r lg ws e = if 20 < (rcP lg ws e).2.length ∨ 40 < (rcP lg ws e).1.length then 2 else 0 := by rw [rcErr, if_neg (by omega), if_neg h3]
        have hil := insE_len ws e (posE_le ws e.id)
        obtain ⟨p1, p2, p3⟩ := posE_spec hu e.id
        have hne := findE_not h2
        have hinsK : insK ws e (posE ws e.id) ws.length = if posE ws e.id < ws.length then ws.insertIdx (posE ws e.id) e else ws := by rw [insK, List.take_length]
        simp only [go_sem, Nat.reduceLT, Nat.reduceAdd, Nat.reduceEqDiff, Nat.reduceLeDiff, Nat.reduceSub, Nat.reduceMul, Int.reduceEq, eq_self, reduceIte, h2, h3, cSi, cE]
        refine W_weak (weak_ownc 3 2 0 29 5 true false rfl rfl (by omega)) ?_
        generalize hpe : posE ws e.id = p at *
        refine loop_inv [2, 3, 4, 6, 7, 8] 5 (fun m st => ∃ k v : Nat, k + m = ws.length ∧
          st = ⟨mkE .top [(2, .ptr 0 0), (3, .ptr 1 0), (4, .ptr 2 0), (6, .ptr 3 0), (7, .bool (decide (p < k))), (8, .int .i64 k)], [.box (cSi r lg ws), .box (cE e), .box [.int .i64 0, .nilsl, .nilsl], .box [.int .i64 r, .list (lg.map cE), .arr 4 v], .arr v true false 29 5 ((insK ws e p k).map cE)]⟩) ws.length (by simp [hx]) (by simp) ?_ ?_
        · refine ⟨0, 0, by omega, ?_⟩
          simp [trim_mk, go_sem, Nat.reduceLT, Nat.reduceAdd, Nat.reduceEqDiff, Nat.reduceLeDiff, Nat.reduceSub, Nat.reduceMul, Int.reduceEq, eq_self, reduceIte, subHeap, renObj, renCell, renLeaf, pos, List.range_succ, cSi, cE, insK]
        · rintro m st ⟨k, v, hk, rfl⟩
          by_cases hlt : k < ws.length
          · have hg : ws[k]? = some (nth ws k) := nth_get? _ _ hlt
            have wk := i64_up (k := k) (by omega)
            have hkl := insK_len ws e p k
            by_cases hp : p < k
            · have hs := insK_after (e := e) hlt hp
              have hp' : p < k + 1 := by omega
              simp only [go_sem, Nat.reduceLT, Nat.reduceAdd, Nat.reduceEqDiff, Nat.reduceLeDiff, Nat.reduceSub, Nat.reduceMul, Int.reduceEq, eq_self, reduceIte, hlt, hg, hp, cE, cSi]
              rw [app_arr rfl rfl (by simp) (by simp; omega)]
              simp only [go_sem, Nat.reduceLT, Nat.reduceAdd, Nat.reduceEqDiff, Nat.reduceLeDiff, Nat.reduceSub, Nat.reduceMul, Int.reduceEq, eq_self, reduceIte, wk]
              repeat refine ⟨rfl, ?_⟩
              refine ⟨by simp, m - 1, by omega, k + 1, v + 1, by omega, ?_⟩
              simp [trim_mk, go_sem, Nat.reduceLT, Nat.reduceAdd, Nat.reduceEqDiff, Nat.reduceLeDiff, Nat.reduceSub, Nat.reduceMul, Int.reduceEq, eq_self, reduceIte, subHeap, renObj, renCell, renLeaf, pos, List.range_succ, cSi, cE, hs, hp, hp']
            · by_cases hpk : k = p
              · subst hpk
                have hs := insK_at (e := e) hlt
                have hle : lessB e.id (nth ws k).id = true := by
                  have a := p3 k (Nat.le_refl _) hlt
                  cases h : lessB e.id (nth ws k).id
                  · exact (hne _ (nthM hlt) (idEq_of a h)).elim
                  · rfl
                simp only [go_sem, Nat.reduceLT, Nat.reduceAdd, Nat.reduceEqDiff, Nat.reduceLeDiff, Nat.reduceSub, Nat.reduceMul, Int.reduceEq, eq_self, reduceIte, hlt, hg, hp, cE, cSi]
                refine ops_call (.pureE (isAhead_meets e.id (nth ws k).id) (by simp [go_sem, Nat.reduceLT, Nat.reduceAdd, Nat.reduceEqDiff, Nat.reduceLeDiff, Nat.reduceSub, Nat.reduceMul, Int.reduceEq, eq_self, reduceIte, cId])) ?_
                rw [hle]
                simp only [go_sem, Nat.reduceLT, Nat.reduceAdd, Nat.reduceEqDiff, Nat.reduceLeDiff, Nat.reduceSub, Nat.reduceMul, Int.reduceEq, eq_self, reduceIte, cE, cSi]
                repeat refine ⟨rfl, ?_⟩
                rw [app_arr rfl rfl (by simp) (by simp; omega)]
                have hce : List.map cE (insK ws e k k) ++ [[PV.int .i64 e.id.r, .int .i64 e.id.n, .int .i64 e.c, .str e.t, .list (e.ls.map cId)]] = (insK ws e k k ++ [e]).map cE := by simp [cE]
                simp only [go_sem, Nat.reduceLT, Nat.reduceAdd, Nat.reduceEqDiff, Nat.reduceLeDiff, Nat.reduceSub, Nat.reduceMul, Int.reduceEq, eq_self, reduceIte, hce, hlt, hg, cE, cSi]
                repeat refine ⟨rfl, ?_⟩
                rw [app_arr rfl rfl (by simp) (by simp; omega)]
                simp only [go_sem, Nat.reduceLT, Nat.reduceAdd, Nat.reduceEqDiff, Nat.reduceLeDiff, Nat.reduceSub, Nat.reduceMul, Int.reduceEq, eq_self, reduceIte, wk]
                repeat refine ⟨rfl, ?_⟩
                refine ⟨by simp, m - 1, by omega, k + 1, v + 1 + 1, by omega, ?_⟩
                simp [trim_mk, go_sem, Nat.reduceLT, Nat.reduceAdd, Nat.reduceEqDiff, Nat.reduceLeDiff, Nat.reduceSub, Nat.reduceMul, Int.reduceEq, eq_self, reduceIte, subHeap, renObj, renCell, renLeaf, pos, List.range_succ, cSi, cE, hs]
              · have hs := insK_before (e := e) hlt (show k < p by omega)
                have hle : lessB e.id (nth ws k).id = false := lessB_asym (p2 k (by omega))
                have hp' : ¬ p < k + 1 := by omega
                simp only [go_sem, Nat.reduceLT, Nat.reduceAdd, Nat.reduceEqDiff, Nat.reduceLeDiff, Nat.reduceSub, Nat.reduceMul, Int.reduceEq, eq_self, reduceIte, hlt, hg, hp, cE, cSi]
                refine ops_call (.pureE (isAhead_meets e.id (nth ws k).id) (by simp [go_sem, Nat.reduceLT, Nat.reduceAdd, Nat.reduceEqDiff, Nat.reduceLeDiff, Nat.reduceSub, Nat.reduceMul, Int.reduceEq, eq_self, reduceIte, cId])) ?_
                rw [hle]
                simp only [go_sem, Nat.reduceLT, Nat.reduceAdd, Nat.reduceEqDiff, Nat.reduceLeDiff, Nat.reduceSub, Nat.reduceMul, Int.reduceEq, eq_self, reduceIte, hlt, hg, cE, cSi]
                repeat refine ⟨rfl, ?_⟩
                rw [app_arr rfl rfl (by simp) (by simp; omega)]
                simp only [go_sem, Nat.reduceLT, Nat.reduceAdd, Nat.reduceEqDiff, Nat.reduceLeDiff, Nat.reduceSub, Nat.reduceMul, Int.reduceEq, eq_self, reduceIte, wk]
                repeat refine ⟨rfl, ?_⟩
                refine ⟨by simp, m - 1, by omega, k + 1, v + 1, by omega, ?_⟩
                simp [trim_mk, go_sem, Nat.reduceLT, Nat.reduceAdd, Nat.reduceEqDiff, Nat.reduceLeDiff, Nat.reduceSub, Nat.reduceMul, Int.reduceEq, eq_self, reduceIte, subHeap, renObj, renCell, renLeaf, pos, List.range_succ, cSi, cE, hs, hp, hp']
          · obtain rfl : k = ws.length := by omega
            have hkl := insK_len ws e p ws.length
            by_cases hp : p < ws.length
            · have hins : insK ws e p ws.length = ws.insertIdx p e := by rw [hinsK, if_pos hp]
              simp only [go_sem, Nat.reduceLT, Nat.reduceAdd, Nat.reduceEqDiff, Nat.reduceLeDiff, Nat.reduceSub, Nat.reduceMul, Int.reduceEq, eq_self, reduceIte, hlt, hp, cSi, cE]
              rw [hins]
              refine ops_call (.pureME (H1 := [.box (cSi r lg ws), .box (cE e), .box [.int .i64 0, .nilsl, .nilsl], .box [.int .i64 r, .list (lg.map cE), .arr 4 (v)], .arr (v) false false 29 5 ((ws.insertIdx p e).map cE)]) (settledR_meets _ r lg (ws.insertIdx p e) rfl (by rw [hil]; omega) hf1 (fit_ins hf2 he p1)) (Milder.shut 4 rfl) (by simp [go_sem, Nat.reduceLT, Nat.reduceAdd, Nat.reduceEqDiff, Nat.reduceLeDiff, Nat.reduceSub, Nat.reduceMul, Int.reduceEq, eq_self, reduceIte, frzAt, pos, cSi])) ?_
              rw [show settled lg (ws.insertIdx p e) = rcP lg ws e from by rw [rcP, hpe]]
              by_cases g1 : (20 : Int) < ((rcP lg ws e).2.length : Int)
              · have e1 : rcErr r lg ws e = 2 := by rw [e0, if_pos (by omega)]
                simp only [go_sem, Nat.reduceLT, Nat.reduceAdd, Nat.reduceEqDiff, Nat.reduceLeDiff, Nat.reduceSub, Nat.reduceMul, Int.reduceEq, eq_self, reduceIte, g1, cSi, cE, cSi3]
                refine ret_pure hx ?_
                simp [go_sem, Nat.reduceLT, Nat.reduceAdd, Nat.reduceEqDiff, Nat.reduceLeDiff, Nat.reduceSub, Nat.reduceMul, Int.reduceEq, eq_self, reduceIte, L13, R13, rcSi, e1, h1, h2, cSi3, cSi, cE, frzAt, pos]
              · by_cases g2 : (40 : Int) < ((rcP lg ws e).1.length : Int)
                · have e1 : rcErr r lg ws e = 2 := by rw [e0, if_pos (by omega)]
                  simp only [go_sem, Nat.reduceLT, Nat.reduceAdd, Nat.reduceEqDiff, Nat.reduceLeDiff, Nat.reduceSub, Nat.reduceMul, Int.reduceEq, eq_self, reduceIte, g1, g2, cSi, cE, cSi3]
                  refine ret_pure hx ?_
                  simp [go_sem, Nat.reduceLT, Nat.reduceAdd, Nat.reduceEqDiff, Nat.reduceLeDiff, Nat.reduceSub, Nat.reduceMul, Int.reduceEq, eq_self, reduceIte, L13, R13, rcSi, e1, h1, h2, cSi3, cSi, cE, frzAt, pos]
                · have e1 : rcErr r lg ws e = 0 := by rw [e0, if_neg (by omega)]
                  simp only [go_sem, Nat.reduceLT, Nat.reduceAdd, Nat.reduceEqDiff, Nat.reduceLeDiff, Nat.reduceSub, Nat.reduceMul, Int.reduceEq, eq_self, reduceIte, g1, g2, cSi, cE, cSi3]
                  refine ret_pure hx ?_
                  simp [go_sem, Nat.reduceLT, Nat.reduceAdd, Nat.reduceEqDiff, Nat.reduceLeDiff, Nat.reduceSub, Nat.reduceMul, Int.reduceEq, eq_self, reduceIte, L13, R13, rcSi, e1, h1, h2, cSi3, cSi, cE, frzAt, pos]
            · have hpl : p = ws.length := by omega
              simp only [go_sem, Nat.reduceLT, Nat.reduceAdd, Nat.reduceEqDiff, Nat.reduceLeDiff, Nat.reduceSub, Nat.reduceMul, Int.reduceEq, eq_self, reduceIte, hlt, hp, cSi, cE]
              rw [app_arr rfl rfl (by simp) (by simp; omega)]
              simp only [go_sem, Nat.reduceLT, Nat.reduceAdd, Nat.reduceEqDiff, Nat.reduceLeDiff, Nat.reduceSub, Nat.reduceMul, Int.reduceEq, eq_self, reduceIte, cSi, cE]
              have hins : List.map cE (insK ws e p ws.length) ++ [[PV.int .i64 e.id.r, .int .i64 e.id.n, .int .i64 e.c, .str e.t, .list (e.ls.map cId)]] = (ws.insertIdx p e).map cE := by
                rw [hinsK, if_neg hp, hpl, insE_end]; simp [cE]
              rw [hins]
              refine ops_call (.pureME (H1 := [.box (cSi r lg ws), .box (cE e), .box [.int .i64 0, .nilsl, .nilsl], .box [.int .i64 r, .list (lg.map cE), .arr 4 (v + 1)], .arr (v + 1) false false 29 5 ((ws.insertIdx p e).map cE)]) (settledR_meets _ r lg (ws.insertIdx p e) rfl (by rw [hil]; omega) hf1 (fit_ins hf2 he p1)) (Milder.shut 4 rfl) (by simp [go_sem, Nat.reduceLT, Nat.reduceAdd, Nat.reduceEqDiff, Nat.reduceLeDiff, Nat.reduceSub, Nat.reduceMul, Int.reduceEq, eq_self, reduceIte, frzAt, pos, cSi])) ?_
              rw [show settled lg (ws.insertIdx p e) = rcP lg ws e from by rw [rcP, hpe]]
              by_cases g1 : (20 : Int) < ((rcP lg ws e).2.length : Int)
              · have e1 : rcErr r lg ws e = 2 := by rw [e0, if_pos (by omega)]
                simp only [go_sem, Nat.reduceLT, Nat.reduceAdd, Nat.reduceEqDiff, Nat.reduceLeDiff, Nat.reduceSub, Nat.reduceMul, Int.reduceEq, eq_self, reduceIte, g1, cSi, cE, cSi3]
                refine ret_pure hx ?_
                simp [go_sem, Nat.reduceLT, Nat.reduceAdd, Nat.reduceEqDiff, Nat.reduceLeDiff, Nat.reduceSub, Nat.reduceMul, Int.reduceEq, eq_self, reduceIte, L13, R13, rcSi, e1, h1, h2, cSi3, cSi, cE, frzAt, pos]
              · by_cases g2 : (40 : Int) < ((rcP lg ws e).1.length : Int)
                · have e1 : rcErr r lg ws e = 2 := by rw [e0, if_pos (by omega)]
                  simp only [go_sem, Nat.reduceLT, Nat.reduceAdd, Nat.reduceEqDiff, Nat.reduceLeDiff, Nat.reduceSub, Nat.reduceMul, Int.reduceEq, eq_self, reduceIte, g1, g2, cSi, cE, cSi3]
                  refine ret_pure hx ?_
                  simp [go_sem, Nat.reduceLT, Nat.reduceAdd, Nat.reduceEqDiff, Nat.reduceLeDiff, Nat.reduceSub, Nat.reduceMul, Int.reduceEq, eq_self, reduceIte, L13, R13, rcSi, e1, h1, h2, cSi3, cSi, cE, frzAt, pos]
                · have e1 : rcErr r lg ws e = 0 := by rw [e0, if_neg (by omega)]
                  simp only [go_sem, Nat.reduceLT, Nat.reduceAdd, Nat.reduceEqDiff, Nat.reduceLeDiff, Nat.reduceSub, Nat.reduceMul, Int.reduceEq, eq_self, reduceIte, g1, g2, cSi, cE, cSi3]
                  refine ret_pure hx ?_
                  simp [go_sem, Nat.reduceLT, Nat.reduceAdd, Nat.reduceEqDiff, Nat.reduceLeDiff, Nat.reduceSub, Nat.reduceMul, Int.reduceEq, eq_self, reduceIte, L13, R13, rcSi, e1, h1, h2, cSi3, cSi, cE, frzAt, pos]
end Go.Proofs.Ytiandbolipoebaa
/- Bytes: writing an entry. -/
namespace Go.Proofs.Ytiandbolipoebaa
set_option linter.unusedSimpArgs false
set_option linter.unusedVariables false
open Go.RowKit
theorem bytesOf_one (n : Int) : bytesOf [[PV.int IntKind.u8 (IntKind.u8.wrap n)]] = some [byt n] := by
  simp only [bytesOf, byteRow, byt]
  have : IntKind.u8.wrap n = n % 256 := by simp [IntKind.wrap, IntKind.signed, IntKind.bits]
  rw [this]
def e0 : Entry := ⟨⟨0, 1⟩, 1, BA [112, 117, 116, 32, 97, 32, 120], []⟩
def e1 : Entry := ⟨⟨1, 1⟩, 3, BA [112, 117, 116, 32, 97, 32, 121], []⟩
def e2 : Entry := ⟨⟨0, 2⟩, 3, BA [100, 114, 111, 112, 32, 97], [⟨0, 1⟩]⟩
def e3 : Entry := ⟨⟨1, 2⟩, 2, BA [112, 117, 116, 32, 98, 32, 122], [⟨0, 2⟩, ⟨1, 1⟩]⟩
def cE0 (e : Entry) : List PV := [.int .i64 e.id.r, .int .i64 e.id.n, .int .i64 e.c, .str e.t, if e.ls = [] then .nilsl else .list (e.ls.map cId)]
theorem entries_meets : Meets Try.prog 36 [] [] (.list [cE e0, cE e1, cE e2, cE e3]) [] := by
  refine Meets.nl (r := .list [cE0 e0, cE0 e1, cE0 e2, cE0 e3]) 4 ?_ (by simp [nlN, cE0, cE, cId, e0, e1, e2, e3])
  refine Meets.of_walk Try.func36 Try.ntmps36 low36 res36 (by simp) fun x hx => ?_
  simp only [go_sem, Nat.reduceLT, Nat.reduceAdd, Nat.reduceEqDiff, Nat.reduceLeDiff, Nat.reduceSub, Nat.reduceMul, Int.reduceEq, eq_self, reduceIte, L36, R36]
  iterate 7
    refine ops_call (.pure (lawId_meets _ _)) ?_
    simp only [go_sem, Nat.reduceLT, Nat.reduceAdd, Nat.reduceEqDiff, Nat.reduceLeDiff, Nat.reduceSub, Nat.reduceMul, Int.reduceEq, eq_self, reduceIte]
  refine ret_pure hx ?_
  simp [go_sem, Nat.reduceLT, Nat.reduceAdd, Nat.reduceEqDiff, Nat.reduceLeDiff, Nat.reduceSub, Nat.reduceMul, Int.reduceEq, eq_self, reduceIte, L36, R36, cE0, cId, e0, e1, e2, e3, BA]
end Go.Proofs.Ytiandbolipoebaa
/- What must be in any case of logs; DagTells, as a contract. -/
namespace Go.Proofs.Ytiandbolipoebaa
set_option linter.unusedSimpArgs false
set_option linter.unusedVariables false
open Go.RowKit
def eL : List Entry := [e0, e1, e2, e3]
theorem eL_check : checkLog eL = 0 := by decide +kernel
theorem eL_ok : LogOk eL := log_ok.1 eL_check
theorem eL_len : eL.length = 4 := rfl
theorem eL_past : pastIds eL ⟨1, 2⟩ = [⟨0, 1⟩, ⟨0, 2⟩, ⟨1, 1⟩] := by
  have hp : pastErr eL ⟨1, 2⟩ = 0 := by decide +kernel
  have hf : (findE eL ⟨1, 2⟩).toNat = 3 := by decide +kernel
  rw [pastIds, if_pos hp, hf, ← rising_past eL_ok (by decide)]
  decide +kernel
theorem eL_heads : headsIds eL 1 = [⟨0, 2⟩, ⟨1, 1⟩] := by
  have hp : headsErr eL 1 = 0 := by decide +kernel
  rw [headsIds, if_pos hp, ← heads_eq eL_ok]
  decide +kernel
theorem eL_rows : [cE e0, cE e1, cE e2, cE e3] = eL.map cE := rfl
theorem dagBegun_meets : Meets Try.prog 21 [] [] (.bool true) [] := by
  have hp : pastErr eL ⟨1, 2⟩ = 0 := by decide +kernel
  have hq : headsErr eL 1 = 0 := by decide +kernel
  have hc0 : countR eL 0 = 2 := by decide +kernel
  have hc1 : countR eL 1 = 2 := by decide +kernel
  have hpi := eL_past
  have hhi := eL_heads
  have hck := eL_check
  have hent := entries_meets
  rw [eL_rows] at hent
  refine Meets.of_walk Try.func21 Try.ntmps21 low21 res21 (by simp) fun x hx => ?_
  simp only [go_sem, Nat.reduceLT, Nat.reduceAdd, Nat.reduceEqDiff, Nat.reduceLeDiff, Nat.reduceSub, Nat.reduceMul, Int.reduceEq, eq_self, reduceIte, L21, R21]
  refine ops_call (.pure hent) ?_
  simp only [go_sem, Nat.reduceLT, Nat.reduceAdd, Nat.reduceEqDiff, Nat.reduceLeDiff, Nat.reduceSub, Nat.reduceMul, Int.reduceEq, eq_self, reduceIte]
  refine ops_call (.pure (lawId_meets _ _)) ?_
  simp only [go_sem, Nat.reduceLT, Nat.reduceAdd, Nat.reduceEqDiff, Nat.reduceLeDiff, Nat.reduceSub, Nat.reduceMul, Int.reduceEq, eq_self, reduceIte]
  refine ops_call (.pureE (dagPast_meets eL ⟨1, 2⟩ (by decide)) (by simp [go_sem, Nat.reduceLT, Nat.reduceAdd, Nat.reduceEqDiff, Nat.reduceLeDiff, Nat.reduceSub, Nat.reduceMul, Int.reduceEq, eq_self, reduceIte, cId])) ?_
  simp only [go_sem, Nat.reduceLT, Nat.reduceAdd, Nat.reduceEqDiff, Nat.reduceLeDiff, Nat.reduceSub, Nat.reduceMul, Int.reduceEq, eq_self, reduceIte, hp, hpi]
  refine ops_call (.pure hent) ?_
  simp only [go_sem, Nat.reduceLT, Nat.reduceAdd, Nat.reduceEqDiff, Nat.reduceLeDiff, Nat.reduceSub, Nat.reduceMul, Int.reduceEq, eq_self, reduceIte]
  refine ops_call (.pureE (dagHeads_meets eL 1 (by decide)) (by simp [go_sem, Nat.reduceLT, Nat.reduceAdd, Nat.reduceEqDiff, Nat.reduceLeDiff, Nat.reduceSub, Nat.reduceMul, Int.reduceEq, eq_self, reduceIte])) ?_
  simp only [go_sem, Nat.reduceLT, Nat.reduceAdd, Nat.reduceEqDiff, Nat.reduceLeDiff, Nat.reduceSub, Nat.reduceMul, Int.reduceEq, eq_self, reduceIte, hq, hhi]
  refine ops_call (.pure hent) ?_
  simp only [go_sem, Nat.reduceLT, Nat.reduceAdd, Nat.reduceEqDiff, Nat.reduceLeDiff, Nat.reduceSub, Nat.reduceMul, Int.reduceEq, eq_self, reduceIte]
  refine ops_call (.pureE (dagCount_meets eL (by decide)) (by simp [go_sem, Nat.reduceLT, Nat.reduceAdd, Nat.reduceEqDiff, Nat.reduceLeDiff, Nat.reduceSub, Nat.reduceMul, Int.reduceEq, eq_self, reduceIte])) ?_
  simp only [go_sem, Nat.reduceLT, Nat.reduceAdd, Nat.reduceEqDiff, Nat.reduceLeDiff, Nat.reduceSub, Nat.reduceMul, Int.reduceEq, eq_self, reduceIte, hck, hc0, hc1]
  refine ops_call (.pure hent) ?_
  simp only [go_sem, Nat.reduceLT, Nat.reduceAdd, Nat.reduceEqDiff, Nat.reduceLeDiff, Nat.reduceSub, Nat.reduceMul, Int.reduceEq, eq_self, reduceIte]
  refine ops_call (.pureE (dagCheck_meets eL (by decide)) (by simp [go_sem, Nat.reduceLT, Nat.reduceAdd, Nat.reduceEqDiff, Nat.reduceLeDiff, Nat.reduceSub, Nat.reduceMul, Int.reduceEq, eq_self, reduceIte])) ?_
  simp only [go_sem, Nat.reduceLT, Nat.reduceAdd, Nat.reduceEqDiff, Nat.reduceLeDiff, Nat.reduceSub, Nat.reduceMul, Int.reduceEq, eq_self, reduceIte, hck]
  iterate 3
    refine ops_call (.pure (lawId_meets _ _)) ?_
    simp only [go_sem, Nat.reduceLT, Nat.reduceAdd, Nat.reduceEqDiff, Nat.reduceLeDiff, Nat.reduceSub, Nat.reduceMul, Int.reduceEq, eq_self, reduceIte]
  refine ops_call (.pureE (sameIds_meets [⟨0, 1⟩, ⟨0, 2⟩, ⟨1, 1⟩] [⟨0, 1⟩, ⟨0, 2⟩, ⟨1, 1⟩] (by decide)) (by simp [go_sem, Nat.reduceLT, Nat.reduceAdd, Nat.reduceEqDiff, Nat.reduceLeDiff, Nat.reduceSub, Nat.reduceMul, Int.reduceEq, eq_self, reduceIte, cId])) ?_
  simp only [go_sem, Nat.reduceLT, Nat.reduceAdd, Nat.reduceEqDiff, Nat.reduceLeDiff, Nat.reduceSub, Nat.reduceMul, Int.reduceEq, eq_self, reduceIte]
  iterate 2
    refine ops_call (.pure (lawId_meets _ _)) ?_
    simp only [go_sem, Nat.reduceLT, Nat.reduceAdd, Nat.reduceEqDiff, Nat.reduceLeDiff, Nat.reduceSub, Nat.reduceMul, Int.reduceEq, eq_self, reduceIte]
  refine ops_call (.pureE (sameIds_meets [⟨0, 2⟩, ⟨1, 1⟩] [⟨0, 2⟩, ⟨1, 1⟩] (by decide)) (by simp [go_sem, Nat.reduceLT, Nat.reduceAdd, Nat.reduceEqDiff, Nat.reduceLeDiff, Nat.reduceSub, Nat.reduceMul, Int.reduceEq, eq_self, reduceIte, cId])) ?_
  simp only [go_sem, Nat.reduceLT, Nat.reduceAdd, Nat.reduceEqDiff, Nat.reduceLeDiff, Nat.reduceSub, Nat.reduceMul, Int.reduceEq, eq_self, reduceIte]
  refine ret_pure hx ?_
  simp [go_sem, Nat.reduceLT, Nat.reduceAdd, Nat.reduceEqDiff, Nat.reduceLeDiff, Nat.reduceSub, Nat.reduceMul, Int.reduceEq, eq_self, reduceIte, L21, R21]
end Go.Proofs.Ytiandbolipoebaa
/- What must be in any case of sites; SiteTells, as a contract. -/
namespace Go.Proofs.Ytiandbolipoebaa
set_option linter.unusedSimpArgs false
set_option linter.unusedVariables false
open Go.RowKit
def sbL : List Entry := [e0, e2]
def sbX : Entry := ⟨⟨1, 1⟩, 4, ⟨#[116]⟩, []⟩
def sbM : List Entry := [e0, e2, sbX]
def sbY : Entry := ⟨⟨1, 2⟩, 1, ⟨#[117]⟩, [⟨0, 2⟩]⟩
theorem sb_ok1 : LogOk sbL := log_ok.1 (by decide +kernel)
theorem sb_ok2 : LogOk sbM := log_ok.1 (by decide +kernel)
theorem sb_h1 : sortI (headsC sbL 4) = [] := by rw [← heads_eq sb_ok1]; decide +kernel
theorem sb_h2 : sortI (headsC sbM 1) = [⟨0, 2⟩] := by rw [← heads_eq sb_ok2]; decide +kernel
theorem sb_e1 : rcErrX 1 [] [] e2 = 0 := by decide +kernel
theorem sb_s1 : rcSiX 1 [] [] e2 = (1, [], [e2]) := by kernel_rfl
theorem sb_e2 : rcErrX 1 [] [e2] e0 = 0 := by decide +kernel
theorem sb_s2 : rcSiX 1 [] [e2] e0 = (1, sbL, []) := by kernel_rfl
theorem sb_c1 : siErr 1 sbL [] = 0 := by decide +kernel
theorem sb_c2 : siErr 1 sbM [] = 0 := by decide +kernel
theorem sb_c3 : siErr 1 (sbM ++ [sbY]) [] = 0 := by decide +kernel
theorem sb_a1 : apErr 1 sbL 4 ⟨#[116]⟩ = 0 := by rw [apErr, sb_h1]; decide +kernel
theorem sb_a2 : apErr 1 sbM 1 ⟨#[117]⟩ = 0 := by rw [apErr, sb_h2]; decide +kernel
theorem sb_x1 : apE 1 sbL 4 ⟨#[116]⟩ = sbX := by rw [apE, sb_h1]; rfl
theorem sb_x2 : apE 1 sbM 1 ⟨#[117]⟩ = sbY := by rw [apE, sb_h2]; rfl
theorem sb_ae1 : apErrX 1 sbL [] 4 ⟨#[116]⟩ = 0 := by rw [apErrX, if_neg (by simp [sb_c1]), sb_a1]
theorem sb_ae2 : apErrX 1 sbM [] 1 ⟨#[117]⟩ = 0 := by rw [apErrX, if_neg (by simp [sb_c2]), sb_a2]
theorem sb_as1 : apSiX 1 sbL [] 4 ⟨#[116]⟩ = (1, sbM, []) := by rw [apSiX, if_neg (by simp [sb_c1]), apSi, if_pos sb_a1, sb_x1]; rfl
theorem sb_as2 : apSiX 1 sbM [] 1 ⟨#[117]⟩ = (1, sbM ++ [sbY], []) := by rw [apSiX, if_neg (by simp [sb_c2]), apSi, if_pos sb_a2, sb_x2]; rfl
theorem sb_an1 : apEnX 1 sbL [] 4 ⟨#[116]⟩ = sbX := by rw [apEnX, if_neg (by simp [sb_c1]), apEn, if_pos sb_a1, sb_x1]
theorem sb_an2 : apEnX 1 sbM [] 1 ⟨#[117]⟩ = sbY := by rw [apEnX, if_neg (by simp [sb_c2]), apEn, if_pos sb_a2, sb_x2]
set_option maxRecDepth 10000 in
set_option maxHeartbeats 2000000 in
theorem siteBegun_meets : Meets Try.prog 14 [] [] (.bool true) [] := by
  have hent := entries_meets
  refine Meets.of_walk Try.func14 Try.ntmps14 low14 res14 (by simp) fun x hx => ?_
  simp only [go_sem, Nat.reduceLT, Nat.reduceAdd, Nat.reduceEqDiff, Nat.reduceLeDiff, Nat.reduceSub, Nat.reduceMul, Int.reduceEq, eq_self, reduceIte, L14, R14]
  refine ops_call (.pureE (siNew_meets 1) (by simp [go_sem, Nat.reduceLT, Nat.reduceAdd, Nat.reduceEqDiff, Nat.reduceLeDiff, Nat.reduceSub, Nat.reduceMul, Int.reduceEq, eq_self, reduceIte])) ?_
  rw [if_pos (.inr rfl), if_pos (.inr rfl)]
  simp only [go_sem, Nat.reduceLT, Nat.reduceAdd, Nat.reduceEqDiff, Nat.reduceLeDiff, Nat.reduceSub, Nat.reduceMul, Int.reduceEq, eq_self, reduceIte, cSi]
  refine ops_call (.pure hent) ?_
  simp only [go_sem, Nat.reduceLT, Nat.reduceAdd, Nat.reduceEqDiff, Nat.reduceLeDiff, Nat.reduceSub, Nat.reduceMul, Int.reduceEq, eq_self, reduceIte, Int.ofNat_zero, Int.natCast_one, Int.cast_ofNat_Int, Int.reduceLT, Int.reduceLE, Int.reduceToNat, Nat.reduceLT, Int.toNat_zero, Int.natCast_zero, Int.le_refl, Int.lt_irrefl, Int.reduceAdd, frz, false_or, or_true, cE, List.length_cons, List.length_nil]
  refine ops_call (.pureE (siReceive_meets 1 [] [] e2 (by simp) (by simp)) (by simp [go_sem, Nat.reduceLT, Nat.reduceAdd, Nat.reduceEqDiff, Nat.reduceLeDiff, Nat.reduceSub, Nat.reduceMul, Int.reduceEq, eq_self, reduceIte, cSi, cE])) ?_
  rw [sb_e1, sb_s1]
  simp only [go_sem, Nat.reduceLT, Nat.reduceAdd, Nat.reduceEqDiff, Nat.reduceLeDiff, Nat.reduceSub, Nat.reduceMul, Int.reduceEq, eq_self, reduceIte, cSi3, cSi]
  repeat refine ⟨rfl, ?_⟩
  refine ops_call (.pure hent) ?_
  simp only [go_sem, Nat.reduceLT, Nat.reduceAdd, Nat.reduceEqDiff, Nat.reduceLeDiff, Nat.reduceSub, Nat.reduceMul, Int.reduceEq, eq_self, reduceIte, Int.ofNat_zero, Int.natCast_one, Int.cast_ofNat_Int, Int.reduceLT, Int.reduceLE, Int.reduceToNat, Nat.reduceLT, Int.toNat_zero, Int.natCast_zero, Int.le_refl, Int.lt_irrefl, Int.reduceAdd, frz, false_or, or_true, cE, List.length_cons, List.length_nil]
  refine ops_call (.pureE (siReceive_meets 1 [] [e2] e0 (by simp) (by simp)) (by simp [go_sem, Nat.reduceLT, Nat.reduceAdd, Nat.reduceEqDiff, Nat.reduceLeDiff, Nat.reduceSub, Nat.reduceMul, Int.reduceEq, eq_self, reduceIte, cSi, cE])) ?_
  rw [sb_e2, sb_s2]
  simp only [go_sem, Nat.reduceLT, Nat.reduceAdd, Nat.reduceEqDiff, Nat.reduceLeDiff, Nat.reduceSub, Nat.reduceMul, Int.reduceEq, eq_self, reduceIte, cSi3, cSi]
  repeat refine ⟨rfl, ?_⟩
  refine ops_call (.pureE (siAppend_meets 1 sbL [] 4 ⟨#[116]⟩ (by decide) (by simp)) (by simp [go_sem, Nat.reduceLT, Nat.reduceAdd, Nat.reduceEqDiff, Nat.reduceLeDiff, Nat.reduceSub, Nat.reduceMul, Int.reduceEq, eq_self, reduceIte, cSi])) ?_
  rw [sb_ae1, sb_as1, sb_an1]
  simp only [go_sem, Nat.reduceLT, Nat.reduceAdd, Nat.reduceEqDiff, Nat.reduceLeDiff, Nat.reduceSub, Nat.reduceMul, Int.reduceEq, eq_self, reduceIte, cSi3, cSi, cE]
  repeat refine ⟨rfl, ?_⟩
  refine ops_call (.pureE (siAppend_meets 1 sbM [] 1 ⟨#[117]⟩ (by decide) (by simp)) (by simp [go_sem, Nat.reduceLT, Nat.reduceAdd, Nat.reduceEqDiff, Nat.reduceLeDiff, Nat.reduceSub, Nat.reduceMul, Int.reduceEq, eq_self, reduceIte, cSi])) ?_
  rw [sb_ae2, sb_as2, sb_an2]
  simp only [go_sem, Nat.reduceLT, Nat.reduceAdd, Nat.reduceEqDiff, Nat.reduceLeDiff, Nat.reduceSub, Nat.reduceMul, Int.reduceEq, eq_self, reduceIte, cSi3, cSi, cE]
  repeat refine ⟨rfl, ?_⟩
  refine ops_call (.pureE (siCheck_meets 1 (sbM ++ [sbY]) [] (by decide) (by simp)) (by simp [go_sem, Nat.reduceLT, Nat.reduceAdd, Nat.reduceEqDiff, Nat.reduceLeDiff, Nat.reduceSub, Nat.reduceMul, Int.reduceEq, eq_self, reduceIte, cSi])) ?_
  rw [sb_c3]
  have hL : sbL.length = 2 := rfl
  have hX : sbX.ls = [] := rfl
  have hY : sbY.ls = [⟨0, 2⟩] := rfl
  have hY1 : sbY.id.r = 1 := rfl
  have hY2 : sbY.id.n = 2 := rfl
  simp only [go_sem, Nat.reduceLT, Nat.reduceAdd, Nat.reduceEqDiff, Nat.reduceLeDiff, Nat.reduceSub, Nat.reduceMul, Int.reduceEq, eq_self, reduceIte, Int.ofNat_zero, Int.natCast_one, Int.cast_ofNat_Int, Int.reduceLT, Int.reduceLE, Int.reduceToNat, Nat.reduceLT, Int.toNat_zero, Int.natCast_zero, Int.le_refl, Int.lt_irrefl, Int.reduceAdd, frz, false_or, or_true, hL, hX, hY, hY1, hY2, List.length_nil, List.length_cons, List.map_nil, List.map_cons]
  refine ops_call (.pure (lawId_meets _ _)) ?_
  simp only [go_sem, Nat.reduceLT, Nat.reduceAdd, Nat.reduceEqDiff, Nat.reduceLeDiff, Nat.reduceSub, Nat.reduceMul, Int.reduceEq, eq_self, reduceIte]
  refine ops_call (.pureE (sameIds_meets [⟨0, 2⟩] [⟨0, 2⟩] (by decide)) (by simp [go_sem, Nat.reduceLT, Nat.reduceAdd, Nat.reduceEqDiff, Nat.reduceLeDiff, Nat.reduceSub, Nat.reduceMul, Int.reduceEq, eq_self, reduceIte, cId])) ?_
  simp only [go_sem, Nat.reduceLT, Nat.reduceAdd, Nat.reduceEqDiff, Nat.reduceLeDiff, Nat.reduceSub, Nat.reduceMul, Int.reduceEq, eq_self, reduceIte]
  refine ops_call (.pure (lawId_meets _ _)) ?_
  simp only [go_sem, Nat.reduceLT, Nat.reduceAdd, Nat.reduceEqDiff, Nat.reduceLeDiff, Nat.reduceSub, Nat.reduceMul, Int.reduceEq, eq_self, reduceIte, Int.ofNat_zero, Int.natCast_one, Int.cast_ofNat_Int, Int.reduceLT, Int.reduceLE, Int.reduceToNat, Nat.reduceLT, Int.toNat_zero, Int.natCast_zero, Int.le_refl, Int.lt_irrefl, Int.reduceAdd, frz, false_or, or_true]
  refine ret_pure hx ?_
  simp [go_sem, Nat.reduceLT, Nat.reduceAdd, Nat.reduceEqDiff, Nat.reduceLeDiff, Nat.reduceSub, Nat.reduceMul, Int.reduceEq, eq_self, reduceIte, L14, R14]
theorem apSi_if (r : Int) (lg ws : List Entry) (c : Int) (t : ByteArray) : (if apErrX r lg ws c t = 0 then cSi3 (apSiX r lg ws c t) else cSi 0 [] []) = cSi3 (apSiX r lg ws c t) := by
  unfold apErrX apSiX apSi
  by_cases h0 : siErr r lg ws = 0
  · simp only [h0, ne_eq, not_true_eq_false, if_false]
    by_cases h1 : apErr r lg c t = 0
    · rw [if_pos h1]
    · rw [if_neg h1, if_neg h1]; rfl
  · rw [if_pos h0, if_pos h0, if_neg h0]; rfl
theorem rcSi_if (r : Int) (lg ws : List Entry) (e : Entry) : (if rcErrX r lg ws e = 0 then cSi3 (rcSiX r lg ws e) else cSi 0 [] []) = cSi3 (rcSiX r lg ws e) := by
  unfold rcErrX rcSiX
  by_cases h0 : siErr r lg ws = 0
  · by_cases h1 : checkEntry e = 0
    · simp only [h0, h1, ne_eq, not_true_eq_false, if_false, or_self]
      by_cases h2 : rcErr r lg ws e = 0
      · rw [if_pos h2]
      · rw [if_neg h2, rcSi]
        split
        · rename_i h3
          rw [rcErr, if_pos h3] at h2; exact (h2 rfl).elim
        · rfl
    · simp only [h0, h1, ne_eq, not_true_eq_false, if_false, not_false_eq_true, or_true, if_true]; rfl
  · simp only [h0, ne_eq, not_false_eq_true, true_or, if_true, if_false]; rfl
theorem apSi_len (r : Int) (lg ws : List Entry) (c : Int) (t : ByteArray) (hl : lg.length ≤ 1000000000000000) (hw : ws.length ≤ 1000000000000000) : (apSiX r lg ws c t).2.1.length ≤ 9223372036854775806 ∧ (apSiX r lg ws c t).2.2.length ≤ 9223372036854775806 := by
  unfold apSiX apSi
  split
  · simp
  · split
    · obtain ⟨a, b⟩ := settleN_sum ws.length (lg ++ [apE r lg c t]) ws
      simp only [settled]
      rw [List.length_append, List.length_singleton] at a
      omega
    · simp
theorem rcSi_len (r : Int) (lg ws : List Entry) (e : Entry) (hl : lg.length ≤ 1000000000000000) (hw : ws.length ≤ 1000000000000000) : (rcSiX r lg ws e).2.1.length ≤ 9223372036854775806 ∧ (rcSiX r lg ws e).2.2.length ≤ 9223372036854775806 := by
  have hin := insE_len ws e (posE_le ws e.id)
  unfold rcSiX rcSi
  split
  · simp
  · split
    · simp only; omega
    · split
      · obtain ⟨a, b⟩ := settleN_sum (ws.insertIdx (posE ws e.id) e).length lg (ws.insertIdx (posE ws e.id) e)
        simp only [rcP, settled]
        omega
      · simp
theorem siteIs_ap (r : Int) (lg ws : List Entry) (c : Int) (t : ByteArray) (hl : lg.length ≤ 1000000000000000) (hw : ws.length ≤ 1000000000000000) : Meets Try.prog 16 [.agg (cSi3 (apSiX r lg ws c t)), .int .i64 (apErrX r lg ws c t), .int .i64 (apErrX r lg ws c t), .agg (cSi3 (apSiX r lg ws c t))] [] (.bool true) [] := by
  obtain ⟨a, b⟩ := apSi_len r lg ws c t hl hw
  have := siteIs_meets (apErrX r lg ws c t) (apSiX r lg ws c t) a b
  rwa [apSi_if] at this
theorem siteIs_rc (r : Int) (lg ws : List Entry) (e : Entry) (hl : lg.length ≤ 1000000000000000) (hw : ws.length ≤ 1000000000000000) : Meets Try.prog 16 [.agg (cSi3 (rcSiX r lg ws e)), .int .i64 (rcErrX r lg ws e), .int .i64 (rcErrX r lg ws e), .agg (cSi3 (rcSiX r lg ws e))] [] (.bool true) [] := by
  obtain ⟨a, b⟩ := rcSi_len r lg ws e hl hw
  have := siteIs_meets (rcErrX r lg ws e) (rcSiX r lg ws e) a b
  rwa [rcSi_if] at this
set_option maxRecDepth 10000 in
set_option maxHeartbeats 8000000 in
theorem siteTells_meets (r q : Int) (lg ws : List Entry) (c : Int) (t : ByteArray) (e : Entry) (hl : lg.length ≤ 1000000000000000) (hw : ws.length ≤ 1000000000000000) :
    Meets Try.prog 3 [.int .i64 r, .agg (cSi q lg ws), .int .i64 c, .str t, .agg (cE e)] [] (.bool true) [] := by
  refine Meets.of_walk Try.func3 Try.ntmps3 low3 res3 (by simp) fun x hx => ?_
  simp only [go_sem, Nat.reduceLT, Nat.reduceAdd, Nat.reduceEqDiff, Nat.reduceLeDiff, Nat.reduceSub, Nat.reduceMul, Int.reduceEq, eq_self, reduceIte, L3, R3, cSi, cE]
  refine ops_call (.pureE (siNew_meets r) (by simp [go_sem, Nat.reduceLT, Nat.reduceAdd, Nat.reduceEqDiff, Nat.reduceLeDiff, Nat.reduceSub, Nat.reduceMul, Int.reduceEq, eq_self, reduceIte])) ?_
  by_cases r1 : r < 0
  · rw [if_neg (show ¬ (r = 0 ∨ r = 1) by omega), if_neg (show ¬ (r = 0 ∨ r = 1) by omega)]
    simp only [go_sem, Nat.reduceLT, Nat.reduceAdd, Nat.reduceEqDiff, Nat.reduceLeDiff, Nat.reduceSub, Nat.reduceMul, Int.reduceEq, eq_self, reduceIte, cSi]
    refine ops_call (.pureE (siAppend_meets q lg ws c t (by omega) (by omega)) (by simp [go_sem, Nat.reduceLT, Nat.reduceAdd, Nat.reduceEqDiff, Nat.reduceLeDiff, Nat.reduceSub, Nat.reduceMul, Int.reduceEq, eq_self, reduceIte, cSi])) ?_
    simp only [go_sem, Nat.reduceLT, Nat.reduceAdd, Nat.reduceEqDiff, Nat.reduceLeDiff, Nat.reduceSub, Nat.reduceMul, Int.reduceEq, eq_self, reduceIte, cSi3, cSi, cE]
    refine ops_call (.pureE (siReceive_meets q lg ws e (by omega) (by omega)) (by simp [go_sem, Nat.reduceLT, Nat.reduceAdd, Nat.reduceEqDiff, Nat.reduceLeDiff, Nat.reduceSub, Nat.reduceMul, Int.reduceEq, eq_self, reduceIte, cSi, cE])) ?_
    simp only [go_sem, Nat.reduceLT, Nat.reduceAdd, Nat.reduceEqDiff, Nat.reduceLeDiff, Nat.reduceSub, Nat.reduceMul, Int.reduceEq, eq_self, reduceIte, cSi3, cSi, cE]
    refine ops_call (.pureE (checkSite_meets q lg ws (by omega) (by omega)) (by simp [go_sem, Nat.reduceLT, Nat.reduceAdd, Nat.reduceEqDiff, Nat.reduceLeDiff, Nat.reduceSub, Nat.reduceMul, Int.reduceEq, eq_self, reduceIte, cSi])) ?_
    simp only [go_sem, Nat.reduceLT, Nat.reduceAdd, Nat.reduceEqDiff, Nat.reduceLeDiff, Nat.reduceSub, Nat.reduceMul, Int.reduceEq, eq_self, reduceIte, r1, cSi, cE]
    by_cases h0 : siErr q lg ws = 0
    · obtain ⟨hq, hok, hw20, hch⟩ := siErr_ok h0
      have hlen := hok.len
      have hwf := waits_fit fun k hk => (hch k hk).1
      have va : apErr q lg c t = apErrX q lg ws c t := by rw [apErrX, if_neg (by simp [h0])]
      have va1 : apSi q lg ws c t = apSiX q lg ws c t := by rw [apSiX, if_neg (by simp [h0])]
      have va2 : apEn q lg c t = apEnX q lg ws c t := by rw [apEnX, if_neg (by simp [h0])]
      simp only [go_sem, Nat.reduceLT, Nat.reduceAdd, Nat.reduceEqDiff, Nat.reduceLeDiff, Nat.reduceSub, Nat.reduceMul, Int.reduceEq, eq_self, reduceIte, h0, cE]
      refine ops_call (.pureE (checkEntry_meets e) (by simp [go_sem, Nat.reduceLT, Nat.reduceAdd, Nat.reduceEqDiff, Nat.reduceLeDiff, Nat.reduceSub, Nat.reduceMul, Int.reduceEq, eq_self, reduceIte, cE])) ?_
      simp only [go_sem, Nat.reduceLT, Nat.reduceAdd, Nat.reduceEqDiff, Nat.reduceLeDiff, Nat.reduceSub, Nat.reduceMul, Int.reduceEq, eq_self, reduceIte, cSi]
      refine ops_call (.pureE (appendOf_meets q lg ws c t hq hok hw20 hwf) (by simp [go_sem, Nat.reduceLT, Nat.reduceAdd, Nat.reduceEqDiff, Nat.reduceLeDiff, Nat.reduceSub, Nat.reduceMul, Int.reduceEq, eq_self, reduceIte, cSi])) ?_
      simp only [go_sem, Nat.reduceLT, Nat.reduceAdd, Nat.reduceEqDiff, Nat.reduceLeDiff, Nat.reduceSub, Nat.reduceMul, Int.reduceEq, eq_self, reduceIte, cSi3, cSi, cE, va, va1, va2]
      by_cases h1 : checkEntry e = 0
      · have vr : rcErr q lg ws e = rcErrX q lg ws e := by rw [rcErrX, if_neg (by simp [h0]), if_neg (by simp [h1])]
        have vr1 : rcSi q lg ws e = rcSiX q lg ws e := by rw [rcSiX, if_neg (by simp [h0, h1])]
        simp only [go_sem, Nat.reduceLT, Nat.reduceAdd, Nat.reduceEqDiff, Nat.reduceLeDiff, Nat.reduceSub, Nat.reduceMul, Int.reduceEq, eq_self, reduceIte, h1, cSi, cE]
        refine ops_call (.pureE (receiveOf_meets q lg ws e (by omega) (by omega) (log_fit hok) hwf (siErr_up h0) (check_fit h1)) (by simp [go_sem, Nat.reduceLT, Nat.reduceAdd, Nat.reduceEqDiff, Nat.reduceLeDiff, Nat.reduceSub, Nat.reduceMul, Int.reduceEq, eq_self, reduceIte, cSi, cE])) ?_
        simp only [go_sem, Nat.reduceLT, Nat.reduceAdd, Nat.reduceEqDiff, Nat.reduceLeDiff, Nat.reduceSub, Nat.reduceMul, Int.reduceEq, eq_self, reduceIte, cSi3, cSi, cE, vr, vr1, h0]
        refine ops_call (.pure siteBegun_meets) ?_
        simp only [go_sem, Nat.reduceLT, Nat.reduceAdd, Nat.reduceEqDiff, Nat.reduceLeDiff, Nat.reduceSub, Nat.reduceMul, Int.reduceEq, eq_self, reduceIte, cSi]
        refine ops_call (.pureE (siCheck_meets q lg ws (by omega) (by omega)) (by simp [go_sem, Nat.reduceLT, Nat.reduceAdd, Nat.reduceEqDiff, Nat.reduceLeDiff, Nat.reduceSub, Nat.reduceMul, Int.reduceEq, eq_self, reduceIte, cSi])) ?_
        simp only [go_sem, Nat.reduceLT, Nat.reduceAdd, Nat.reduceEqDiff, Nat.reduceLeDiff, Nat.reduceSub, Nat.reduceMul, Int.reduceEq, eq_self, reduceIte, cSi]
        refine ops_call (.pureE (checkSite_meets q lg ws (by omega) (by omega)) (by simp [go_sem, Nat.reduceLT, Nat.reduceAdd, Nat.reduceEqDiff, Nat.reduceLeDiff, Nat.reduceSub, Nat.reduceMul, Int.reduceEq, eq_self, reduceIte, cSi])) ?_
        simp only [go_sem, Nat.reduceLT, Nat.reduceAdd, Nat.reduceEqDiff, Nat.reduceLeDiff, Nat.reduceSub, Nat.reduceMul, Int.reduceEq, eq_self, reduceIte, cSi]
        refine ops_call (.pureE (siteIs_meets 3 (r, [], []) (by simp) (by simp)) (by simp [go_sem, Nat.reduceLT, Nat.reduceAdd, Nat.reduceEqDiff, Nat.reduceLeDiff, Nat.reduceSub, Nat.reduceMul, Int.reduceEq, eq_self, reduceIte, cSi3, cSi])) ?_
        simp only [go_sem, Nat.reduceLT, Nat.reduceAdd, Nat.reduceEqDiff, Nat.reduceLeDiff, Nat.reduceSub, Nat.reduceMul, Int.reduceEq, eq_self, reduceIte, cSi]
        refine ops_call (.pureE (siteIs_ap q lg ws c t hl hw) (by simp [go_sem, Nat.reduceLT, Nat.reduceAdd, Nat.reduceEqDiff, Nat.reduceLeDiff, Nat.reduceSub, Nat.reduceMul, Int.reduceEq, eq_self, reduceIte, cSi3, cSi, va, va1])) ?_
        simp only [go_sem, Nat.reduceLT, Nat.reduceAdd, Nat.reduceEqDiff, Nat.reduceLeDiff, Nat.reduceSub, Nat.reduceMul, Int.reduceEq, eq_self, reduceIte, cSi]
        refine ops_call (.pureE (sameEntry_meets (apEnX q lg ws c t) (apEnX q lg ws c t)) (by simp [go_sem, Nat.reduceLT, Nat.reduceAdd, Nat.reduceEqDiff, Nat.reduceLeDiff, Nat.reduceSub, Nat.reduceMul, Int.reduceEq, eq_self, reduceIte, cE, va2, zE, cId])) ?_
        rw [show sameE (apEnX q lg ws c t) (apEnX q lg ws c t) = true by simp [sameE]]
        simp only [go_sem, Nat.reduceLT, Nat.reduceAdd, Nat.reduceEqDiff, Nat.reduceLeDiff, Nat.reduceSub, Nat.reduceMul, Int.reduceEq, eq_self, reduceIte, cSi]
        refine ops_call (.pureE (siteIs_rc q lg ws e hl hw) (by simp [go_sem, Nat.reduceLT, Nat.reduceAdd, Nat.reduceEqDiff, Nat.reduceLeDiff, Nat.reduceSub, Nat.reduceMul, Int.reduceEq, eq_self, reduceIte, cSi3, cSi, vr, vr1])) ?_
        simp only [go_sem, Nat.reduceLT, Nat.reduceAdd, Nat.reduceEqDiff, Nat.reduceLeDiff, Nat.reduceSub, Nat.reduceMul, Int.reduceEq, eq_self, reduceIte, cSi]
        refine ret_pure hx ?_
        simp [go_sem, Nat.reduceLT, Nat.reduceAdd, Nat.reduceEqDiff, Nat.reduceLeDiff, Nat.reduceSub, Nat.reduceMul, Int.reduceEq, eq_self, reduceIte, L3, R3]
      · have vr : rcErrX q lg ws e = checkEntry e := by rw [rcErrX, if_neg (by simp [h0]), if_pos h1]
        have vr1 : rcSiX q lg ws e = (0, [], []) := by rw [rcSiX, if_pos (.inr h1)]
        simp only [go_sem, Nat.reduceLT, Nat.reduceAdd, Nat.reduceEqDiff, Nat.reduceLeDiff, Nat.reduceSub, Nat.reduceMul, Int.reduceEq, eq_self, reduceIte, h1, cSi, cE, h0]
        refine ops_call (.pure siteBegun_meets) ?_
        simp only [go_sem, Nat.reduceLT, Nat.reduceAdd, Nat.reduceEqDiff, Nat.reduceLeDiff, Nat.reduceSub, Nat.reduceMul, Int.reduceEq, eq_self, reduceIte, cSi]
        refine ops_call (.pureE (siCheck_meets q lg ws (by omega) (by omega)) (by simp [go_sem, Nat.reduceLT, Nat.reduceAdd, Nat.reduceEqDiff, Nat.reduceLeDiff, Nat.reduceSub, Nat.reduceMul, Int.reduceEq, eq_self, reduceIte, cSi])) ?_
        simp only [go_sem, Nat.reduceLT, Nat.reduceAdd, Nat.reduceEqDiff, Nat.reduceLeDiff, Nat.reduceSub, Nat.reduceMul, Int.reduceEq, eq_self, reduceIte, cSi]
        refine ops_call (.pureE (checkSite_meets q lg ws (by omega) (by omega)) (by simp [go_sem, Nat.reduceLT, Nat.reduceAdd, Nat.reduceEqDiff, Nat.reduceLeDiff, Nat.reduceSub, Nat.reduceMul, Int.reduceEq, eq_self, reduceIte, cSi])) ?_
        simp only [go_sem, Nat.reduceLT, Nat.reduceAdd, Nat.reduceEqDiff, Nat.reduceLeDiff, Nat.reduceSub, Nat.reduceMul, Int.reduceEq, eq_self, reduceIte, cSi]
        refine ops_call (.pureE (siteIs_meets 3 (r, [], []) (by simp) (by simp)) (by simp [go_sem, Nat.reduceLT, Nat.reduceAdd, Nat.reduceEqDiff, Nat.reduceLeDiff, Nat.reduceSub, Nat.reduceMul, Int.reduceEq, eq_self, reduceIte, cSi3, cSi])) ?_
        simp only [go_sem, Nat.reduceLT, Nat.reduceAdd, Nat.reduceEqDiff, Nat.reduceLeDiff, Nat.reduceSub, Nat.reduceMul, Int.reduceEq, eq_self, reduceIte, cSi]
        refine ops_call (.pureE (siteIs_ap q lg ws c t hl hw) (by simp [go_sem, Nat.reduceLT, Nat.reduceAdd, Nat.reduceEqDiff, Nat.reduceLeDiff, Nat.reduceSub, Nat.reduceMul, Int.reduceEq, eq_self, reduceIte, cSi3, cSi, va, va1])) ?_
        simp only [go_sem, Nat.reduceLT, Nat.reduceAdd, Nat.reduceEqDiff, Nat.reduceLeDiff, Nat.reduceSub, Nat.reduceMul, Int.reduceEq, eq_self, reduceIte, cSi]
        refine ops_call (.pureE (sameEntry_meets (apEnX q lg ws c t) (apEnX q lg ws c t)) (by simp [go_sem, Nat.reduceLT, Nat.reduceAdd, Nat.reduceEqDiff, Nat.reduceLeDiff, Nat.reduceSub, Nat.reduceMul, Int.reduceEq, eq_self, reduceIte, cE, va2, zE, cId])) ?_
        rw [show sameE (apEnX q lg ws c t) (apEnX q lg ws c t) = true by simp [sameE]]
        simp only [go_sem, Nat.reduceLT, Nat.reduceAdd, Nat.reduceEqDiff, Nat.reduceLeDiff, Nat.reduceSub, Nat.reduceMul, Int.reduceEq, eq_self, reduceIte, cSi]
        refine ops_call (.pureE (siteIs_rc q lg ws e hl hw) (by simp [go_sem, Nat.reduceLT, Nat.reduceAdd, Nat.reduceEqDiff, Nat.reduceLeDiff, Nat.reduceSub, Nat.reduceMul, Int.reduceEq, eq_self, reduceIte, cSi3, cSi, vr, vr1])) ?_
        simp only [go_sem, Nat.reduceLT, Nat.reduceAdd, Nat.reduceEqDiff, Nat.reduceLeDiff, Nat.reduceSub, Nat.reduceMul, Int.reduceEq, eq_self, reduceIte, cSi]
        refine ret_pure hx ?_
        simp [go_sem, Nat.reduceLT, Nat.reduceAdd, Nat.reduceEqDiff, Nat.reduceLeDiff, Nat.reduceSub, Nat.reduceMul, Int.reduceEq, eq_self, reduceIte, L3, R3]
    · have va : apErrX q lg ws c t = siErr q lg ws := by rw [apErrX, if_pos h0]
      have va1 : apSiX q lg ws c t = (0, [], []) := by rw [apSiX, if_pos h0]
      have va2 : apEnX q lg ws c t = zE := by rw [apEnX, if_pos h0]
      have vr : rcErrX q lg ws e = siErr q lg ws := by rw [rcErrX, if_pos h0]
      have vr1 : rcSiX q lg ws e = (0, [], []) := by rw [rcSiX, if_pos (.inl h0)]
      simp only [go_sem, Nat.reduceLT, Nat.reduceAdd, Nat.reduceEqDiff, Nat.reduceLeDiff, Nat.reduceSub, Nat.reduceMul, Int.reduceEq, eq_self, reduceIte, h0, cSi, cE]
      refine ops_call (.pure siteBegun_meets) ?_
      simp only [go_sem, Nat.reduceLT, Nat.reduceAdd, Nat.reduceEqDiff, Nat.reduceLeDiff, Nat.reduceSub, Nat.reduceMul, Int.reduceEq, eq_self, reduceIte, cSi]
      refine ops_call (.pureE (siCheck_meets q lg ws (by omega) (by omega)) (by simp [go_sem, Nat.reduceLT, Nat.reduceAdd, Nat.reduceEqDiff, Nat.reduceLeDiff, Nat.reduceSub, Nat.reduceMul, Int.reduceEq, eq_self, reduceIte, cSi])) ?_
      simp only [go_sem, Nat.reduceLT, Nat.reduceAdd, Nat.reduceEqDiff, Nat.reduceLeDiff, Nat.reduceSub, Nat.reduceMul, Int.reduceEq, eq_self, reduceIte, cSi]
      refine ops_call (.pureE (checkSite_meets q lg ws (by omega) (by omega)) (by simp [go_sem, Nat.reduceLT, Nat.reduceAdd, Nat.reduceEqDiff, Nat.reduceLeDiff, Nat.reduceSub, Nat.reduceMul, Int.reduceEq, eq_self, reduceIte, cSi])) ?_
      simp only [go_sem, Nat.reduceLT, Nat.reduceAdd, Nat.reduceEqDiff, Nat.reduceLeDiff, Nat.reduceSub, Nat.reduceMul, Int.reduceEq, eq_self, reduceIte, cSi]
      refine ops_call (.pureE (siteIs_meets 3 (r, [], []) (by simp) (by simp)) (by simp [go_sem, Nat.reduceLT, Nat.reduceAdd, Nat.reduceEqDiff, Nat.reduceLeDiff, Nat.reduceSub, Nat.reduceMul, Int.reduceEq, eq_self, reduceIte, cSi3, cSi])) ?_
      simp only [go_sem, Nat.reduceLT, Nat.reduceAdd, Nat.reduceEqDiff, Nat.reduceLeDiff, Nat.reduceSub, Nat.reduceMul, Int.reduceEq, eq_self, reduceIte, cSi]
      refine ops_call (.pureE (siteIs_ap q lg ws c t hl hw) (by simp [go_sem, Nat.reduceLT, Nat.reduceAdd, Nat.reduceEqDiff, Nat.reduceLeDiff, Nat.reduceSub, Nat.reduceMul, Int.reduceEq, eq_self, reduceIte, cSi3, cSi, va, va1])) ?_
      simp only [go_sem, Nat.reduceLT, Nat.reduceAdd, Nat.reduceEqDiff, Nat.reduceLeDiff, Nat.reduceSub, Nat.reduceMul, Int.reduceEq, eq_self, reduceIte, cSi]
      refine ops_call (.pureE (sameEntry_meets (apEnX q lg ws c t) (apEnX q lg ws c t)) (by simp [go_sem, Nat.reduceLT, Nat.reduceAdd, Nat.reduceEqDiff, Nat.reduceLeDiff, Nat.reduceSub, Nat.reduceMul, Int.reduceEq, eq_self, reduceIte, cE, va2, zE, cId])) ?_
      rw [show sameE (apEnX q lg ws c t) (apEnX q lg ws c t) = true by simp [sameE]]
      simp only [go_sem, Nat.reduceLT, Nat.reduceAdd, Nat.reduceEqDiff, Nat.reduceLeDiff, Nat.reduceSub, Nat.reduceMul, Int.reduceEq, eq_self, reduceIte, cSi]
      refine ops_call (.pureE (siteIs_rc q lg ws e hl hw) (by simp [go_sem, Nat.reduceLT, Nat.reduceAdd, Nat.reduceEqDiff, Nat.reduceLeDiff, Nat.reduceSub, Nat.reduceMul, Int.reduceEq, eq_self, reduceIte, cSi3, cSi, vr, vr1])) ?_
      simp only [go_sem, Nat.reduceLT, Nat.reduceAdd, Nat.reduceEqDiff, Nat.reduceLeDiff, Nat.reduceSub, Nat.reduceMul, Int.reduceEq, eq_self, reduceIte, cSi]
      refine ret_pure hx ?_
      simp [go_sem, Nat.reduceLT, Nat.reduceAdd, Nat.reduceEqDiff, Nat.reduceLeDiff, Nat.reduceSub, Nat.reduceMul, Int.reduceEq, eq_self, reduceIte, L3, R3]
  · by_cases r3 : 1 < r
    · rw [if_neg (show ¬ (r = 0 ∨ r = 1) by omega), if_neg (show ¬ (r = 0 ∨ r = 1) by omega)]
      simp only [go_sem, Nat.reduceLT, Nat.reduceAdd, Nat.reduceEqDiff, Nat.reduceLeDiff, Nat.reduceSub, Nat.reduceMul, Int.reduceEq, eq_self, reduceIte, cSi]
      refine ops_call (.pureE (siAppend_meets q lg ws c t (by omega) (by omega)) (by simp [go_sem, Nat.reduceLT, Nat.reduceAdd, Nat.reduceEqDiff, Nat.reduceLeDiff, Nat.reduceSub, Nat.reduceMul, Int.reduceEq, eq_self, reduceIte, cSi])) ?_
      simp only [go_sem, Nat.reduceLT, Nat.reduceAdd, Nat.reduceEqDiff, Nat.reduceLeDiff, Nat.reduceSub, Nat.reduceMul, Int.reduceEq, eq_self, reduceIte, cSi3, cSi, cE]
      refine ops_call (.pureE (siReceive_meets q lg ws e (by omega) (by omega)) (by simp [go_sem, Nat.reduceLT, Nat.reduceAdd, Nat.reduceEqDiff, Nat.reduceLeDiff, Nat.reduceSub, Nat.reduceMul, Int.reduceEq, eq_self, reduceIte, cSi, cE])) ?_
      simp only [go_sem, Nat.reduceLT, Nat.reduceAdd, Nat.reduceEqDiff, Nat.reduceLeDiff, Nat.reduceSub, Nat.reduceMul, Int.reduceEq, eq_self, reduceIte, cSi3, cSi, cE]
      refine ops_call (.pureE (checkSite_meets q lg ws (by omega) (by omega)) (by simp [go_sem, Nat.reduceLT, Nat.reduceAdd, Nat.reduceEqDiff, Nat.reduceLeDiff, Nat.reduceSub, Nat.reduceMul, Int.reduceEq, eq_self, reduceIte, cSi])) ?_
      simp only [go_sem, Nat.reduceLT, Nat.reduceAdd, Nat.reduceEqDiff, Nat.reduceLeDiff, Nat.reduceSub, Nat.reduceMul, Int.reduceEq, eq_self, reduceIte, r1, r3, cSi, cE]
      by_cases h0 : siErr q lg ws = 0
      · obtain ⟨hq, hok, hw20, hch⟩ := siErr_ok h0
        have hlen := hok.len
        have hwf := waits_fit fun k hk => (hch k hk).1
        have va : apErr q lg c t = apErrX q lg ws c t := by rw [apErrX, if_neg (by simp [h0])]
        have va1 : apSi q lg ws c t = apSiX q lg ws c t := by rw [apSiX, if_neg (by simp [h0])]
        have va2 : apEn q lg c t = apEnX q lg ws c t := by rw [apEnX, if_neg (by simp [h0])]
        simp only [go_sem, Nat.reduceLT, Nat.reduceAdd, Nat.reduceEqDiff, Nat.reduceLeDiff, Nat.reduceSub, Nat.reduceMul, Int.reduceEq, eq_self, reduceIte, h0, cE]
        refine ops_call (.pureE (checkEntry_meets e) (by simp [go_sem, Nat.reduceLT, Nat.reduceAdd, Nat.reduceEqDiff, Nat.reduceLeDiff, Nat.reduceSub, Nat.reduceMul, Int.reduceEq, eq_self, reduceIte, cE])) ?_
        simp only [go_sem, Nat.reduceLT, Nat.reduceAdd, Nat.reduceEqDiff, Nat.reduceLeDiff, Nat.reduceSub, Nat.reduceMul, Int.reduceEq, eq_self, reduceIte, cSi]
        refine ops_call (.pureE (appendOf_meets q lg ws c t hq hok hw20 hwf) (by simp [go_sem, Nat.reduceLT, Nat.reduceAdd, Nat.reduceEqDiff, Nat.reduceLeDiff, Nat.reduceSub, Nat.reduceMul, Int.reduceEq, eq_self, reduceIte, cSi])) ?_
        simp only [go_sem, Nat.reduceLT, Nat.reduceAdd, Nat.reduceEqDiff, Nat.reduceLeDiff, Nat.reduceSub, Nat.reduceMul, Int.reduceEq, eq_self, reduceIte, cSi3, cSi, cE, va, va1, va2]
        by_cases h1 : checkEntry e = 0
        · have vr : rcErr q lg ws e = rcErrX q lg ws e := by rw [rcErrX, if_neg (by simp [h0]), if_neg (by simp [h1])]
          have vr1 : rcSi q lg ws e = rcSiX q lg ws e := by rw [rcSiX, if_neg (by simp [h0, h1])]
          simp only [go_sem, Nat.reduceLT, Nat.reduceAdd, Nat.reduceEqDiff, Nat.reduceLeDiff, Nat.reduceSub, Nat.reduceMul, Int.reduceEq, eq_self, reduceIte, h1, cSi, cE]
          refine ops_call (.pureE (receiveOf_meets q lg ws e (by omega) (by omega) (log_fit hok) hwf (siErr_up h0) (check_fit h1)) (by simp [go_sem, Nat.reduceLT, Nat.reduceAdd, Nat.reduceEqDiff, Nat.reduceLeDiff, Nat.reduceSub, Nat.reduceMul, Int.reduceEq, eq_self, reduceIte, cSi, cE])) ?_
          simp only [go_sem, Nat.reduceLT, Nat.reduceAdd, Nat.reduceEqDiff, Nat.reduceLeDiff, Nat.reduceSub, Nat.reduceMul, Int.reduceEq, eq_self, reduceIte, cSi3, cSi, cE, vr, vr1, h0]
          refine ops_call (.pure siteBegun_meets) ?_
          simp only [go_sem, Nat.reduceLT, Nat.reduceAdd, Nat.reduceEqDiff, Nat.reduceLeDiff, Nat.reduceSub, Nat.reduceMul, Int.reduceEq, eq_self, reduceIte, cSi]
          refine ops_call (.pureE (siCheck_meets q lg ws (by omega) (by omega)) (by simp [go_sem, Nat.reduceLT, Nat.reduceAdd, Nat.reduceEqDiff, Nat.reduceLeDiff, Nat.reduceSub, Nat.reduceMul, Int.reduceEq, eq_self, reduceIte, cSi])) ?_
          simp only [go_sem, Nat.reduceLT, Nat.reduceAdd, Nat.reduceEqDiff, Nat.reduceLeDiff, Nat.reduceSub, Nat.reduceMul, Int.reduceEq, eq_self, reduceIte, cSi]
          refine ops_call (.pureE (checkSite_meets q lg ws (by omega) (by omega)) (by simp [go_sem, Nat.reduceLT, Nat.reduceAdd, Nat.reduceEqDiff, Nat.reduceLeDiff, Nat.reduceSub, Nat.reduceMul, Int.reduceEq, eq_self, reduceIte, cSi])) ?_
          simp only [go_sem, Nat.reduceLT, Nat.reduceAdd, Nat.reduceEqDiff, Nat.reduceLeDiff, Nat.reduceSub, Nat.reduceMul, Int.reduceEq, eq_self, reduceIte, cSi]
          refine ops_call (.pureE (siteIs_meets 3 (r, [], []) (by simp) (by simp)) (by simp [go_sem, Nat.reduceLT, Nat.reduceAdd, Nat.reduceEqDiff, Nat.reduceLeDiff, Nat.reduceSub, Nat.reduceMul, Int.reduceEq, eq_self, reduceIte, cSi3, cSi])) ?_
          simp only [go_sem, Nat.reduceLT, Nat.reduceAdd, Nat.reduceEqDiff, Nat.reduceLeDiff, Nat.reduceSub, Nat.reduceMul, Int.reduceEq, eq_self, reduceIte, cSi]
          refine ops_call (.pureE (siteIs_ap q lg ws c t hl hw) (by simp [go_sem, Nat.reduceLT, Nat.reduceAdd, Nat.reduceEqDiff, Nat.reduceLeDiff, Nat.reduceSub, Nat.reduceMul, Int.reduceEq, eq_self, reduceIte, cSi3, cSi, va, va1])) ?_
          simp only [go_sem, Nat.reduceLT, Nat.reduceAdd, Nat.reduceEqDiff, Nat.reduceLeDiff, Nat.reduceSub, Nat.reduceMul, Int.reduceEq, eq_self, reduceIte, cSi]
          refine ops_call (.pureE (sameEntry_meets (apEnX q lg ws c t) (apEnX q lg ws c t)) (by simp [go_sem, Nat.reduceLT, Nat.reduceAdd, Nat.reduceEqDiff, Nat.reduceLeDiff, Nat.reduceSub, Nat.reduceMul, Int.reduceEq, eq_self, reduceIte, cE, va2, zE, cId])) ?_
          rw [show sameE (apEnX q lg ws c t) (apEnX q lg ws c t) = true by simp [sameE]]
          simp only [go_sem, Nat.reduceLT, Nat.reduceAdd, Nat.reduceEqDiff, Nat.reduceLeDiff, Nat.reduceSub, Nat.reduceMul, Int.reduceEq, eq_self, reduceIte, cSi]
          refine ops_call (.pureE (siteIs_rc q lg ws e hl hw) (by simp [go_sem, Nat.reduceLT, Nat.reduceAdd, Nat.reduceEqDiff, Nat.reduceLeDiff, Nat.reduceSub, Nat.reduceMul, Int.reduceEq, eq_self, reduceIte, cSi3, cSi, vr, vr1])) ?_
          simp only [go_sem, Nat.reduceLT, Nat.reduceAdd, Nat.reduceEqDiff, Nat.reduceLeDiff, Nat.reduceSub, Nat.reduceMul, Int.reduceEq, eq_self, reduceIte, cSi]
          refine ret_pure hx ?_
          simp [go_sem, Nat.reduceLT, Nat.reduceAdd, Nat.reduceEqDiff, Nat.reduceLeDiff, Nat.reduceSub, Nat.reduceMul, Int.reduceEq, eq_self, reduceIte, L3, R3]
        · have vr : rcErrX q lg ws e = checkEntry e := by rw [rcErrX, if_neg (by simp [h0]), if_pos h1]
          have vr1 : rcSiX q lg ws e = (0, [], []) := by rw [rcSiX, if_pos (.inr h1)]
          simp only [go_sem, Nat.reduceLT, Nat.reduceAdd, Nat.reduceEqDiff, Nat.reduceLeDiff, Nat.reduceSub, Nat.reduceMul, Int.reduceEq, eq_self, reduceIte, h1, cSi, cE, h0]
          refine ops_call (.pure siteBegun_meets) ?_
          simp only [go_sem, Nat.reduceLT, Nat.reduceAdd, Nat.reduceEqDiff, Nat.reduceLeDiff, Nat.reduceSub, Nat.reduceMul, Int.reduceEq, eq_self, reduceIte, cSi]
          refine ops_call (.pureE (siCheck_meets q lg ws (by omega) (by omega)) (by simp [go_sem, Nat.reduceLT, Nat.reduceAdd, Nat.reduceEqDiff, Nat.reduceLeDiff, Nat.reduceSub, Nat.reduceMul, Int.reduceEq, eq_self, reduceIte, cSi])) ?_
          simp only [go_sem, Nat.reduceLT, Nat.reduceAdd, Nat.reduceEqDiff, Nat.reduceLeDiff, Nat.reduceSub, Nat.reduceMul, Int.reduceEq, eq_self, reduceIte, cSi]
          refine ops_call (.pureE (checkSite_meets q lg ws (by omega) (by omega)) (by simp [go_sem, Nat.reduceLT, Nat.reduceAdd, Nat.reduceEqDiff, Nat.reduceLeDiff, Nat.reduceSub, Nat.reduceMul, Int.reduceEq, eq_self, reduceIte, cSi])) ?_
          simp only [go_sem, Nat.reduceLT, Nat.reduceAdd, Nat.reduceEqDiff, Nat.reduceLeDiff, Nat.reduceSub, Nat.reduceMul, Int.reduceEq, eq_self, reduceIte, cSi]
          refine ops_call (.pureE (siteIs_meets 3 (r, [], []) (by simp) (by simp)) (by simp [go_sem, Nat.reduceLT, Nat.reduceAdd, Nat.reduceEqDiff, Nat.reduceLeDiff, Nat.reduceSub, Nat.reduceMul, Int.reduceEq, eq_self, reduceIte, cSi3, cSi])) ?_
          simp only [go_sem, Nat.reduceLT, Nat.reduceAdd, Nat.reduceEqDiff, Nat.reduceLeDiff, Nat.reduceSub, Nat.reduceMul, Int.reduceEq, eq_self, reduceIte, cSi]
          refine ops_call (.pureE (siteIs_ap q lg ws c t hl hw) (by simp [go_sem, Nat.reduceLT, Nat.reduceAdd, Nat.reduceEqDiff, Nat.reduceLeDiff, Nat.reduceSub, Nat.reduceMul, Int.reduceEq, eq_self, reduceIte, cSi3, cSi, va, va1])) ?_
          simp only [go_sem, Nat.reduceLT, Nat.reduceAdd, Nat.reduceEqDiff, Nat.reduceLeDiff, Nat.reduceSub, Nat.reduceMul, Int.reduceEq, eq_self, reduceIte, cSi]
          refine ops_call (.pureE (sameEntry_meets (apEnX q lg ws c t) (apEnX q lg ws c t)) (by simp [go_sem, Nat.reduceLT, Nat.reduceAdd, Nat.reduceEqDiff, Nat.reduceLeDiff, Nat.reduceSub, Nat.reduceMul, Int.reduceEq, eq_self, reduceIte, cE, va2, zE, cId])) ?_
          rw [show sameE (apEnX q lg ws c t) (apEnX q lg ws c t) = true by simp [sameE]]
          simp only [go_sem, Nat.reduceLT, Nat.reduceAdd, Nat.reduceEqDiff, Nat.reduceLeDiff, Nat.reduceSub, Nat.reduceMul, Int.reduceEq, eq_self, reduceIte, cSi]
          refine ops_call (.pureE (siteIs_rc q lg ws e hl hw) (by simp [go_sem, Nat.reduceLT, Nat.reduceAdd, Nat.reduceEqDiff, Nat.reduceLeDiff, Nat.reduceSub, Nat.reduceMul, Int.reduceEq, eq_self, reduceIte, cSi3, cSi, vr, vr1])) ?_
          simp only [go_sem, Nat.reduceLT, Nat.reduceAdd, Nat.reduceEqDiff, Nat.reduceLeDiff, Nat.reduceSub, Nat.reduceMul, Int.reduceEq, eq_self, reduceIte, cSi]
          refine ret_pure hx ?_
          simp [go_sem, Nat.reduceLT, Nat.reduceAdd, Nat.reduceEqDiff, Nat.reduceLeDiff, Nat.reduceSub, Nat.reduceMul, Int.reduceEq, eq_self, reduceIte, L3, R3]
      · have va : apErrX q lg ws c t = siErr q lg ws := by rw [apErrX, if_pos h0]
        have va1 : apSiX q lg ws c t = (0, [], []) := by rw [apSiX, if_pos h0]
        have va2 : apEnX q lg ws c t = zE := by rw [apEnX, if_pos h0]
        have vr : rcErrX q lg ws e = siErr q lg ws := by rw [rcErrX, if_pos h0]
        have vr1 : rcSiX q lg ws e = (0, [], []) := by rw [rcSiX, if_pos (.inl h0)]
        simp only [go_sem, Nat.reduceLT, Nat.reduceAdd, Nat.reduceEqDiff, Nat.reduceLeDiff, Nat.reduceSub, Nat.reduceMul, Int.reduceEq, eq_self, reduceIte, h0, cSi, cE]
        refine ops_call (.pure siteBegun_meets) ?_
        simp only [go_sem, Nat.reduceLT, Nat.reduceAdd, Nat.reduceEqDiff, Nat.reduceLeDiff, Nat.reduceSub, Nat.reduceMul, Int.reduceEq, eq_self, reduceIte, cSi]
        refine ops_call (.pureE (siCheck_meets q lg ws (by omega) (by omega)) (by simp [go_sem, Nat.reduceLT, Nat.reduceAdd, Nat.reduceEqDiff, Nat.reduceLeDiff, Nat.reduceSub, Nat.reduceMul, Int.reduceEq, eq_self, reduceIte, cSi])) ?_
        simp only [go_sem, Nat.reduceLT, Nat.reduceAdd, Nat.reduceEqDiff, Nat.reduceLeDiff, Nat.reduceSub, Nat.reduceMul, Int.reduceEq, eq_self, reduceIte, cSi]
        refine ops_call (.pureE (checkSite_meets q lg ws (by omega) (by omega)) (by simp [go_sem, Nat.reduceLT, Nat.reduceAdd, Nat.reduceEqDiff, Nat.reduceLeDiff, Nat.reduceSub, Nat.reduceMul, Int.reduceEq, eq_self, reduceIte, cSi])) ?_
        simp only [go_sem, Nat.reduceLT, Nat.reduceAdd, Nat.reduceEqDiff, Nat.reduceLeDiff, Nat.reduceSub, Nat.reduceMul, Int.reduceEq, eq_self, reduceIte, cSi]
        refine ops_call (.pureE (siteIs_meets 3 (r, [], []) (by simp) (by simp)) (by simp [go_sem, Nat.reduceLT, Nat.reduceAdd, Nat.reduceEqDiff, Nat.reduceLeDiff, Nat.reduceSub, Nat.reduceMul, Int.reduceEq, eq_self, reduceIte, cSi3, cSi])) ?_
        simp only [go_sem, Nat.reduceLT, Nat.reduceAdd, Nat.reduceEqDiff, Nat.reduceLeDiff, Nat.reduceSub, Nat.reduceMul, Int.reduceEq, eq_self, reduceIte, cSi]
        refine ops_call (.pureE (siteIs_ap q lg ws c t hl hw) (by simp [go_sem, Nat.reduceLT, Nat.reduceAdd, Nat.reduceEqDiff, Nat.reduceLeDiff, Nat.reduceSub, Nat.reduceMul, Int.reduceEq, eq_self, reduceIte, cSi3, cSi, va, va1])) ?_
        simp only [go_sem, Nat.reduceLT, Nat.reduceAdd, Nat.reduceEqDiff, Nat.reduceLeDiff, Nat.reduceSub, Nat.reduceMul, Int.reduceEq, eq_self, reduceIte, cSi]
        refine ops_call (.pureE (sameEntry_meets (apEnX q lg ws c t) (apEnX q lg ws c t)) (by simp [go_sem, Nat.reduceLT, Nat.reduceAdd, Nat.reduceEqDiff, Nat.reduceLeDiff, Nat.reduceSub, Nat.reduceMul, Int.reduceEq, eq_self, reduceIte, cE, va2, zE, cId])) ?_
        rw [show sameE (apEnX q lg ws c t) (apEnX q lg ws c t) = true by simp [sameE]]
        simp only [go_sem, Nat.reduceLT, Nat.reduceAdd, Nat.reduceEqDiff, Nat.reduceLeDiff, Nat.reduceSub, Nat.reduceMul, Int.reduceEq, eq_self, reduceIte, cSi]
        refine ops_call (.pureE (siteIs_rc q lg ws e hl hw) (by simp [go_sem, Nat.reduceLT, Nat.reduceAdd, Nat.reduceEqDiff, Nat.reduceLeDiff, Nat.reduceSub, Nat.reduceMul, Int.reduceEq, eq_self, reduceIte, cSi3, cSi, vr, vr1])) ?_
        simp only [go_sem, Nat.reduceLT, Nat.reduceAdd, Nat.reduceEqDiff, Nat.reduceLeDiff, Nat.reduceSub, Nat.reduceMul, Int.reduceEq, eq_self, reduceIte, cSi]
        refine ret_pure hx ?_
        simp [go_sem, Nat.reduceLT, Nat.reduceAdd, Nat.reduceEqDiff, Nat.reduceLeDiff, Nat.reduceSub, Nat.reduceMul, Int.reduceEq, eq_self, reduceIte, L3, R3]
    · rw [if_pos (show r = 0 ∨ r = 1 by omega), if_pos (show r = 0 ∨ r = 1 by omega)]
      simp only [go_sem, Nat.reduceLT, Nat.reduceAdd, Nat.reduceEqDiff, Nat.reduceLeDiff, Nat.reduceSub, Nat.reduceMul, Int.reduceEq, eq_self, reduceIte, cSi]
      refine ops_call (.pureE (siAppend_meets q lg ws c t (by omega) (by omega)) (by simp [go_sem, Nat.reduceLT, Nat.reduceAdd, Nat.reduceEqDiff, Nat.reduceLeDiff, Nat.reduceSub, Nat.reduceMul, Int.reduceEq, eq_self, reduceIte, cSi])) ?_
      simp only [go_sem, Nat.reduceLT, Nat.reduceAdd, Nat.reduceEqDiff, Nat.reduceLeDiff, Nat.reduceSub, Nat.reduceMul, Int.reduceEq, eq_self, reduceIte, cSi3, cSi, cE]
      refine ops_call (.pureE (siReceive_meets q lg ws e (by omega) (by omega)) (by simp [go_sem, Nat.reduceLT, Nat.reduceAdd, Nat.reduceEqDiff, Nat.reduceLeDiff, Nat.reduceSub, Nat.reduceMul, Int.reduceEq, eq_self, reduceIte, cSi, cE])) ?_
      simp only [go_sem, Nat.reduceLT, Nat.reduceAdd, Nat.reduceEqDiff, Nat.reduceLeDiff, Nat.reduceSub, Nat.reduceMul, Int.reduceEq, eq_self, reduceIte, cSi3, cSi, cE]
      refine ops_call (.pureE (checkSite_meets q lg ws (by omega) (by omega)) (by simp [go_sem, Nat.reduceLT, Nat.reduceAdd, Nat.reduceEqDiff, Nat.reduceLeDiff, Nat.reduceSub, Nat.reduceMul, Int.reduceEq, eq_self, reduceIte, cSi])) ?_
      simp only [go_sem, Nat.reduceLT, Nat.reduceAdd, Nat.reduceEqDiff, Nat.reduceLeDiff, Nat.reduceSub, Nat.reduceMul, Int.reduceEq, eq_self, reduceIte, r1, r3, cSi, cE]
      by_cases h0 : siErr q lg ws = 0
      · obtain ⟨hq, hok, hw20, hch⟩ := siErr_ok h0
        have hlen := hok.len
        have hwf := waits_fit fun k hk => (hch k hk).1
        have va : apErr q lg c t = apErrX q lg ws c t := by rw [apErrX, if_neg (by simp [h0])]
        have va1 : apSi q lg ws c t = apSiX q lg ws c t := by rw [apSiX, if_neg (by simp [h0])]
        have va2 : apEn q lg c t = apEnX q lg ws c t := by rw [apEnX, if_neg (by simp [h0])]
        simp only [go_sem, Nat.reduceLT, Nat.reduceAdd, Nat.reduceEqDiff, Nat.reduceLeDiff, Nat.reduceSub, Nat.reduceMul, Int.reduceEq, eq_self, reduceIte, h0, cE]
        refine ops_call (.pureE (checkEntry_meets e) (by simp [go_sem, Nat.reduceLT, Nat.reduceAdd, Nat.reduceEqDiff, Nat.reduceLeDiff, Nat.reduceSub, Nat.reduceMul, Int.reduceEq, eq_self, reduceIte, cE])) ?_
        simp only [go_sem, Nat.reduceLT, Nat.reduceAdd, Nat.reduceEqDiff, Nat.reduceLeDiff, Nat.reduceSub, Nat.reduceMul, Int.reduceEq, eq_self, reduceIte, cSi]
        refine ops_call (.pureE (appendOf_meets q lg ws c t hq hok hw20 hwf) (by simp [go_sem, Nat.reduceLT, Nat.reduceAdd, Nat.reduceEqDiff, Nat.reduceLeDiff, Nat.reduceSub, Nat.reduceMul, Int.reduceEq, eq_self, reduceIte, cSi])) ?_
        simp only [go_sem, Nat.reduceLT, Nat.reduceAdd, Nat.reduceEqDiff, Nat.reduceLeDiff, Nat.reduceSub, Nat.reduceMul, Int.reduceEq, eq_self, reduceIte, cSi3, cSi, cE, va, va1, va2]
        by_cases h1 : checkEntry e = 0
        · have vr : rcErr q lg ws e = rcErrX q lg ws e := by rw [rcErrX, if_neg (by simp [h0]), if_neg (by simp [h1])]
          have vr1 : rcSi q lg ws e = rcSiX q lg ws e := by rw [rcSiX, if_neg (by simp [h0, h1])]
          simp only [go_sem, Nat.reduceLT, Nat.reduceAdd, Nat.reduceEqDiff, Nat.reduceLeDiff, Nat.reduceSub, Nat.reduceMul, Int.reduceEq, eq_self, reduceIte, h1, cSi, cE]
          refine ops_call (.pureE (receiveOf_meets q lg ws e (by omega) (by omega) (log_fit hok) hwf (siErr_up h0) (check_fit h1)) (by simp [go_sem, Nat.reduceLT, Nat.reduceAdd, Nat.reduceEqDiff, Nat.reduceLeDiff, Nat.reduceSub, Nat.reduceMul, Int.reduceEq, eq_self, reduceIte, cSi, cE])) ?_
          simp only [go_sem, Nat.reduceLT, Nat.reduceAdd, Nat.reduceEqDiff, Nat.reduceLeDiff, Nat.reduceSub, Nat.reduceMul, Int.reduceEq, eq_self, reduceIte, cSi3, cSi, cE, vr, vr1, h0]
          refine ops_call (.pure siteBegun_meets) ?_
          simp only [go_sem, Nat.reduceLT, Nat.reduceAdd, Nat.reduceEqDiff, Nat.reduceLeDiff, Nat.reduceSub, Nat.reduceMul, Int.reduceEq, eq_self, reduceIte, cSi]
          refine ops_call (.pureE (siCheck_meets q lg ws (by omega) (by omega)) (by simp [go_sem, Nat.reduceLT, Nat.reduceAdd, Nat.reduceEqDiff, Nat.reduceLeDiff, Nat.reduceSub, Nat.reduceMul, Int.reduceEq, eq_self, reduceIte, cSi])) ?_
          simp only [go_sem, Nat.reduceLT, Nat.reduceAdd, Nat.reduceEqDiff, Nat.reduceLeDiff, Nat.reduceSub, Nat.reduceMul, Int.reduceEq, eq_self, reduceIte, cSi]
          refine ops_call (.pureE (checkSite_meets q lg ws (by omega) (by omega)) (by simp [go_sem, Nat.reduceLT, Nat.reduceAdd, Nat.reduceEqDiff, Nat.reduceLeDiff, Nat.reduceSub, Nat.reduceMul, Int.reduceEq, eq_self, reduceIte, cSi])) ?_
          simp only [go_sem, Nat.reduceLT, Nat.reduceAdd, Nat.reduceEqDiff, Nat.reduceLeDiff, Nat.reduceSub, Nat.reduceMul, Int.reduceEq, eq_self, reduceIte, cSi]
          refine ops_call (.pureE (siteIs_meets 0 (r, [], []) (by simp) (by simp)) (by simp [go_sem, Nat.reduceLT, Nat.reduceAdd, Nat.reduceEqDiff, Nat.reduceLeDiff, Nat.reduceSub, Nat.reduceMul, Int.reduceEq, eq_self, reduceIte, cSi3, cSi])) ?_
          simp only [go_sem, Nat.reduceLT, Nat.reduceAdd, Nat.reduceEqDiff, Nat.reduceLeDiff, Nat.reduceSub, Nat.reduceMul, Int.reduceEq, eq_self, reduceIte, cSi]
          refine ops_call (.pureE (siteIs_ap q lg ws c t hl hw) (by simp [go_sem, Nat.reduceLT, Nat.reduceAdd, Nat.reduceEqDiff, Nat.reduceLeDiff, Nat.reduceSub, Nat.reduceMul, Int.reduceEq, eq_self, reduceIte, cSi3, cSi, va, va1])) ?_
          simp only [go_sem, Nat.reduceLT, Nat.reduceAdd, Nat.reduceEqDiff, Nat.reduceLeDiff, Nat.reduceSub, Nat.reduceMul, Int.reduceEq, eq_self, reduceIte, cSi]
          refine ops_call (.pureE (sameEntry_meets (apEnX q lg ws c t) (apEnX q lg ws c t)) (by simp [go_sem, Nat.reduceLT, Nat.reduceAdd, Nat.reduceEqDiff, Nat.reduceLeDiff, Nat.reduceSub, Nat.reduceMul, Int.reduceEq, eq_self, reduceIte, cE, va2, zE, cId])) ?_
          rw [show sameE (apEnX q lg ws c t) (apEnX q lg ws c t) = true by simp [sameE]]
          simp only [go_sem, Nat.reduceLT, Nat.reduceAdd, Nat.reduceEqDiff, Nat.reduceLeDiff, Nat.reduceSub, Nat.reduceMul, Int.reduceEq, eq_self, reduceIte, cSi]
          refine ops_call (.pureE (siteIs_rc q lg ws e hl hw) (by simp [go_sem, Nat.reduceLT, Nat.reduceAdd, Nat.reduceEqDiff, Nat.reduceLeDiff, Nat.reduceSub, Nat.reduceMul, Int.reduceEq, eq_self, reduceIte, cSi3, cSi, vr, vr1])) ?_
          simp only [go_sem, Nat.reduceLT, Nat.reduceAdd, Nat.reduceEqDiff, Nat.reduceLeDiff, Nat.reduceSub, Nat.reduceMul, Int.reduceEq, eq_self, reduceIte, cSi]
          refine ret_pure hx ?_
          simp [go_sem, Nat.reduceLT, Nat.reduceAdd, Nat.reduceEqDiff, Nat.reduceLeDiff, Nat.reduceSub, Nat.reduceMul, Int.reduceEq, eq_self, reduceIte, L3, R3]
        · have vr : rcErrX q lg ws e = checkEntry e := by rw [rcErrX, if_neg (by simp [h0]), if_pos h1]
          have vr1 : rcSiX q lg ws e = (0, [], []) := by rw [rcSiX, if_pos (.inr h1)]
          simp only [go_sem, Nat.reduceLT, Nat.reduceAdd, Nat.reduceEqDiff, Nat.reduceLeDiff, Nat.reduceSub, Nat.reduceMul, Int.reduceEq, eq_self, reduceIte, h1, cSi, cE, h0]
          refine ops_call (.pure siteBegun_meets) ?_
          simp only [go_sem, Nat.reduceLT, Nat.reduceAdd, Nat.reduceEqDiff, Nat.reduceLeDiff, Nat.reduceSub, Nat.reduceMul, Int.reduceEq, eq_self, reduceIte, cSi]
          refine ops_call (.pureE (siCheck_meets q lg ws (by omega) (by omega)) (by simp [go_sem, Nat.reduceLT, Nat.reduceAdd, Nat.reduceEqDiff, Nat.reduceLeDiff, Nat.reduceSub, Nat.reduceMul, Int.reduceEq, eq_self, reduceIte, cSi])) ?_
          simp only [go_sem, Nat.reduceLT, Nat.reduceAdd, Nat.reduceEqDiff, Nat.reduceLeDiff, Nat.reduceSub, Nat.reduceMul, Int.reduceEq, eq_self, reduceIte, cSi]
          refine ops_call (.pureE (checkSite_meets q lg ws (by omega) (by omega)) (by simp [go_sem, Nat.reduceLT, Nat.reduceAdd, Nat.reduceEqDiff, Nat.reduceLeDiff, Nat.reduceSub, Nat.reduceMul, Int.reduceEq, eq_self, reduceIte, cSi])) ?_
          simp only [go_sem, Nat.reduceLT, Nat.reduceAdd, Nat.reduceEqDiff, Nat.reduceLeDiff, Nat.reduceSub, Nat.reduceMul, Int.reduceEq, eq_self, reduceIte, cSi]
          refine ops_call (.pureE (siteIs_meets 0 (r, [], []) (by simp) (by simp)) (by simp [go_sem, Nat.reduceLT, Nat.reduceAdd, Nat.reduceEqDiff, Nat.reduceLeDiff, Nat.reduceSub, Nat.reduceMul, Int.reduceEq, eq_self, reduceIte, cSi3, cSi])) ?_
          simp only [go_sem, Nat.reduceLT, Nat.reduceAdd, Nat.reduceEqDiff, Nat.reduceLeDiff, Nat.reduceSub, Nat.reduceMul, Int.reduceEq, eq_self, reduceIte, cSi]
          refine ops_call (.pureE (siteIs_ap q lg ws c t hl hw) (by simp [go_sem, Nat.reduceLT, Nat.reduceAdd, Nat.reduceEqDiff, Nat.reduceLeDiff, Nat.reduceSub, Nat.reduceMul, Int.reduceEq, eq_self, reduceIte, cSi3, cSi, va, va1])) ?_
          simp only [go_sem, Nat.reduceLT, Nat.reduceAdd, Nat.reduceEqDiff, Nat.reduceLeDiff, Nat.reduceSub, Nat.reduceMul, Int.reduceEq, eq_self, reduceIte, cSi]
          refine ops_call (.pureE (sameEntry_meets (apEnX q lg ws c t) (apEnX q lg ws c t)) (by simp [go_sem, Nat.reduceLT, Nat.reduceAdd, Nat.reduceEqDiff, Nat.reduceLeDiff, Nat.reduceSub, Nat.reduceMul, Int.reduceEq, eq_self, reduceIte, cE, va2, zE, cId])) ?_
          rw [show sameE (apEnX q lg ws c t) (apEnX q lg ws c t) = true by simp [sameE]]
          simp only [go_sem, Nat.reduceLT, Nat.reduceAdd, Nat.reduceEqDiff, Nat.reduceLeDiff, Nat.reduceSub, Nat.reduceMul, Int.reduceEq, eq_self, reduceIte, cSi]
          refine ops_call (.pureE (siteIs_rc q lg ws e hl hw) (by simp [go_sem, Nat.reduceLT, Nat.reduceAdd, Nat.reduceEqDiff, Nat.reduceLeDiff, Nat.reduceSub, Nat.reduceMul, Int.reduceEq, eq_self, reduceIte, cSi3, cSi, vr, vr1])) ?_
          simp only [go_sem, Nat.reduceLT, Nat.reduceAdd, Nat.reduceEqDiff, Nat.reduceLeDiff, Nat.reduceSub, Nat.reduceMul, Int.reduceEq, eq_self, reduceIte, cSi]
          refine ret_pure hx ?_
          simp [go_sem, Nat.reduceLT, Nat.reduceAdd, Nat.reduceEqDiff, Nat.reduceLeDiff, Nat.reduceSub, Nat.reduceMul, Int.reduceEq, eq_self, reduceIte, L3, R3]
      · have va : apErrX q lg ws c t = siErr q lg ws := by rw [apErrX, if_pos h0]
        have va1 : apSiX q lg ws c t = (0, [], []) := by rw [apSiX, if_pos h0]
        have va2 : apEnX q lg ws c t = zE := by rw [apEnX, if_pos h0]
        have vr : rcErrX q lg ws e = siErr q lg ws := by rw [rcErrX, if_pos h0]
        have vr1 : rcSiX q lg ws e = (0, [], []) := by rw [rcSiX, if_pos (.inl h0)]
        simp only [go_sem, Nat.reduceLT, Nat.reduceAdd, Nat.reduceEqDiff, Nat.reduceLeDiff, Nat.reduceSub, Nat.reduceMul, Int.reduceEq, eq_self, reduceIte, h0, cSi, cE]
        refine ops_call (.pure siteBegun_meets) ?_
        simp only [go_sem, Nat.reduceLT, Nat.reduceAdd, Nat.reduceEqDiff, Nat.reduceLeDiff, Nat.reduceSub, Nat.reduceMul, Int.reduceEq, eq_self, reduceIte, cSi]
        refine ops_call (.pureE (siCheck_meets q lg ws (by omega) (by omega)) (by simp [go_sem, Nat.reduceLT, Nat.reduceAdd, Nat.reduceEqDiff, Nat.reduceLeDiff, Nat.reduceSub, Nat.reduceMul, Int.reduceEq, eq_self, reduceIte, cSi])) ?_
        simp only [go_sem, Nat.reduceLT, Nat.reduceAdd, Nat.reduceEqDiff, Nat.reduceLeDiff, Nat.reduceSub, Nat.reduceMul, Int.reduceEq, eq_self, reduceIte, cSi]
        refine ops_call (.pureE (checkSite_meets q lg ws (by omega) (by omega)) (by simp [go_sem, Nat.reduceLT, Nat.reduceAdd, Nat.reduceEqDiff, Nat.reduceLeDiff, Nat.reduceSub, Nat.reduceMul, Int.reduceEq, eq_self, reduceIte, cSi])) ?_
        simp only [go_sem, Nat.reduceLT, Nat.reduceAdd, Nat.reduceEqDiff, Nat.reduceLeDiff, Nat.reduceSub, Nat.reduceMul, Int.reduceEq, eq_self, reduceIte, cSi]
        refine ops_call (.pureE (siteIs_meets 0 (r, [], []) (by simp) (by simp)) (by simp [go_sem, Nat.reduceLT, Nat.reduceAdd, Nat.reduceEqDiff, Nat.reduceLeDiff, Nat.reduceSub, Nat.reduceMul, Int.reduceEq, eq_self, reduceIte, cSi3, cSi])) ?_
        simp only [go_sem, Nat.reduceLT, Nat.reduceAdd, Nat.reduceEqDiff, Nat.reduceLeDiff, Nat.reduceSub, Nat.reduceMul, Int.reduceEq, eq_self, reduceIte, cSi]
        refine ops_call (.pureE (siteIs_ap q lg ws c t hl hw) (by simp [go_sem, Nat.reduceLT, Nat.reduceAdd, Nat.reduceEqDiff, Nat.reduceLeDiff, Nat.reduceSub, Nat.reduceMul, Int.reduceEq, eq_self, reduceIte, cSi3, cSi, va, va1])) ?_
        simp only [go_sem, Nat.reduceLT, Nat.reduceAdd, Nat.reduceEqDiff, Nat.reduceLeDiff, Nat.reduceSub, Nat.reduceMul, Int.reduceEq, eq_self, reduceIte, cSi]
        refine ops_call (.pureE (sameEntry_meets (apEnX q lg ws c t) (apEnX q lg ws c t)) (by simp [go_sem, Nat.reduceLT, Nat.reduceAdd, Nat.reduceEqDiff, Nat.reduceLeDiff, Nat.reduceSub, Nat.reduceMul, Int.reduceEq, eq_self, reduceIte, cE, va2, zE, cId])) ?_
        rw [show sameE (apEnX q lg ws c t) (apEnX q lg ws c t) = true by simp [sameE]]
        simp only [go_sem, Nat.reduceLT, Nat.reduceAdd, Nat.reduceEqDiff, Nat.reduceLeDiff, Nat.reduceSub, Nat.reduceMul, Int.reduceEq, eq_self, reduceIte, cSi]
        refine ops_call (.pureE (siteIs_rc q lg ws e hl hw) (by simp [go_sem, Nat.reduceLT, Nat.reduceAdd, Nat.reduceEqDiff, Nat.reduceLeDiff, Nat.reduceSub, Nat.reduceMul, Int.reduceEq, eq_self, reduceIte, cSi3, cSi, vr, vr1])) ?_
        simp only [go_sem, Nat.reduceLT, Nat.reduceAdd, Nat.reduceEqDiff, Nat.reduceLeDiff, Nat.reduceSub, Nat.reduceMul, Int.reduceEq, eq_self, reduceIte, cSi]
        refine ret_pure hx ?_
        simp [go_sem, Nat.reduceLT, Nat.reduceAdd, Nat.reduceEqDiff, Nat.reduceLeDiff, Nat.reduceSub, Nat.reduceMul, Int.reduceEq, eq_self, reduceIte, L3, R3]
end Go.Proofs.Ytiandbolipoebaa
/- DagPast, DagHeads, as contracts. -/
namespace Go.Proofs.Ytiandbolipoebaa
set_option linter.unusedSimpArgs false
set_option linter.unusedVariables false
open Go.RowKit
theorem nth_mem {α : Type} [Inhabited α] {l : List α} {k : Nat} (h : k < l.length) : nth l k ∈ l := by rw [nth_eq _ _ h]; exact List.getElem_mem h
theorem past_at {l : List Entry} (h0 : checkLog l = 0) {k : Nat} (hk : k < l.length) : pastErr l (nth l k).id = 0 ∧ pastIds l (nth l k).id = pastOf l k := by
  have hok := log_ok.1 h0
  have hp : pastErr l (nth l k).id = 0 := by
    rw [pastErr, if_neg (by simp [h0]), hok.find hk, if_neg (by omega)]
  exact ⟨hp, by rw [pastIds, if_pos hp, hok.find hk, Int.toNat_natCast]⟩
theorem past_own {l : List Entry} (h : LogOk l) {k : Nat} (hk : k < l.length) : hasI (pastOf l k) (nth l k).id = false := by
  cases e : hasI (pastOf l k) (nth l k).id
  · rfl
  · obtain ⟨j, h1, h2⟩ := pastOf_lt h k hk _ (hasI_iff.1 e)
    have := h.inj (by omega) hk h2
    omega
theorem past_in {l : List Entry} (h0 : checkLog l = 0) {i : Nat} (hi : i < l.length) {y : Id} (hy : y ∈ pastOf l i) : ∃ j, j < i ∧ (nth l j).id = y ∧ pastErr l y = 0 ∧ pastIds l y = pastOf l j ∧ 0 ≤ findE (l.take i) y := by
  have hok := log_ok.1 h0
  obtain ⟨j, h1, rfl⟩ := pastOf_lt hok i hi y hy
  obtain ⟨h2, h3⟩ := past_at h0 (show j < l.length by omega)
  refine ⟨j, h1, rfl, h2, h3, ?_⟩
  have : ¬ findE (l.take i) (nth l j).id < 0 := fun hn => findE_neg.1 hn (nth l j) (by rw [List.mem_take_iff_getElem]; exact ⟨j, by omega, by rw [nth_eq _ _ (by omega)]⟩) rfl
  omega
end Go.Proofs.Ytiandbolipoebaa
/- DagParts, as a contract. -/
namespace Go.Proofs.Ytiandbolipoebaa
set_option linter.unusedSimpArgs false
set_option linter.unusedVariables false
open Go.RowKit
theorem nth_take {α : Type} [Inhabited α] {l : List α} {n i : Nat} (hi : i < n) (hn : n ≤ l.length) : nth (l.take n) i = nth l i := by
  rw [nth_eq _ _ (by rw [List.length_take]; omega), nth_eq _ _ (by omega), List.getElem_take]
theorem LogOk.take {l : List Entry} (h : LogOk l) {n : Nat} (hn : n ≤ l.length) : LogOk (l.take n) where
  len := by rw [List.length_take]; have := h.len; omega
  chk := fun k hk => by
    rw [List.length_take] at hk
    rw [nth_take (by omega) hn]; exact h.chk k (by omega)
  new := fun k hk => by
    rw [List.length_take] at hk
    rw [nth_take (by omega) hn, List.take_take, Nat.min_eq_left (by omega)]; exact h.new k (by omega)
  num := fun k hk => by
    rw [List.length_take] at hk
    rw [nth_take (by omega) hn, List.take_take, Nat.min_eq_left (by omega)]; exact h.num k (by omega)
  lnk := fun k hk => by
    rw [List.length_take] at hk
    rw [nth_take (by omega) hn, List.take_take, Nat.min_eq_left (by omega)]; exact h.lnk k (by omega)
theorem pastOf_take {l : List Entry} (h : LogOk l) {n : Nat} (hn : n ≤ l.length) : ∀ i, i < n → pastOf (l.take n) i = pastOf l i := by
  intro i
  induction i using Nat.strongRecOn with
  | _ i ih =>
    intro hi
    have hT := h.take hn
    have hil : i < (l.take n).length := by rw [List.length_take]; omega
    refine asc_ext (pastOf_asc hT hil) (pastOf_asc h (by omega)) fun y => ?_
    rw [mem_pastOf hT hil, mem_pastOf h (by omega), nth_take hi hn]
    have key : ∀ x ∈ (nth l i).ls, findE (l.take n) x = findE l x ∧ pastOf (l.take n) (findE (l.take n) x).toNat = pastOf l (findE l x).toNat := fun x hx => by
      obtain ⟨f1, f2⟩ := hT.link_lt hil (x := x) (by rw [nth_take hi hn]; exact hx)
      have e := (findE_take (l := l) (k := n) f1).1
      exact ⟨e.symm, by rw [e]; exact ih _ (by omega) (by omega)⟩
    constructor
    · rintro ⟨x, hx, he⟩
      exact ⟨x, hx, by rw [(key x hx).2] at he; exact he⟩
    · rintro ⟨x, hx, he⟩
      exact ⟨x, hx, by rw [(key x hx).2]; exact he⟩
theorem cntR_sum : ∀ {l : List Entry}, okReg l → cntR l 0 + cntR l 1 = l.length
  | [], _ => rfl
  | e :: l, h => by
    have ih := cntR_sum (l := l) fun x hx => h x (by simp [hx])
    have he := h e (by simp)
    simp only [cntR, List.countP_cons, List.length_cons, decide_eq_true_eq] at ih ⊢
    rcases he with he | he <;> simp [he] <;> omega
theorem cntR_mono {l : List Entry} {i n : Nat} (h : i ≤ n) (r : Int) : cntR (l.take i) r ≤ cntR (l.take n) r :=
  List.Sublist.countP_le (List.take_sublist_take_left h)
end Go.Proofs.Ytiandbolipoebaa
/- Sites: what is appended and what settles leaves a right log (plain). -/
namespace Go.Proofs.Ytiandbolipoebaa
open Go.RowKit
theorem nth_app {l : List Entry} {e : Entry} {k : Nat} (h : k < l.length) : nth (l ++ [e]) k = nth l k := by
  rw [nth_eq _ _ (by simp; omega), nth_eq _ _ h, List.getElem_append_left h]
theorem nth_app_end (l : List Entry) (e : Entry) : nth (l ++ [e]) l.length = e := by
  rw [nth_eq _ _ (by simp)]; simp
theorem take_app {l : List Entry} {e : Entry} {k : Nat} (h : k ≤ l.length) : (l ++ [e]).take k = l.take k := by
  rw [List.take_append_of_le_length h]
/-- a right log has 20 of a region at most -/
theorem LogOk.cnt {l : List Entry} (h : LogOk l) (r : Int) : cntR l r ≤ 20 := by
  have key : ∀ k, k ≤ l.length → cntR (l.take k) r ≤ 20 := by
    intro k
    induction k with
    | zero => intro _; simp [cntR]
    | succ k ih =>
      intro hk
      rw [cntR_take l k r (by omega)]
      by_cases e : (nth l k).id.r = r
      · rw [if_pos e]
        have h1 := h.num k (by omega)
        have h2 := h.id_ok (k := k) (by omega)
        simp only [okId, Bool.and_eq_true, wthn_iff] at h2
        rw [e] at h1
        omega
      · rw [if_neg e]
        have := ih (by omega)
        omega
  have := key l.length (Nat.le_refl _)
  rwa [List.take_length] at this
/-- the number of an entry that stands there -/
theorem LogOk.num_le {l : List Entry} (h : LogOk l) {k : Nat} (hk : k < l.length) : (nth l k).id.n ≤ (cntR l (nth l k).id.r : Int) := by
  have h1 := h.num k hk
  have h2 := cntR_take l k (nth l k).id.r hk
  rw [if_pos rfl] at h2
  have h3 := cntR_mono (l := l) (i := k + 1) (n := l.length) (by omega) (nth l k).id.r
  rw [List.take_length] at h3
  omega
theorem ready_iff {l : List Entry} {e : Entry} : readyB l e = true ↔ (cntR l e.id.r : Int) + 1 = e.id.n ∧ ∀ x ∈ e.ls, 0 ≤ findE l x := by
  simp only [readyB, Bool.and_eq_true, decide_eq_true_eq, Bool.not_eq_true', List.any_eq_false]
  exact ⟨fun ⟨a, b⟩ => ⟨a, fun x hx => by have := b x hx; omega⟩, fun ⟨a, b⟩ => ⟨a, fun x hx => by have := b x hx; omega⟩⟩
theorem LogOk.app_new {l : List Entry} {e : Entry} (h : LogOk l) (hr : (cntR l e.id.r : Int) + 1 = e.id.n) : findE l e.id < 0 := by
  rw [findE_neg]
  intro y hy he
  obtain ⟨k, hk, rfl⟩ := List.getElem_of_mem hy
  rw [← nth_eq _ _ hk] at he
  have := h.num_le hk
  rw [he] at this
  omega
theorem LogOk.app {l : List Entry} {e : Entry} (h : LogOk l) (hc : checkEntry e = 0) (hr : readyB l e = true) : LogOk (l ++ [e]) := by
  obtain ⟨hn, hl⟩ := ready_iff.1 hr
  have hnew := h.app_new hn
  have h1 : ∀ k, k < l.length + 1 → (k < l.length ∧ nth (l ++ [e]) k = nth l k ∧ (l ++ [e]).take k = l.take k) ∨ (nth (l ++ [e]) k = e ∧ (l ++ [e]).take k = l) := by
    intro k hk
    by_cases hlt : k < l.length
    · exact .inl ⟨hlt, nth_app hlt, take_app (by omega)⟩
    · obtain rfl : k = l.length := by omega
      exact .inr ⟨nth_app_end l e, by rw [take_app (Nat.le_refl _), List.take_length]⟩
  have hb := (check_ok_bounds hc).1
  simp only [okId, Bool.and_eq_true, wthn_iff] at hb
  have hlen : l.length + 1 ≤ 40 := by
    have s := cntR_sum h.reg
    have c0 := h.cnt 0
    have c1 := h.cnt 1
    have hr2 : e.id.r = 0 ∨ e.id.r = 1 := by omega
    rcases hr2 with q | q
    all_goals
      rw [q] at hn
      omega
  refine ⟨by simp; omega, fun k hk => ?_, fun k hk => ?_, fun k hk => ?_, fun k hk => ?_⟩
  all_goals
    rw [List.length_append, List.length_singleton] at hk
    rcases h1 k hk with ⟨a, b, c⟩ | ⟨b, c⟩
  · rw [b]; exact h.chk k a
  · rw [b]; exact hc
  · rw [b, c]; exact h.new k a
  · rw [b, c]; exact hnew
  · rw [b, c]; exact h.num k a
  · rw [b, c]; exact hn
  · rw [b, c]; exact h.lnk k a
  · rw [b, c]; exact hl
theorem rdyI_ready {lg ws : List Entry} (h : 0 ≤ rdyI lg ws) : readyB lg (nth ws (rdyI lg ws).toNat) = true := by
  obtain ⟨k, h1, h2, h3⟩ := idxF_spec (readyB lg) ws 0 h
  have : (rdyI lg ws).toNat = k := by unfold rdyI; rw [h1]; simp
  rw [this]; exact h3
/-- what settles leaves a right log that begins as it began -/
theorem settleN_ok : ∀ (k : Nat) (lg ws : List Entry), LogOk lg → (∀ e ∈ ws, checkEntry e = 0) → LogOk (settleN k lg ws).1 ∧ (∀ e ∈ (settleN k lg ws).2, e ∈ ws) ∧ ∃ t, (settleN k lg ws).1 = lg ++ t ∧ ∀ e ∈ t, e ∈ ws
  | 0, lg, ws, h, _ => ⟨h, fun e he => he, [], by simp [settleN], by simp⟩
  | k + 1, lg, ws, h, hc => by
    rw [settleN]
    split
    · rename_i hr
      have hm := nthM (rdyI_lt hr)
      obtain ⟨a, b, t, c, d⟩ := settleN_ok k (lg ++ [nth ws (rdyI lg ws).toNat]) (ws.eraseIdx (rdyI lg ws).toNat) (h.app (hc _ hm) (rdyI_ready hr)) (fun e he => hc e (List.mem_of_mem_eraseIdx he))
      refine ⟨a, fun e he => List.mem_of_mem_eraseIdx (b e he), nth ws (rdyI lg ws).toNat :: t, by rw [c]; simp, fun e he => ?_⟩
      rcases List.mem_cons.1 he with q | q
      · rw [q]; exact hm
      · exact List.mem_of_mem_eraseIdx (d e q)
    · exact ⟨h, fun e he => he, [], by simp, by simp⟩
theorem settled_ok {lg ws : List Entry} (h : LogOk lg) (hc : ∀ e ∈ ws, checkEntry e = 0) : LogOk (settled lg ws).1 ∧ (∀ e ∈ (settled lg ws).2, e ∈ ws) ∧ ∃ t, (settled lg ws).1 = lg ++ t ∧ ∀ e ∈ t, e ∈ ws := settleN_ok _ _ _ h hc
theorem heads_in {lg : List Entry} (h : LogOk lg) {c : Int} {x : Id} (hx : x ∈ sortI (headsC lg c)) : ∃ k, k < lg.length ∧ (nth lg k).id = x ∧ meetB (nth lg k).c c = true := by
  obtain ⟨k, a, b, d, -⟩ := (mem_headsC h).1 (sortI_mem.1 hx)
  exact ⟨k, a, b, d⟩
/-- what is appended is right and ready -/
theorem apE_ok {r : Int} {lg : List Entry} {c : Int} {t : ByteArray} (hr : r = 0 ∨ r = 1) (h : LogOk lg) (he : apErr r lg c t = 0) : checkEntry (apE r lg c t) = 0 ∧ readyB lg (apE r lg c t) = true := by
  unfold apErr at he
  split at he
  · cases he
  · rename_i hc
    split at he
    · cases he
    · rename_i hq
      have hq1 : ¬ 12 < t.size := by omega
      have hq2 : ¬ (20 : Int) < (cntR lg r : Int) + 1 := by omega
      have hq3 : ¬ 6 < (sortI (headsC lg c)).length := by omega
      have hid : okId (apE r lg c t).id = true := by
        simp only [apE, okId, Bool.and_eq_true, wthn_iff]; omega
      have hasc : Asc (sortI (headsC lg c)) := sortI_asc (headsC_nodup h c)
      have hin : ∀ j, j < (sortI (headsC lg c)).length → ∃ k, k < lg.length ∧ (nth lg k).id = nth (sortI (headsC lg c)) j := fun j hj => by
        obtain ⟨k, a, b, -⟩ := heads_in h (nth_mem hj)
        exact ⟨k, a, b⟩
      refine ⟨?_, ready_iff.2 ⟨rfl, fun x hx => ?_⟩⟩
      · rw [checkEntry, if_neg (by simp [hid]), if_neg (by simpa [apE] using hc), if_neg (by simpa [apE] using hq1), if_neg (by simpa [apE] using hq3), firstNZ_zero]
        intro j hj
        have hj' : j < (sortI (headsC lg c)).length := hj
        obtain ⟨k, hk, hke⟩ := hin j hj'
        show linkErr (apE r lg c t).id (sortI (headsC lg c)) j = 0
        rw [linkErr, ← hke, if_neg (by simp [h.id_ok hk]), hke, if_neg, if_neg]
        · rintro ⟨a, b⟩
          have := h.num_le hk
          rw [hke] at this
          simp only [apE] at a b
          rw [a] at this
          omega
        · intro q
          simp only [Bool.and_eq_true, decide_eq_true_eq, Bool.not_eq_true'] at q
          obtain ⟨q1, q2⟩ := q
          have := (List.pairwise_iff_getElem.1 hasc) (j - 1) j (by omega) hj' (by omega)
          rw [← nth_eq, ← nth_eq, q2] at this
          cases this
      · obtain ⟨k, hk, hke, -⟩ := heads_in h hx
        rw [← hke, h.find hk]; omega
theorem apE_log {r : Int} {lg : List Entry} {c : Int} {t : ByteArray} (hr : r = 0 ∨ r = 1) (h : LogOk lg) (he : apErr r lg c t = 0) : LogOk (lg ++ [apE r lg c t]) := by
  obtain ⟨a, b⟩ := apE_ok hr h he
  exact h.app a b
end Go.Proofs.Ytiandbolipoebaa
/- DagHeads, as a contract. -/
namespace Go.Proofs.Ytiandbolipoebaa
set_option linter.unusedSimpArgs false
set_option linter.unusedVariables false
open Go.RowKit
/-- what has a color is a head, or in the past of one -/
theorem head_over {l : List Entry} (h : LogOk l) {c : Int} : ∀ (d k : Nat), k + d = l.length → k < l.length → meetB (nth l k).c c = true → (nth l k).id ∈ headsC l c ∨ ∃ j, j < l.length ∧ (nth l j).id ∈ headsC l c ∧ (nth l k).id ∈ pastOf l j := by
  intro d
  induction d using Nat.strongRecOn with
  | _ d ih =>
    intro k hk hlt hm
    by_cases hu : ∀ i, i < l.length → meetB (nth l i).c c = true → (nth l k).id ∉ pastOf l i
    · exact .inl ((mem_headsC h).2 ⟨k, hlt, rfl, hm, hu⟩)
    · obtain ⟨i, h1, h2, h3⟩ : ∃ i, i < l.length ∧ meetB (nth l i).c c = true ∧ (nth l k).id ∈ pastOf l i := by
        apply Classical.byContradiction
        intro hn
        exact hu fun i h1 h2 h3 => hn ⟨i, h1, h2, h3⟩
      obtain ⟨j, j1, j2⟩ := pastOf_lt h i h1 _ h3
      obtain rfl := h.inj (by omega) hlt j2
      refine .inr ?_
      rcases ih (l.length - i) (by omega) i (by omega) h1 h2 with h4 | ⟨m, m1, m2, m3⟩
      · exact ⟨i, h1, h4, h3⟩
      · exact ⟨m, m1, m2, pastOf_trans h h1 m m1 m3 _ h3⟩
/-- what stands under the first of some ids -/
def unB (l : List Entry) (hs : List Id) (j : Nat) (y : Id) : Bool := (hs.take j).any fun x => hasI (pastOf l (findE l x).toNat) y
def unL (l : List Entry) (hs : List Id) (j : Nat) : List Bool := l.map fun e => unB l hs j e.id
theorem unB_succ {l : List Entry} {hs : List Id} {j : Nat} {y : Id} (h : j < hs.length) : unB l hs (j + 1) y = (unB l hs j y || hasI (pastOf l (findE l (nth hs j)).toNat) y) := by
  unfold unB
  rw [List.take_succ_eq_append_getElem h, List.any_append, nth_eq _ _ h]
  simp
theorem unL_nth {l : List Entry} {hs : List Id} {j k : Nat} (h : k < l.length) : nth (unL l hs j) k = unB l hs j (nth l k).id := by
  unfold unL
  rw [nth_eq _ _ (by simpa using h)]
  simp [nth_eq _ _ h]
theorem unL_length (l : List Entry) (hs : List Id) (j : Nat) : (unL l hs j).length = l.length := by simp [unL]
end Go.Proofs.Ytiandbolipoebaa
