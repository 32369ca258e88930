/- Joined texts of this claim: T1 T2 T3 T4 T5 T6 T7 E7 L7 L22 L8 L10 T8 L9 L23 F19 F18 T9 L24 F21 Open Op1 Op2 Op4 Op7 Card. -/
import Derived.Test.YtfdolehffjmdmaaGreatDoorKD
import Derived.Test.YtfdolehffjmdmaaGreatDoorKC
import Derived.Test.YtfdolehffjmdmaaGreatDoorKB
import Derived.Test.YtfdolehffjmdmaaGreatDoorProg
import Derived.ProofKit
import Derived.OpenShut
import Derived.Carry
import Derived.SizedLaws
import Derived.LaidMore
import Derived.Lay
import Derived.SevenTiedAt
import Derived.Stop.Joined
import Derived.JoinedCond
set_option linter.unusedSimpArgs false
set_option linter.unusedVariables false
set_option linter.unusedSectionVars false
/- Sites: copies of one's own, those that wait and are ready: contracts. -/
namespace Go.Proofs.YtfdolehffjmdmaaGreatDoor
set_option linter.unusedSimpArgs false
set_option linter.unusedVariables false
open Go.RowKit
def cSi (r : Int) (lg ws : List Entry) : List PV := [.int .i64 r, .list (lg.map cE), .list (ws.map cE)]
def fitE (l : List Entry) : Prop := ∀ e ∈ l, (e.id.r = 0 ∨ e.id.r = 1) ∧ e.ls.length ≤ 1000000
theorem fit_reg {l : List Entry} (h : fitE l) : okReg l := fun e he => (h e he).1
theorem insIdx_mapE {α β : Type} (f : α → β) (w : α) : ∀ (ws : List α) (i : Nat), (ws.map f).insertIdx i (f w) = (ws.insertIdx i w).map f
  | [], 0 => rfl
  | [], _ + 1 => rfl
  | _ :: _, 0 => rfl
  | y :: ws, i + 1 => by
    simp only [List.map_cons, List.insertIdx_succ_cons]
    rw [insIdx_mapE f w ws i]
theorem eraseIdx_mapE {α β : Type} (f : α → β) : ∀ (ws : List α) (i : Nat), (ws.map f).eraseIdx i = (ws.eraseIdx i).map f
  | [], _ => rfl
  | _ :: _, 0 => rfl
  | y :: ws, i + 1 => by
    simp only [List.map_cons, List.eraseIdx_cons_succ]
    rw [eraseIdx_mapE f ws i]
theorem entOwn_meets (e : Entry) (hb : e.ls.length ≤ 1000000) : Meets Tryz.prog 113 [.agg (cE e)] [] (.agg (cE e)) [] := by
  refine Meets.of_walk Tryz.func113 Tryz.ntmps113 low113 res113 (by simp) fun x hx => ?_
  simp only [go_sem, Nat.reduceLT, Nat.reduceAdd, Nat.reduceEqDiff, Nat.reduceLeDiff, Nat.reduceSub, Nat.reduceMul, Int.reduceEq, eq_self, reduceIte, L113, R113, cE]
  refine ops_call (.pureE (cloneI_meets e.ls (by omega)) (by simp [go_sem, Nat.reduceLT, Nat.reduceAdd, Nat.reduceEqDiff, Nat.reduceLeDiff, Nat.reduceSub, Nat.reduceMul, Int.reduceEq, eq_self, reduceIte])) ?_
  simp only [go_sem, Nat.reduceLT, Nat.reduceAdd, Nat.reduceEqDiff, Nat.reduceLeDiff, Nat.reduceSub, Nat.reduceMul, Int.reduceEq, eq_self, reduceIte, cE]
  refine ret_pure hx ?_
  simp [go_sem, Nat.reduceLT, Nat.reduceAdd, Nat.reduceEqDiff, Nat.reduceLeDiff, Nat.reduceSub, Nat.reduceMul, Int.reduceEq, eq_self, reduceIte, L113, R113, cE]
theorem siEntries_meets (l : List Entry) (hl : l.length ≤ 1000000) (hf : fitE l) : Meets Tryz.prog 145 [.list (l.map cE)] [] (.arr 0 l.length) [.arr l.length true false 46 5 (l.map cE)] := by
  refine Meets.of_walk Tryz.func145 Tryz.ntmps145 low145 res145 (by simp) fun x hx => ?_
  simp only [go_sem, Nat.reduceLT, Nat.reduceAdd, Nat.reduceEqDiff, Nat.reduceLeDiff, Nat.reduceSub, Nat.reduceMul, Int.reduceEq, eq_self, reduceIte, L145, R145]
  refine W_weak (weak_own 3 0 46 5 true false rfl (by omega)) ?_
  rw [put_mk]
  refine loop_inv [3, 6, 7, 8] 1 (fun m st => ∃ k : Nat, k + m = l.length ∧
    st = ⟨mkE .top [(3, .arr 0 k), (6, .list (l.map cE)), (7, .int .i64 l.length), (8, .int .i64 k)], [.arr k true false 46 5 ((l.take k).map cE)]⟩) l.length (by simp [hx]) (by simp) ?_ ?_
  · refine ⟨0, by omega, ?_⟩
    simp [trim_mk, go_sem, Nat.reduceLT, Nat.reduceAdd, Nat.reduceEqDiff, Nat.reduceLeDiff, Nat.reduceSub, Nat.reduceMul, Int.reduceEq, eq_self, reduceIte, subHeap, renObj, pos, List.range_succ]
  · rintro m st ⟨k, hk, rfl⟩
    by_cases hlt : k < l.length
    · have hg : l[k]? = some (nth l k) := nth_get? _ _ hlt
      have wk := i64_up (k := k) (by omega)
      simp only [go_sem, Nat.reduceLT, Nat.reduceAdd, Nat.reduceEqDiff, Nat.reduceLeDiff, Nat.reduceSub, Nat.reduceMul, Int.reduceEq, eq_self, reduceIte, hlt, hg, cE]
      refine ops_call (.pureE (entOwn_meets (nth l k) (hf _ (nthM hlt)).2) (by simp [go_sem, Nat.reduceLT, Nat.reduceAdd, Nat.reduceEqDiff, Nat.reduceLeDiff, Nat.reduceSub, Nat.reduceMul, Int.reduceEq, eq_self, reduceIte, cE])) ?_
      simp only [go_sem, Nat.reduceLT, Nat.reduceAdd, Nat.reduceEqDiff, Nat.reduceLeDiff, Nat.reduceSub, Nat.reduceMul, Int.reduceEq, eq_self, reduceIte, cE]
      rw [app_arr rfl rfl (by simp) (by simp; omega)]
      simp only [go_sem, Nat.reduceLT, Nat.reduceAdd, Nat.reduceEqDiff, Nat.reduceLeDiff, Nat.reduceSub, Nat.reduceMul, Int.reduceEq, eq_self, reduceIte, wk]
      have htk : l.take (k + 1) = l.take k ++ [nth l k] := by rw [List.take_succ_eq_append_getElem hlt, nth_eq _ _ hlt]
      refine ⟨by simp, m - 1, by omega, k + 1, by omega, ?_⟩
      simp [trim_mk, go_sem, Nat.reduceLT, Nat.reduceAdd, Nat.reduceEqDiff, Nat.reduceLeDiff, Nat.reduceSub, Nat.reduceMul, Int.reduceEq, eq_self, reduceIte, subHeap, renObj, pos, List.range_succ, htk, cE]
    · obtain rfl : k = l.length := by omega
      rw [List.take_length]
      simp only [go_sem, Nat.reduceLT, Nat.reduceAdd, Nat.reduceEqDiff, Nat.reduceLeDiff, Nat.reduceSub, Nat.reduceMul, Int.reduceEq, eq_self, reduceIte, hlt]
      refine ret_keep [0] (by simp) (by simp [hx]) (by simp [hx]) ?_ ?_
      · simp [go_sem, Nat.reduceLT, Nat.reduceAdd, Nat.reduceEqDiff, Nat.reduceLeDiff, Nat.reduceSub, Nat.reduceMul, Int.reduceEq, eq_self, reduceIte, L145, R145, hx, pos]
      · simp [subHeap, renObj, hx, pos]
theorem siOwn_meets (r : Int) (lg ws : List Entry) (h1 : lg.length ≤ 1000000) (h2 : ws.length ≤ 1000000) (hf1 : fitE lg) (hf2 : fitE ws) : Meets Tryz.prog 111 [.agg (cSi r lg ws)] [] (.agg [.int .i64 r, .arr 0 lg.length, .arr 1 ws.length])
    [.arr lg.length true false 46 5 (lg.map cE), .arr ws.length true false 46 5 (ws.map cE)] := by
  refine Meets.of_walk Tryz.func111 Tryz.ntmps111 low111 res111 (by simp) fun x hx => ?_
  simp only [go_sem, Nat.reduceLT, Nat.reduceAdd, Nat.reduceEqDiff, Nat.reduceLeDiff, Nat.reduceSub, Nat.reduceMul, Int.reduceEq, eq_self, reduceIte, L111, R111, cSi]
  refine ops_call2 (r := .arr 2 lg.length) (siEntries_meets lg h1 hf1) rfl rfl (by simp [go_sem, Nat.reduceLT, Nat.reduceAdd, Nat.reduceEqDiff, Nat.reduceLeDiff, Nat.reduceSub, Nat.reduceMul, Int.reduceEq, eq_self, reduceIte]) rfl ?_
  simp only [go_sem, Nat.reduceLT, Nat.reduceAdd, Nat.reduceEqDiff, Nat.reduceLeDiff, Nat.reduceSub, Nat.reduceMul, Int.reduceEq, eq_self, reduceIte, cSi]
  refine ops_call2 (r := .arr 3 ws.length) (siEntries_meets ws h2 hf2) rfl rfl (by simp [go_sem, Nat.reduceLT, Nat.reduceAdd, Nat.reduceEqDiff, Nat.reduceLeDiff, Nat.reduceSub, Nat.reduceMul, Int.reduceEq, eq_self, reduceIte]) rfl ?_
  simp only [go_sem, Nat.reduceLT, Nat.reduceAdd, Nat.reduceEqDiff, Nat.reduceLeDiff, Nat.reduceSub, Nat.reduceMul, Int.reduceEq, eq_self, reduceIte, cSi]
  repeat refine ⟨rfl, ?_⟩
  refine ret_keep [2, 3] (by simp) (by simp [hx]) (by simp [hx]) ?_ ?_
  · simp [go_sem, Nat.reduceLT, Nat.reduceAdd, Nat.reduceEqDiff, Nat.reduceLeDiff, Nat.reduceSub, Nat.reduceMul, Int.reduceEq, eq_self, reduceIte, L111, R111, hx, pos]
  · simp [subHeap, renObj, hx, pos, go_sem, Nat.reduceLT, Nat.reduceAdd, Nat.reduceEqDiff, Nat.reduceLeDiff, Nat.reduceSub, Nat.reduceMul, Int.reduceEq, eq_self, reduceIte]
def hSi (a b : Nat) (r : Int) (lg ws : List Entry) : List AObj := [.box [.int .i64 r, .arr 1 a, .arr 2 b], .arr a true false 46 5 (lg.map cE), .arr b true false 46 5 (ws.map cE)]
def rdyI (lg ws : List Entry) : Int := idxF (readyB lg) ws 0
def settleN : Nat → List Entry → List Entry → List Entry × List Entry
  | 0, lg, ws => (lg, ws)
  | k + 1, lg, ws => if 0 ≤ rdyI lg ws then settleN k (lg ++ [nth ws (rdyI lg ws).toNat]) (ws.eraseIdx (rdyI lg ws).toNat) else (lg, ws)
def settled (lg ws : List Entry) : List Entry × List Entry := settleN ws.length lg ws
theorem rdyI_lt {lg ws : List Entry} (h : 0 ≤ rdyI lg ws) : (rdyI lg ws).toNat < ws.length := by
  have h2 : ∀ (l : List Entry) (k : Nat), (k : Int) ≤ idxF (readyB lg) l k → idxF (readyB lg) l k < (k + l.length : Nat) := by
    intro l
    induction l with
    | nil => intro k hk; simp [idxF] at hk; omega
    | cons e l ih =>
      intro k hk
      rw [idxF] at hk ⊢
      split
      · simp; omega
      · rename_i h0
        rw [if_neg h0] at hk
        rcases idxF_ge (readyB lg) l (k + 1) with ⟨a, -⟩ | ⟨a, -⟩
        · rw [a] at hk; omega
        · have := ih (k + 1) a
          simp only [List.length_cons]
          omega
  have := h2 ws 0 (by simpa [rdyI] using h)
  simp only [Nat.zero_add] at this
  unfold rdyI at h ⊢
  omega
theorem settled_step {lg ws : List Entry} (h : 0 ≤ rdyI lg ws) : settled lg ws = settled (lg ++ [nth ws (rdyI lg ws).toNat]) (ws.eraseIdx (rdyI lg ws).toNat) := by
  have hl := rdyI_lt h
  unfold settled
  rw [List.length_eraseIdx, if_pos hl]
  obtain ⟨m, hm⟩ : ∃ m, ws.length = m + 1 := ⟨ws.length - 1, by omega⟩
  rw [hm, settleN, if_pos h, Nat.add_sub_cancel]
theorem settled_end {lg ws : List Entry} (h : ¬ 0 ≤ rdyI lg ws) : settled lg ws = (lg, ws) := by
  unfold settled
  cases hl : ws.length with
  | zero => rfl
  | succ m => rw [settleN, if_neg h]
theorem settleN_sum : ∀ (k : Nat) (lg ws : List Entry), (settleN k lg ws).1.length + (settleN k lg ws).2.length = lg.length + ws.length ∧ (settleN k lg ws).2.length ≤ ws.length
  | 0, lg, ws => ⟨rfl, Nat.le_refl _⟩
  | k + 1, lg, ws => by
    rw [settleN]
    split
    · rename_i h
      have hl := rdyI_lt h
      obtain ⟨a, b⟩ := settleN_sum k (lg ++ [nth ws (rdyI lg ws).toNat]) (ws.eraseIdx (rdyI lg ws).toNat)
      rw [List.length_eraseIdx, if_pos hl] at a b
      simp only [List.length_append, List.length_cons, List.length_nil] at a
      omega
    · exact ⟨rfl, Nat.le_refl _⟩
theorem settled_sum (lg ws : List Entry) : (settled lg ws).1.length + (settled lg ws).2.length = lg.length + ws.length ∧ (settled lg ws).2.length ≤ ws.length := settleN_sum _ _ _
theorem fit_app {lg : List Entry} {e : Entry} (h : fitE lg) (he : (e.id.r = 0 ∨ e.id.r = 1) ∧ e.ls.length ≤ 1000000) : fitE (lg ++ [e]) := fun x hx => by
  rcases List.mem_append.1 hx with h1 | h1
  · exact h x h1
  · simp at h1; subst h1; exact he
theorem fit_erase {ws : List Entry} (h : fitE ws) (i : Nat) : fitE (ws.eraseIdx i) := fun x hx => h x (List.mem_of_mem_eraseIdx hx)
theorem end_keep {x : Cx} {nt : Nat} {lrs : List LRes} {r : PV} {Hs' : List AObj} {st : St} (keep : List Nat) (hnd : keep.Nodup) (hlt : ∀ k ∈ keep, x.H0.length ≤ k ∧ k < st.heap.length) (hle : x.H0.length ≤ st.heap.length)
    (h : (evalRes st lrs).map (fun ps => renT true (pos (List.range x.H0.length ++ keep)) (frzAt true st.heap) (tupOf ps)) = some r)
    (h2 : subHeap (pos (List.range x.H0.length ++ keep)) (frzAt true st.heap) st.heap (List.range x.H0.length ++ keep) = Hs') : retQ x nt lrs r Hs' .normal st := by
  obtain ⟨ps, g1, g2⟩ := Option.map_eq_some_iff.1 h
  exact ⟨st, keep, Weak.refl _ _ _, ps, g1, hnd, hlt, hle, g2.symm, h2.symm⟩
theorem settle1_meets (r : Int) (lg ws : List Entry) (e : Entry) (hl : lg.length ≤ 1000000) (hf : fitE lg) (he : e.id.r = 0 ∨ e.id.r = 1) (hls : e.ls.length ≤ 1000000) : Meets Tryz.prog 146 [.agg (cE e), .rptr [.rptr (cSi r lg ws)]] [] (.bool (readyB lg e)) [] := by
  refine Meets.of_walk Tryz.func146 Tryz.ntmps146 low146 res146 (by simp) fun x hx => ?_
  simp only [go_sem, Nat.reduceLT, Nat.reduceAdd, Nat.reduceEqDiff, Nat.reduceLeDiff, Nat.reduceSub, Nat.reduceMul, Int.reduceEq, eq_self, reduceIte, L146, R146, cE, cSi]
  refine ops_call (.pureE (ready_meets lg e (fit_reg hf) (by omega) he (by omega)) (by simp [go_sem, Nat.reduceLT, Nat.reduceAdd, Nat.reduceEqDiff, Nat.reduceLeDiff, Nat.reduceSub, Nat.reduceMul, Int.reduceEq, eq_self, reduceIte, cE])) ?_
  simp only [go_sem, Nat.reduceLT, Nat.reduceAdd, Nat.reduceEqDiff, Nat.reduceLeDiff, Nat.reduceSub, Nat.reduceMul, Int.reduceEq, eq_self, reduceIte]
  repeat refine ⟨rfl, ?_⟩
  refine end_pure hx ?_
  simp [go_sem, Nat.reduceLT, Nat.reduceAdd, Nat.reduceEqDiff, Nat.reduceLeDiff, Nat.reduceSub, Nat.reduceMul, Int.reduceEq, eq_self, reduceIte, L146, R146]
theorem rdyI_meets (r : Int) (lg ws : List Entry) (hl : lg.length ≤ 1000000) (hw : ws.length ≤ 1000000) (hf : fitE lg) (hf2 : fitE ws) :
    Meets Tryz.prog 105 [.list (ws.map cE), .clo 146 [.rptr [.rptr (cSi r lg ws)]]] [] (.int .i64 (rdyI lg ws)) [] :=
  indexE_meets ws 146 [.rptr [.rptr (cSi r lg ws)]] [] (readyB lg) (by kernel_rfl) (by omega) ⟨by simp [renLeaf], by simp [ren, renCell, renLeaf], by simp [subHeap], by simp [merge], by simp [subHeap]⟩
    fun e he => settle1_meets r lg ws e hl hf (hf2 e he).1 (hf2 e he).2
set_option maxHeartbeats 2000000 in
theorem settle_meets (a b : Nat) (r : Int) (lg ws : List Entry) (h1 : lg.length + ws.length ≤ 1000000) (hf1 : fitE lg) (hf2 : fitE ws) :
    Meets Tryz.prog 112 [.ptr 0 0] (hSi a b r lg ws) (.tup []) (hSi (a + (ws.length - (settled lg ws).2.length)) (b + (ws.length - (settled lg ws).2.length)) r (settled lg ws).1 (settled lg ws).2) := by
  refine Meets.of_walk Tryz.func112 Tryz.ntmps112 low112 res112 (by simp) fun x hx => ?_
  simp only [go_sem, Nat.reduceLT, Nat.reduceAdd, Nat.reduceEqDiff, Nat.reduceLeDiff, Nat.reduceSub, Nat.reduceMul, Int.reduceEq, eq_self, reduceIte, L112, R112, hSi]
  refine ops_call (.lookE (rdyI_meets r lg ws (by omega) (by omega) hf1 hf2) rfl (by simp [lookF, lookN, go_sem, Nat.reduceLT, Nat.reduceAdd, Nat.reduceEqDiff, Nat.reduceLeDiff, Nat.reduceSub, Nat.reduceMul, Int.reduceEq, eq_self, reduceIte, frzAt, pos, cSi])) ?_
  simp only [go_sem, Nat.reduceLT, Nat.reduceAdd, Nat.reduceEqDiff, Nat.reduceLeDiff, Nat.reduceSub, Nat.reduceMul, Int.reduceEq, eq_self, reduceIte]
  refine loop_inv [1, 2, 3] 4 (fun m st => ∃ (k : Nat) (us vs : List Entry), vs.length = m ∧ m + k = ws.length ∧ us.length = lg.length + k ∧ fitE us ∧ fitE vs ∧ settled us vs = settled lg ws ∧
    st = ⟨mkE .top [(1, .ptr 3 0), (2, .clo 146 [.ptr 3 0]), (3, .int .i64 (rdyI us vs))], hSi (a + k) (b + k) r us vs ++ [.box [.ptr 0 0]]⟩) ws.length (by simp [hx, hSi]) (by simp) ?_ ?_
  · refine ⟨0, lg, ws, rfl, rfl, rfl, hf1, hf2, rfl, ?_⟩
    simp [trim_mk, go_sem, Nat.reduceLT, Nat.reduceAdd, Nat.reduceEqDiff, Nat.reduceLeDiff, Nat.reduceSub, Nat.reduceMul, Int.reduceEq, eq_self, reduceIte, subHeap, renObj, renCell, renLeaf, pos, List.range_succ, hSi]
  · rintro m st ⟨k, us, vs, hm, hmk, hul, hfu, hfv, hse, rfl⟩
    by_cases hf : 0 ≤ rdyI us vs
    · have hql := rdyI_lt hf
      rw [settled_step hf] at hse
      obtain ⟨q, hq⟩ : ∃ q : Nat, rdyI us vs = q := ⟨(rdyI us vs).toNat, by omega⟩
      rw [hq, Int.toNat_natCast] at hql hse
      have hgq : vs[q]? = some (nth vs q) := nth_get? _ _ hql
      have wq := i64_up (k := q) (by omega)
      have hfe := hfv _ (nthM hql)
      simp only [go_sem, Nat.reduceLT, Nat.reduceAdd, Nat.reduceEqDiff, Nat.reduceLeDiff, Nat.reduceSub, Nat.reduceMul, Int.reduceEq, eq_self, reduceIte, hSi, hq, hql, hgq, cE]
      rw [app_arr rfl rfl (by simp) (by simp; omega)]
      have hce : List.map cE us ++ [[PV.int .i64 (nth vs q).id.r, .int .i64 (nth vs q).id.n, .int .i64 (nth vs q).c, .str (nth vs q).t, .list ((nth vs q).ls.map cId)]] = (us ++ [nth vs q]).map cE := by simp [cE]
      simp only [go_sem, Nat.reduceLT, Nat.reduceAdd, Nat.reduceEqDiff, Nat.reduceLeDiff, Nat.reduceSub, Nat.reduceMul, Int.reduceEq, eq_self, reduceIte, hce]
      repeat refine ⟨rfl, ?_⟩
      simp only [go_sem, Nat.reduceLT, Nat.reduceAdd, Nat.reduceEqDiff, Nat.reduceLeDiff, Nat.reduceSub, Nat.reduceMul, Int.reduceEq, eq_self, reduceIte, wq]
      refine ops_call1 2 (delE_meets (vs.map cE) (b + k) 46 q (by simpa using hql)) rfl rfl rfl rfl (by simp [go_sem, Nat.reduceLT, Nat.reduceAdd, Nat.reduceEqDiff, Nat.reduceLeDiff, Nat.reduceSub, Nat.reduceMul, Int.reduceEq, eq_self, reduceIte]) (by simp [go_sem, Nat.reduceLT, Nat.reduceAdd, Nat.reduceEqDiff, Nat.reduceLeDiff, Nat.reduceSub, Nat.reduceMul, Int.reduceEq, eq_self, reduceIte, pos]) rfl ?_
      rw [eraseIdx_mapE]
      have hle : (vs.eraseIdx q).length = vs.length - 1 := by rw [List.length_eraseIdx, if_pos hql]
      simp only [go_sem, Nat.reduceLT, Nat.reduceAdd, Nat.reduceEqDiff, Nat.reduceLeDiff, Nat.reduceSub, Nat.reduceMul, Int.reduceEq, eq_self, reduceIte]
      repeat refine ⟨rfl, ?_⟩
      refine ops_call (.lookE (rdyI_meets r (us ++ [nth vs q]) (vs.eraseIdx q) (by simp; omega) (by omega) (fit_app hfu hfe) (fit_erase hfv q)) rfl (by simp [lookF, lookN, go_sem, Nat.reduceLT, Nat.reduceAdd, Nat.reduceEqDiff, Nat.reduceLeDiff, Nat.reduceSub, Nat.reduceMul, Int.reduceEq, eq_self, reduceIte, frzAt, pos, cSi])) ?_
      simp only [go_sem, Nat.reduceLT, Nat.reduceAdd, Nat.reduceEqDiff, Nat.reduceLeDiff, Nat.reduceSub, Nat.reduceMul, Int.reduceEq, eq_self, reduceIte]
      refine ⟨by simp, m - 1, by omega, k + 1, us ++ [nth vs q], vs.eraseIdx q, by omega, by omega, by simp; omega, fit_app hfu hfe, fit_erase hfv q, hse, ?_⟩
      simp [trim_mk, go_sem, Nat.reduceLT, Nat.reduceAdd, Nat.reduceEqDiff, Nat.reduceLeDiff, Nat.reduceSub, Nat.reduceMul, Int.reduceEq, eq_self, reduceIte, subHeap, renObj, renCell, renLeaf, pos, List.range_succ, hSi, Nat.add_assoc]
    · rw [settled_end hf] at hse
      rw [← hse]
      have hk1 : ws.length - vs.length = k := by omega
      simp only [go_sem, Nat.reduceLT, Nat.reduceAdd, Nat.reduceEqDiff, Nat.reduceLeDiff, Nat.reduceSub, Nat.reduceMul, Int.reduceEq, eq_self, reduceIte, hSi, hf, hk1]
      refine end_keep [] (by simp) (by simp) (by simp [hx, hSi]) ?_ ?_
      · simp [go_sem, Nat.reduceLT, Nat.reduceAdd, Nat.reduceEqDiff, Nat.reduceLeDiff, Nat.reduceSub, Nat.reduceMul, Int.reduceEq, eq_self, reduceIte, L112, R112, hx, pos, hSi]
      · simp [subHeap, renObj, hx, pos, go_sem, Nat.reduceLT, Nat.reduceAdd, Nat.reduceEqDiff, Nat.reduceLeDiff, Nat.reduceSub, Nat.reduceMul, Int.reduceEq, eq_self, reduceIte, hSi, List.range_succ]
end Go.Proofs.YtfdolehffjmdmaaGreatDoor
/- Sites: New, Check: contracts. -/
namespace Go.Proofs.YtfdolehffjmdmaaGreatDoor
set_option linter.unusedSimpArgs false
set_option linter.unusedVariables false
open Go.RowKit
def siBad (r : Int) (lg ws : List Entry) (k : Nat) : Bool := (decide (0 < k) && !lessB (nth ws (k - 1)).id (nth ws k).id) || decide ((nth ws k).id.r = r) || decide (0 ≤ findE lg (nth ws k).id) || readyB lg (nth ws k)
def siWait (r : Int) (lg ws : List Entry) (k : Nat) : Int := if checkEntry (nth ws k) ≠ 0 then checkEntry (nth ws k) else if siBad r lg ws k = true then 4 else 0
def siErr (r : Int) (lg ws : List Entry) : Int := if ¬ (r = 0 ∨ r = 1) then 3 else if checkLog lg ≠ 0 then checkLog lg else if 20 < ws.length then 2 else firstNZ (siWait r lg ws) ws.length
theorem siErr_ok {r : Int} {lg ws : List Entry} (h : siErr r lg ws = 0) : (r = 0 ∨ r = 1) ∧ LogOk lg ∧ ws.length ≤ 20 ∧ ∀ k, k < ws.length → checkEntry (nth ws k) = 0 ∧ siBad r lg ws k = false := by
  unfold siErr at h
  split at h
  · cases h
  · rename_i h1
    split at h
    · rename_i h2; exact (h2 h).elim
    · rename_i h2
      split at h
      · cases h
      · rename_i h3
        refine ⟨by omega, log_ok.1 (by simpa using h2), by omega, fun k hk => ?_⟩
        have := firstNZ_zero.1 h k hk
        unfold siWait at this
        split at this
        · rename_i h4; exact (h4 this).elim
        · rename_i h4
          split at this
          · cases this
          · rename_i h5
            exact ⟨by simpa using h4, by simpa using h5⟩
theorem check_fit {e : Entry} (h : checkEntry e = 0) : (e.id.r = 0 ∨ e.id.r = 1) ∧ e.ls.length ≤ 1000000 := by
  have := (check_ok_bounds h).2.2.2.1
  exact ⟨reg_of_check h, by omega⟩
theorem log_fit {lg : List Entry} (h : LogOk lg) : fitE lg := fun e he => by
  obtain ⟨k, hk, rfl⟩ := List.getElem_of_mem he
  rw [← nth_eq _ _ hk]
  exact check_fit (h.chk k hk)
theorem waits_fit {ws : List Entry} (h : ∀ k, k < ws.length → checkEntry (nth ws k) = 0) : fitE ws := fun e he => by
  obtain ⟨k, hk, rfl⟩ := List.getElem_of_mem he
  rw [← nth_eq _ _ hk]
  exact check_fit (h k hk)
theorem siNew_meets (r : Int) : Meets Tryz.prog 63 [.int .i64 r] [] (.tup [.agg (if r = 0 ∨ r = 1 then cSi r [] [] else cSi 0 [] []), .int .i64 (if r = 0 ∨ r = 1 then 0 else 3)]) [] := by
  refine Meets.of_walk Tryz.func63 Tryz.ntmps63 low63 res63 (by simp) fun x hx => ?_
  by_cases h0 : r = 0
  · subst h0
    simp only [go_sem, Nat.reduceLT, Nat.reduceAdd, Nat.reduceEqDiff, Nat.reduceLeDiff, Nat.reduceSub, Nat.reduceMul, Int.reduceEq, eq_self, reduceIte, L63, R63]
    refine ret_pure hx ?_
    simp [go_sem, Nat.reduceLT, Nat.reduceAdd, Nat.reduceEqDiff, Nat.reduceLeDiff, Nat.reduceSub, Nat.reduceMul, Int.reduceEq, eq_self, reduceIte, L63, R63, cSi]
  · by_cases h1 : r = 1
    · subst h1
      simp only [go_sem, Nat.reduceLT, Nat.reduceAdd, Nat.reduceEqDiff, Nat.reduceLeDiff, Nat.reduceSub, Nat.reduceMul, Int.reduceEq, eq_self, reduceIte, L63, R63, Int.ofNat_zero, Int.natCast_one, Int.cast_ofNat_Int, Int.reduceLT, Int.reduceLE, Int.reduceToNat, Nat.reduceLT, Int.toNat_zero, Int.natCast_zero, Int.le_refl, Int.lt_irrefl, Int.reduceAdd, frz, false_or, or_true]
      refine ret_pure hx ?_
      simp [go_sem, Nat.reduceLT, Nat.reduceAdd, Nat.reduceEqDiff, Nat.reduceLeDiff, Nat.reduceSub, Nat.reduceMul, Int.reduceEq, eq_self, reduceIte, L63, R63, cSi]
    · simp only [go_sem, Nat.reduceLT, Nat.reduceAdd, Nat.reduceEqDiff, Nat.reduceLeDiff, Nat.reduceSub, Nat.reduceMul, Int.reduceEq, eq_self, reduceIte, L63, R63, h0, h1]
      refine ret_pure hx ?_
      simp [go_sem, Nat.reduceLT, Nat.reduceAdd, Nat.reduceEqDiff, Nat.reduceLeDiff, Nat.reduceSub, Nat.reduceMul, Int.reduceEq, eq_self, reduceIte, L63, R63, cSi, h0, h1]
set_option maxHeartbeats 4000000 in
theorem siCheck_meets (r : Int) (lg ws : List Entry) (hl : lg.length ≤ 9223372036854775806) (hw : ws.length ≤ 9223372036854775806) : Meets Tryz.prog 65 [.agg (cSi r lg ws)] [] (.int .i64 (siErr r lg ws)) [] := by
  refine Meets.of_walk Tryz.func65 Tryz.ntmps65 low65 res65 (by simp) fun x hx => ?_
  simp only [go_sem, Nat.reduceLT, Nat.reduceAdd, Nat.reduceEqDiff, Nat.reduceLeDiff, Nat.reduceSub, Nat.reduceMul, Int.reduceEq, eq_self, reduceIte, L65, R65, cSi]
  by_cases h0 : r = 0
  · have hr : r = 0 ∨ r = 1 := .inl h0
    have hd0 : decide (r = 0) = true := by simp [h0]
    have hd1 : True := trivial
    clear h0
    simp only [go_sem, Nat.reduceLT, Nat.reduceAdd, Nat.reduceEqDiff, Nat.reduceLeDiff, Nat.reduceSub, Nat.reduceMul, Int.reduceEq, eq_self, reduceIte, hd0, hd1, cSi]
    refine ops_call (.pureE (dagCheck_meets lg hl) (by simp [go_sem, Nat.reduceLT, Nat.reduceAdd, Nat.reduceEqDiff, Nat.reduceLeDiff, Nat.reduceSub, Nat.reduceMul, Int.reduceEq, eq_self, reduceIte])) ?_
    by_cases hlog : checkLog lg = 0
    · have hok := log_ok.1 hlog
      have hlen := hok.len
      by_cases h20 : (20 : Int) < (ws.length : Int)
      · have e : siErr r lg ws = 2 := by rw [siErr, if_neg (by simp [hr]), if_neg (by simp [hlog]), if_pos (by omega)]
        simp only [go_sem, Nat.reduceLT, Nat.reduceAdd, Nat.reduceEqDiff, Nat.reduceLeDiff, Nat.reduceSub, Nat.reduceMul, Int.reduceEq, eq_self, reduceIte, hlog, h20, cSi]
        refine ret_pure hx ?_
        simp [go_sem, Nat.reduceLT, Nat.reduceAdd, Nat.reduceEqDiff, Nat.reduceLeDiff, Nat.reduceSub, Nat.reduceMul, Int.reduceEq, eq_self, reduceIte, L65, R65, e]
      · have e : siErr r lg ws = firstNZ (siWait r lg ws) ws.length := by rw [siErr, if_neg (by simp [hr]), if_neg (by simp [hlog]), if_neg (by omega)]
        simp only [go_sem, Nat.reduceLT, Nat.reduceAdd, Nat.reduceEqDiff, Nat.reduceLeDiff, Nat.reduceSub, Nat.reduceMul, Int.reduceEq, eq_self, reduceIte, hlog, h20, cSi, e]
        refine loop_inv [1, 26, 27, 28] 1 (fun m st => ∃ k : Nat, k + m = ws.length ∧ firstNZ (siWait r lg ws) k = 0 ∧
          st = ⟨mkE .top [(1, .ptr 0 0), (26, .list (ws.map cE)), (27, .int .i64 ws.length), (28, .int .i64 k)], [.box (cSi r lg ws)]⟩) ws.length (by simp [hx]) (by simp) ?_ ?_
        · refine ⟨0, by omega, rfl, ?_⟩
          simp [trim_mk, go_sem, Nat.reduceLT, Nat.reduceAdd, Nat.reduceEqDiff, Nat.reduceLeDiff, Nat.reduceSub, Nat.reduceMul, Int.reduceEq, eq_self, reduceIte, subHeap, renObj, pos, List.range_succ, cSi]
        · rintro m st ⟨k, hk, hz, rfl⟩
          by_cases hlt : k < ws.length
          · have hg : ws[k]? = some (nth ws k) := nth_get? _ _ hlt
            have wk := i64_up (k := k) (by omega)
            have fin : ∀ q : Int, siWait r lg ws k = q → q ≠ 0 → firstNZ (siWait r lg ws) ws.length = q := fun q h1 h2 => by rw [firstNZ_hit hz (by rw [h1]; exact h2) hlt, h1]
            simp only [go_sem, Nat.reduceLT, Nat.reduceAdd, Nat.reduceEqDiff, Nat.reduceLeDiff, Nat.reduceSub, Nat.reduceMul, Int.reduceEq, eq_self, reduceIte, hlt, hg, cE, cSi]
            refine ops_call (.pureE (check_meets (nth ws k)) (by simp [go_sem, Nat.reduceLT, Nat.reduceAdd, Nat.reduceEqDiff, Nat.reduceLeDiff, Nat.reduceSub, Nat.reduceMul, Int.reduceEq, eq_self, reduceIte, cE])) ?_
            by_cases h1 : checkEntry (nth ws k) = 0
            · have hfit := check_fit h1
              have hw1 : siWait r lg ws k = if siBad r lg ws k = true then 4 else 0 := by rw [siWait, if_neg (by simp [h1])]
              simp only [go_sem, Nat.reduceLT, Nat.reduceAdd, Nat.reduceEqDiff, Nat.reduceLeDiff, Nat.reduceSub, Nat.reduceMul, Int.reduceEq, eq_self, reduceIte, h1, cE, cSi]
              by_cases hk0 : (0 : Int) < (k : Int)
              · obtain ⟨k', rfl⟩ : ∃ k', k = k' + 1 := ⟨k - 1, by omega⟩
                have hwd : IntKind.i64.wrap (((k' + 1 : Nat) : Int) - 1) = (k' : Int) := by rw [IntKind.wrap_i64]; omega
                have hkl : k' < ws.length := by omega
                have hg' : ws[k']? = some (nth ws k') := nth_get? _ _ hkl
                simp only [go_sem, Nat.reduceLT, Nat.reduceAdd, Nat.reduceEqDiff, Nat.reduceLeDiff, Nat.reduceSub, Nat.reduceMul, Int.reduceEq, eq_self, reduceIte, hk0, hwd, hkl, hg', cE, cSi]
                refine ops_call (.pureE (less_meets (nth ws k').id (nth ws (k' + 1)).id) (by simp [go_sem, Nat.reduceLT, Nat.reduceAdd, Nat.reduceEqDiff, Nat.reduceLeDiff, Nat.reduceSub, Nat.reduceMul, Int.reduceEq, eq_self, reduceIte, cId])) ?_
                cases hle : lessB (nth ws k').id (nth ws (k' + 1)).id
                · have hw2 : siWait r lg ws (k' + 1) = 4 := by rw [hw1, if_pos (by simp [siBad, hle])]
                  simp only [go_sem, Nat.reduceLT, Nat.reduceAdd, Nat.reduceEqDiff, Nat.reduceLeDiff, Nat.reduceSub, Nat.reduceMul, Int.reduceEq, eq_self, reduceIte]
                  repeat refine ⟨rfl, ?_⟩
                  refine ret_pure hx ?_
                  simp [go_sem, Nat.reduceLT, Nat.reduceAdd, Nat.reduceEqDiff, Nat.reduceLeDiff, Nat.reduceSub, Nat.reduceMul, Int.reduceEq, eq_self, reduceIte, L65, R65, fin 4 hw2 (by decide)]
                · have hb1 : (decide (0 < k' + 1) && !lessB (nth ws (k' + 1 - 1)).id (nth ws (k' + 1)).id) = false := by simp [hle]
                  cases hd2 : decide ((nth ws (k' + 1)).id.r = r)
                  · simp only [go_sem, Nat.reduceLT, Nat.reduceAdd, Nat.reduceEqDiff, Nat.reduceLeDiff, Nat.reduceSub, Nat.reduceMul, Int.reduceEq, eq_self, reduceIte, hd2, cE, cSi]
                    refine ops_call (.pureE (find_meets lg (nth ws (k' + 1)).id hl) (by simp [go_sem, Nat.reduceLT, Nat.reduceAdd, Nat.reduceEqDiff, Nat.reduceLeDiff, Nat.reduceSub, Nat.reduceMul, Int.reduceEq, eq_self, reduceIte, cId])) ?_
                    by_cases h3 : 0 ≤ findE lg (nth ws (k' + 1)).id
                    · have hw2 : siWait r lg ws (k' + 1) = 4 := by rw [hw1, if_pos (by simp [siBad, h3])]
                      simp only [go_sem, Nat.reduceLT, Nat.reduceAdd, Nat.reduceEqDiff, Nat.reduceLeDiff, Nat.reduceSub, Nat.reduceMul, Int.reduceEq, eq_self, reduceIte, h3]
                      repeat refine ⟨rfl, ?_⟩
                      refine ret_pure hx ?_
                      simp [go_sem, Nat.reduceLT, Nat.reduceAdd, Nat.reduceEqDiff, Nat.reduceLeDiff, Nat.reduceSub, Nat.reduceMul, Int.reduceEq, eq_self, reduceIte, L65, R65, fin 4 hw2 (by decide)]
                    · simp only [go_sem, Nat.reduceLT, Nat.reduceAdd, Nat.reduceEqDiff, Nat.reduceLeDiff, Nat.reduceSub, Nat.reduceMul, Int.reduceEq, eq_self, reduceIte, h3, cE, cSi]
                      refine ops_call (.pureE (ready_meets lg (nth ws (k' + 1)) hok.reg (by omega) hfit.1 (by have := hfit.2; omega)) (by simp [go_sem, Nat.reduceLT, Nat.reduceAdd, Nat.reduceEqDiff, Nat.reduceLeDiff, Nat.reduceSub, Nat.reduceMul, Int.reduceEq, eq_self, reduceIte, cE])) ?_
                      cases h4 : readyB lg (nth ws (k' + 1))
                      · have hw2 : siWait r lg ws (k' + 1) = 0 := by rw [hw1, if_neg (by rw [siBad, hb1, hd2, h4]; simp [h3])]
                        simp only [go_sem, Nat.reduceLT, Nat.reduceAdd, Nat.reduceEqDiff, Nat.reduceLeDiff, Nat.reduceSub, Nat.reduceMul, Int.reduceEq, eq_self, reduceIte, wk]
                        repeat refine ⟨rfl, ?_⟩
                        refine ⟨by simp, m - 1, by omega, k' + 1 + 1, by omega, firstNZ_succ hz hw2, ?_⟩
                        simp [trim_mk, go_sem, Nat.reduceLT, Nat.reduceAdd, Nat.reduceEqDiff, Nat.reduceLeDiff, Nat.reduceSub, Nat.reduceMul, Int.reduceEq, eq_self, reduceIte, subHeap, renObj, pos, List.range_succ, cSi]
                      · have hw2 : siWait r lg ws (k' + 1) = 4 := by rw [hw1, if_pos (by simp [siBad, h4])]
                        simp only [go_sem, Nat.reduceLT, Nat.reduceAdd, Nat.reduceEqDiff, Nat.reduceLeDiff, Nat.reduceSub, Nat.reduceMul, Int.reduceEq, eq_self, reduceIte]
                        repeat refine ⟨rfl, ?_⟩
                        refine ret_pure hx ?_
                        simp [go_sem, Nat.reduceLT, Nat.reduceAdd, Nat.reduceEqDiff, Nat.reduceLeDiff, Nat.reduceSub, Nat.reduceMul, Int.reduceEq, eq_self, reduceIte, L65, R65, fin 4 hw2 (by decide)]
                  · have hw2 : siWait r lg ws (k' + 1) = 4 := by rw [hw1, if_pos (by simp [siBad, hd2])]
                    simp only [go_sem, Nat.reduceLT, Nat.reduceAdd, Nat.reduceEqDiff, Nat.reduceLeDiff, Nat.reduceSub, Nat.reduceMul, Int.reduceEq, eq_self, reduceIte, hd2]
                    repeat refine ⟨rfl, ?_⟩
                    refine ret_pure hx ?_
                    simp [go_sem, Nat.reduceLT, Nat.reduceAdd, Nat.reduceEqDiff, Nat.reduceLeDiff, Nat.reduceSub, Nat.reduceMul, Int.reduceEq, eq_self, reduceIte, L65, R65, fin 4 hw2 (by decide)]
              · have hkz : k = 0 := by omega
                have hb1 : (decide (0 < k) && !lessB (nth ws (k - 1)).id (nth ws k).id) = false := by simp [hkz]
                simp only [go_sem, Nat.reduceLT, Nat.reduceAdd, Nat.reduceEqDiff, Nat.reduceLeDiff, Nat.reduceSub, Nat.reduceMul, Int.reduceEq, eq_self, reduceIte, hk0, cE, cSi]
                cases hd2 : decide ((nth ws (k)).id.r = r)
                · simp only [go_sem, Nat.reduceLT, Nat.reduceAdd, Nat.reduceEqDiff, Nat.reduceLeDiff, Nat.reduceSub, Nat.reduceMul, Int.reduceEq, eq_self, reduceIte, hd2, cE, cSi]
                  refine ops_call (.pureE (find_meets lg (nth ws (k)).id hl) (by simp [go_sem, Nat.reduceLT, Nat.reduceAdd, Nat.reduceEqDiff, Nat.reduceLeDiff, Nat.reduceSub, Nat.reduceMul, Int.reduceEq, eq_self, reduceIte, cId])) ?_
                  by_cases h3 : 0 ≤ findE lg (nth ws (k)).id
                  · have hw2 : siWait r lg ws (k) = 4 := by rw [hw1, if_pos (by simp [siBad, h3])]
                    simp only [go_sem, Nat.reduceLT, Nat.reduceAdd, Nat.reduceEqDiff, Nat.reduceLeDiff, Nat.reduceSub, Nat.reduceMul, Int.reduceEq, eq_self, reduceIte, h3]
                    repeat refine ⟨rfl, ?_⟩
                    refine ret_pure hx ?_
                    simp [go_sem, Nat.reduceLT, Nat.reduceAdd, Nat.reduceEqDiff, Nat.reduceLeDiff, Nat.reduceSub, Nat.reduceMul, Int.reduceEq, eq_self, reduceIte, L65, R65, fin 4 hw2 (by decide)]
                  · simp only [go_sem, Nat.reduceLT, Nat.reduceAdd, Nat.reduceEqDiff, Nat.reduceLeDiff, Nat.reduceSub, Nat.reduceMul, Int.reduceEq, eq_self, reduceIte, h3, cE, cSi]
                    refine ops_call (.pureE (ready_meets lg (nth ws (k)) hok.reg (by omega) hfit.1 (by have := hfit.2; omega)) (by simp [go_sem, Nat.reduceLT, Nat.reduceAdd, Nat.reduceEqDiff, Nat.reduceLeDiff, Nat.reduceSub, Nat.reduceMul, Int.reduceEq, eq_self, reduceIte, cE])) ?_
                    cases h4 : readyB lg (nth ws (k))
                    · have hw2 : siWait r lg ws (k) = 0 := by rw [hw1, if_neg (by rw [siBad, hb1, hd2, h4]; simp [h3])]
                      simp only [go_sem, Nat.reduceLT, Nat.reduceAdd, Nat.reduceEqDiff, Nat.reduceLeDiff, Nat.reduceSub, Nat.reduceMul, Int.reduceEq, eq_self, reduceIte, wk]
                      repeat refine ⟨rfl, ?_⟩
                      refine ⟨by simp, m - 1, by omega, k + 1, by omega, firstNZ_succ hz hw2, ?_⟩
                      simp [trim_mk, go_sem, Nat.reduceLT, Nat.reduceAdd, Nat.reduceEqDiff, Nat.reduceLeDiff, Nat.reduceSub, Nat.reduceMul, Int.reduceEq, eq_self, reduceIte, subHeap, renObj, pos, List.range_succ, cSi]
                    · have hw2 : siWait r lg ws (k) = 4 := by rw [hw1, if_pos (by simp [siBad, h4])]
                      simp only [go_sem, Nat.reduceLT, Nat.reduceAdd, Nat.reduceEqDiff, Nat.reduceLeDiff, Nat.reduceSub, Nat.reduceMul, Int.reduceEq, eq_self, reduceIte]
                      repeat refine ⟨rfl, ?_⟩
                      refine ret_pure hx ?_
                      simp [go_sem, Nat.reduceLT, Nat.reduceAdd, Nat.reduceEqDiff, Nat.reduceLeDiff, Nat.reduceSub, Nat.reduceMul, Int.reduceEq, eq_self, reduceIte, L65, R65, fin 4 hw2 (by decide)]
                · have hw2 : siWait r lg ws (k) = 4 := by rw [hw1, if_pos (by simp [siBad, hd2])]
                  simp only [go_sem, Nat.reduceLT, Nat.reduceAdd, Nat.reduceEqDiff, Nat.reduceLeDiff, Nat.reduceSub, Nat.reduceMul, Int.reduceEq, eq_self, reduceIte, hd2]
                  repeat refine ⟨rfl, ?_⟩
                  refine ret_pure hx ?_
                  simp [go_sem, Nat.reduceLT, Nat.reduceAdd, Nat.reduceEqDiff, Nat.reduceLeDiff, Nat.reduceSub, Nat.reduceMul, Int.reduceEq, eq_self, reduceIte, L65, R65, fin 4 hw2 (by decide)]
            · have hw1 : siWait r lg ws k = checkEntry (nth ws k) := by rw [siWait, if_pos h1]
              simp only [go_sem, Nat.reduceLT, Nat.reduceAdd, Nat.reduceEqDiff, Nat.reduceLeDiff, Nat.reduceSub, Nat.reduceMul, Int.reduceEq, eq_self, reduceIte, h1, cE, cSi]
              refine ret_pure hx ?_
              simp [go_sem, Nat.reduceLT, Nat.reduceAdd, Nat.reduceEqDiff, Nat.reduceLeDiff, Nat.reduceSub, Nat.reduceMul, Int.reduceEq, eq_self, reduceIte, L65, R65, fin _ hw1 h1]
          · obtain rfl : k = ws.length := by omega
            simp only [go_sem, Nat.reduceLT, Nat.reduceAdd, Nat.reduceEqDiff, Nat.reduceLeDiff, Nat.reduceSub, Nat.reduceMul, Int.reduceEq, eq_self, reduceIte, hlt]
            refine ret_pure hx ?_
            simp [go_sem, Nat.reduceLT, Nat.reduceAdd, Nat.reduceEqDiff, Nat.reduceLeDiff, Nat.reduceSub, Nat.reduceMul, Int.reduceEq, eq_self, reduceIte, L65, R65, hz]
    · have e : siErr r lg ws = checkLog lg := by rw [siErr, if_neg (by simp [hr]), if_pos hlog]
      simp only [go_sem, Nat.reduceLT, Nat.reduceAdd, Nat.reduceEqDiff, Nat.reduceLeDiff, Nat.reduceSub, Nat.reduceMul, Int.reduceEq, eq_self, reduceIte, hlog]
      refine ret_pure hx ?_
      simp [go_sem, Nat.reduceLT, Nat.reduceAdd, Nat.reduceEqDiff, Nat.reduceLeDiff, Nat.reduceSub, Nat.reduceMul, Int.reduceEq, eq_self, reduceIte, L65, R65, e]
  · have hd0 : decide (r = 0) = false := by simp [h0]
    by_cases h1 : r = 1
    · have hr : r = 0 ∨ r = 1 := .inr h1
      have hd1 : decide (r = 1) = true := by simp [h1]
      clear h0 h1
      simp only [go_sem, Nat.reduceLT, Nat.reduceAdd, Nat.reduceEqDiff, Nat.reduceLeDiff, Nat.reduceSub, Nat.reduceMul, Int.reduceEq, eq_self, reduceIte, hd0, hd1, cSi]
      refine ops_call (.pureE (dagCheck_meets lg hl) (by simp [go_sem, Nat.reduceLT, Nat.reduceAdd, Nat.reduceEqDiff, Nat.reduceLeDiff, Nat.reduceSub, Nat.reduceMul, Int.reduceEq, eq_self, reduceIte])) ?_
      by_cases hlog : checkLog lg = 0
      · have hok := log_ok.1 hlog
        have hlen := hok.len
        by_cases h20 : (20 : Int) < (ws.length : Int)
        · have e : siErr r lg ws = 2 := by rw [siErr, if_neg (by simp [hr]), if_neg (by simp [hlog]), if_pos (by omega)]
          simp only [go_sem, Nat.reduceLT, Nat.reduceAdd, Nat.reduceEqDiff, Nat.reduceLeDiff, Nat.reduceSub, Nat.reduceMul, Int.reduceEq, eq_self, reduceIte, hlog, h20, cSi]
          refine ret_pure hx ?_
          simp [go_sem, Nat.reduceLT, Nat.reduceAdd, Nat.reduceEqDiff, Nat.reduceLeDiff, Nat.reduceSub, Nat.reduceMul, Int.reduceEq, eq_self, reduceIte, L65, R65, e]
        · have e : siErr r lg ws = firstNZ (siWait r lg ws) ws.length := by rw [siErr, if_neg (by simp [hr]), if_neg (by simp [hlog]), if_neg (by omega)]
          simp only [go_sem, Nat.reduceLT, Nat.reduceAdd, Nat.reduceEqDiff, Nat.reduceLeDiff, Nat.reduceSub, Nat.reduceMul, Int.reduceEq, eq_self, reduceIte, hlog, h20, cSi, e]
          refine loop_inv [1, 26, 27, 28] 1 (fun m st => ∃ k : Nat, k + m = ws.length ∧ firstNZ (siWait r lg ws) k = 0 ∧
            st = ⟨mkE .top [(1, .ptr 0 0), (26, .list (ws.map cE)), (27, .int .i64 ws.length), (28, .int .i64 k)], [.box (cSi r lg ws)]⟩) ws.length (by simp [hx]) (by simp) ?_ ?_
          · refine ⟨0, by omega, rfl, ?_⟩
            simp [trim_mk, go_sem, Nat.reduceLT, Nat.reduceAdd, Nat.reduceEqDiff, Nat.reduceLeDiff, Nat.reduceSub, Nat.reduceMul, Int.reduceEq, eq_self, reduceIte, subHeap, renObj, pos, List.range_succ, cSi]
          · rintro m st ⟨k, hk, hz, rfl⟩
            by_cases hlt : k < ws.length
            · have hg : ws[k]? = some (nth ws k) := nth_get? _ _ hlt
              have wk := i64_up (k := k) (by omega)
              have fin : ∀ q : Int, siWait r lg ws k = q → q ≠ 0 → firstNZ (siWait r lg ws) ws.length = q := fun q h1 h2 => by rw [firstNZ_hit hz (by rw [h1]; exact h2) hlt, h1]
              simp only [go_sem, Nat.reduceLT, Nat.reduceAdd, Nat.reduceEqDiff, Nat.reduceLeDiff, Nat.reduceSub, Nat.reduceMul, Int.reduceEq, eq_self, reduceIte, hlt, hg, cE, cSi]
              refine ops_call (.pureE (check_meets (nth ws k)) (by simp [go_sem, Nat.reduceLT, Nat.reduceAdd, Nat.reduceEqDiff, Nat.reduceLeDiff, Nat.reduceSub, Nat.reduceMul, Int.reduceEq, eq_self, reduceIte, cE])) ?_
              by_cases h1 : checkEntry (nth ws k) = 0
              · have hfit := check_fit h1
                have hw1 : siWait r lg ws k = if siBad r lg ws k = true then 4 else 0 := by rw [siWait, if_neg (by simp [h1])]
                simp only [go_sem, Nat.reduceLT, Nat.reduceAdd, Nat.reduceEqDiff, Nat.reduceLeDiff, Nat.reduceSub, Nat.reduceMul, Int.reduceEq, eq_self, reduceIte, h1, cE, cSi]
                by_cases hk0 : (0 : Int) < (k : Int)
                · obtain ⟨k', rfl⟩ : ∃ k', k = k' + 1 := ⟨k - 1, by omega⟩
                  have hwd : IntKind.i64.wrap (((k' + 1 : Nat) : Int) - 1) = (k' : Int) := by rw [IntKind.wrap_i64]; omega
                  have hkl : k' < ws.length := by omega
                  have hg' : ws[k']? = some (nth ws k') := nth_get? _ _ hkl
                  simp only [go_sem, Nat.reduceLT, Nat.reduceAdd, Nat.reduceEqDiff, Nat.reduceLeDiff, Nat.reduceSub, Nat.reduceMul, Int.reduceEq, eq_self, reduceIte, hk0, hwd, hkl, hg', cE, cSi]
                  refine ops_call (.pureE (less_meets (nth ws k').id (nth ws (k' + 1)).id) (by simp [go_sem, Nat.reduceLT, Nat.reduceAdd, Nat.reduceEqDiff, Nat.reduceLeDiff, Nat.reduceSub, Nat.reduceMul, Int.reduceEq, eq_self, reduceIte, cId])) ?_
                  cases hle : lessB (nth ws k').id (nth ws (k' + 1)).id
                  · have hw2 : siWait r lg ws (k' + 1) = 4 := by rw [hw1, if_pos (by simp [siBad, hle])]
                    simp only [go_sem, Nat.reduceLT, Nat.reduceAdd, Nat.reduceEqDiff, Nat.reduceLeDiff, Nat.reduceSub, Nat.reduceMul, Int.reduceEq, eq_self, reduceIte]
                    repeat refine ⟨rfl, ?_⟩
                    refine ret_pure hx ?_
                    simp [go_sem, Nat.reduceLT, Nat.reduceAdd, Nat.reduceEqDiff, Nat.reduceLeDiff, Nat.reduceSub, Nat.reduceMul, Int.reduceEq, eq_self, reduceIte, L65, R65, fin 4 hw2 (by decide)]
                  · have hb1 : (decide (0 < k' + 1) && !lessB (nth ws (k' + 1 - 1)).id (nth ws (k' + 1)).id) = false := by simp [hle]
                    cases hd2 : decide ((nth ws (k' + 1)).id.r = r)
                    · simp only [go_sem, Nat.reduceLT, Nat.reduceAdd, Nat.reduceEqDiff, Nat.reduceLeDiff, Nat.reduceSub, Nat.reduceMul, Int.reduceEq, eq_self, reduceIte, hd2, cE, cSi]
                      refine ops_call (.pureE (find_meets lg (nth ws (k' + 1)).id hl) (by simp [go_sem, Nat.reduceLT, Nat.reduceAdd, Nat.reduceEqDiff, Nat.reduceLeDiff, Nat.reduceSub, Nat.reduceMul, Int.reduceEq, eq_self, reduceIte, cId])) ?_
                      by_cases h3 : 0 ≤ findE lg (nth ws (k' + 1)).id
                      · have hw2 : siWait r lg ws (k' + 1) = 4 := by rw [hw1, if_pos (by simp [siBad, h3])]
                        simp only [go_sem, Nat.reduceLT, Nat.reduceAdd, Nat.reduceEqDiff, Nat.reduceLeDiff, Nat.reduceSub, Nat.reduceMul, Int.reduceEq, eq_self, reduceIte, h3]
                        repeat refine ⟨rfl, ?_⟩
                        refine ret_pure hx ?_
                        simp [go_sem, Nat.reduceLT, Nat.reduceAdd, Nat.reduceEqDiff, Nat.reduceLeDiff, Nat.reduceSub, Nat.reduceMul, Int.reduceEq, eq_self, reduceIte, L65, R65, fin 4 hw2 (by decide)]
                      · simp only [go_sem, Nat.reduceLT, Nat.reduceAdd, Nat.reduceEqDiff, Nat.reduceLeDiff, Nat.reduceSub, Nat.reduceMul, Int.reduceEq, eq_self, reduceIte, h3, cE, cSi]
                        refine ops_call (.pureE (ready_meets lg (nth ws (k' + 1)) hok.reg (by omega) hfit.1 (by have := hfit.2; omega)) (by simp [go_sem, Nat.reduceLT, Nat.reduceAdd, Nat.reduceEqDiff, Nat.reduceLeDiff, Nat.reduceSub, Nat.reduceMul, Int.reduceEq, eq_self, reduceIte, cE])) ?_
                        cases h4 : readyB lg (nth ws (k' + 1))
                        · have hw2 : siWait r lg ws (k' + 1) = 0 := by rw [hw1, if_neg (by rw [siBad, hb1, hd2, h4]; simp [h3])]
                          simp only [go_sem, Nat.reduceLT, Nat.reduceAdd, Nat.reduceEqDiff, Nat.reduceLeDiff, Nat.reduceSub, Nat.reduceMul, Int.reduceEq, eq_self, reduceIte, wk]
                          repeat refine ⟨rfl, ?_⟩
                          refine ⟨by simp, m - 1, by omega, k' + 1 + 1, by omega, firstNZ_succ hz hw2, ?_⟩
                          simp [trim_mk, go_sem, Nat.reduceLT, Nat.reduceAdd, Nat.reduceEqDiff, Nat.reduceLeDiff, Nat.reduceSub, Nat.reduceMul, Int.reduceEq, eq_self, reduceIte, subHeap, renObj, pos, List.range_succ, cSi]
                        · have hw2 : siWait r lg ws (k' + 1) = 4 := by rw [hw1, if_pos (by simp [siBad, h4])]
                          simp only [go_sem, Nat.reduceLT, Nat.reduceAdd, Nat.reduceEqDiff, Nat.reduceLeDiff, Nat.reduceSub, Nat.reduceMul, Int.reduceEq, eq_self, reduceIte]
                          repeat refine ⟨rfl, ?_⟩
                          refine ret_pure hx ?_
                          simp [go_sem, Nat.reduceLT, Nat.reduceAdd, Nat.reduceEqDiff, Nat.reduceLeDiff, Nat.reduceSub, Nat.reduceMul, Int.reduceEq, eq_self, reduceIte, L65, R65, fin 4 hw2 (by decide)]
                    · have hw2 : siWait r lg ws (k' + 1) = 4 := by rw [hw1, if_pos (by simp [siBad, hd2])]
                      simp only [go_sem, Nat.reduceLT, Nat.reduceAdd, Nat.reduceEqDiff, Nat.reduceLeDiff, Nat.reduceSub, Nat.reduceMul, Int.reduceEq, eq_self, reduceIte, hd2]
                      repeat refine ⟨rfl, ?_⟩
                      refine ret_pure hx ?_
                      simp [go_sem, Nat.reduceLT, Nat.reduceAdd, Nat.reduceEqDiff, Nat.reduceLeDiff, Nat.reduceSub, Nat.reduceMul, Int.reduceEq, eq_self, reduceIte, L65, R65, fin 4 hw2 (by decide)]
                · have hkz : k = 0 := by omega
                  have hb1 : (decide (0 < k) && !lessB (nth ws (k - 1)).id (nth ws k).id) = false := by simp [hkz]
                  simp only [go_sem, Nat.reduceLT, Nat.reduceAdd, Nat.reduceEqDiff, Nat.reduceLeDiff, Nat.reduceSub, Nat.reduceMul, Int.reduceEq, eq_self, reduceIte, hk0, cE, cSi]
                  cases hd2 : decide ((nth ws (k)).id.r = r)
                  · simp only [go_sem, Nat.reduceLT, Nat.reduceAdd, Nat.reduceEqDiff, Nat.reduceLeDiff, Nat.reduceSub, Nat.reduceMul, Int.reduceEq, eq_self, reduceIte, hd2, cE, cSi]
                    refine ops_call (.pureE (find_meets lg (nth ws (k)).id hl) (by simp [go_sem, Nat.reduceLT, Nat.reduceAdd, Nat.reduceEqDiff, Nat.reduceLeDiff, Nat.reduceSub, Nat.reduceMul, Int.reduceEq, eq_self, reduceIte, cId])) ?_
                    by_cases h3 : 0 ≤ findE lg (nth ws (k)).id
                    · have hw2 : siWait r lg ws (k) = 4 := by rw [hw1, if_pos (by simp [siBad, h3])]
                      simp only [go_sem, Nat.reduceLT, Nat.reduceAdd, Nat.reduceEqDiff, Nat.reduceLeDiff, Nat.reduceSub, Nat.reduceMul, Int.reduceEq, eq_self, reduceIte, h3]
                      repeat refine ⟨rfl, ?_⟩
                      refine ret_pure hx ?_
                      simp [go_sem, Nat.reduceLT, Nat.reduceAdd, Nat.reduceEqDiff, Nat.reduceLeDiff, Nat.reduceSub, Nat.reduceMul, Int.reduceEq, eq_self, reduceIte, L65, R65, fin 4 hw2 (by decide)]
                    · simp only [go_sem, Nat.reduceLT, Nat.reduceAdd, Nat.reduceEqDiff, Nat.reduceLeDiff, Nat.reduceSub, Nat.reduceMul, Int.reduceEq, eq_self, reduceIte, h3, cE, cSi]
                      refine ops_call (.pureE (ready_meets lg (nth ws (k)) hok.reg (by omega) hfit.1 (by have := hfit.2; omega)) (by simp [go_sem, Nat.reduceLT, Nat.reduceAdd, Nat.reduceEqDiff, Nat.reduceLeDiff, Nat.reduceSub, Nat.reduceMul, Int.reduceEq, eq_self, reduceIte, cE])) ?_
                      cases h4 : readyB lg (nth ws (k))
                      · have hw2 : siWait r lg ws (k) = 0 := by rw [hw1, if_neg (by rw [siBad, hb1, hd2, h4]; simp [h3])]
                        simp only [go_sem, Nat.reduceLT, Nat.reduceAdd, Nat.reduceEqDiff, Nat.reduceLeDiff, Nat.reduceSub, Nat.reduceMul, Int.reduceEq, eq_self, reduceIte, wk]
                        repeat refine ⟨rfl, ?_⟩
                        refine ⟨by simp, m - 1, by omega, k + 1, by omega, firstNZ_succ hz hw2, ?_⟩
                        simp [trim_mk, go_sem, Nat.reduceLT, Nat.reduceAdd, Nat.reduceEqDiff, Nat.reduceLeDiff, Nat.reduceSub, Nat.reduceMul, Int.reduceEq, eq_self, reduceIte, subHeap, renObj, pos, List.range_succ, cSi]
                      · have hw2 : siWait r lg ws (k) = 4 := by rw [hw1, if_pos (by simp [siBad, h4])]
                        simp only [go_sem, Nat.reduceLT, Nat.reduceAdd, Nat.reduceEqDiff, Nat.reduceLeDiff, Nat.reduceSub, Nat.reduceMul, Int.reduceEq, eq_self, reduceIte]
                        repeat refine ⟨rfl, ?_⟩
                        refine ret_pure hx ?_
                        simp [go_sem, Nat.reduceLT, Nat.reduceAdd, Nat.reduceEqDiff, Nat.reduceLeDiff, Nat.reduceSub, Nat.reduceMul, Int.reduceEq, eq_self, reduceIte, L65, R65, fin 4 hw2 (by decide)]
                  · have hw2 : siWait r lg ws (k) = 4 := by rw [hw1, if_pos (by simp [siBad, hd2])]
                    simp only [go_sem, Nat.reduceLT, Nat.reduceAdd, Nat.reduceEqDiff, Nat.reduceLeDiff, Nat.reduceSub, Nat.reduceMul, Int.reduceEq, eq_self, reduceIte, hd2]
                    repeat refine ⟨rfl, ?_⟩
                    refine ret_pure hx ?_
                    simp [go_sem, Nat.reduceLT, Nat.reduceAdd, Nat.reduceEqDiff, Nat.reduceLeDiff, Nat.reduceSub, Nat.reduceMul, Int.reduceEq, eq_self, reduceIte, L65, R65, fin 4 hw2 (by decide)]
              · have hw1 : siWait r lg ws k = checkEntry (nth ws k) := by rw [siWait, if_pos h1]
                simp only [go_sem, Nat.reduceLT, Nat.reduceAdd, Nat.reduceEqDiff, Nat.reduceLeDiff, Nat.reduceSub, Nat.reduceMul, Int.reduceEq, eq_self, reduceIte, h1, cE, cSi]
                refine ret_pure hx ?_
                simp [go_sem, Nat.reduceLT, Nat.reduceAdd, Nat.reduceEqDiff, Nat.reduceLeDiff, Nat.reduceSub, Nat.reduceMul, Int.reduceEq, eq_self, reduceIte, L65, R65, fin _ hw1 h1]
            · obtain rfl : k = ws.length := by omega
              simp only [go_sem, Nat.reduceLT, Nat.reduceAdd, Nat.reduceEqDiff, Nat.reduceLeDiff, Nat.reduceSub, Nat.reduceMul, Int.reduceEq, eq_self, reduceIte, hlt]
              refine ret_pure hx ?_
              simp [go_sem, Nat.reduceLT, Nat.reduceAdd, Nat.reduceEqDiff, Nat.reduceLeDiff, Nat.reduceSub, Nat.reduceMul, Int.reduceEq, eq_self, reduceIte, L65, R65, hz]
      · have e : siErr r lg ws = checkLog lg := by rw [siErr, if_neg (by simp [hr]), if_pos hlog]
        simp only [go_sem, Nat.reduceLT, Nat.reduceAdd, Nat.reduceEqDiff, Nat.reduceLeDiff, Nat.reduceSub, Nat.reduceMul, Int.reduceEq, eq_self, reduceIte, hlog]
        refine ret_pure hx ?_
        simp [go_sem, Nat.reduceLT, Nat.reduceAdd, Nat.reduceEqDiff, Nat.reduceLeDiff, Nat.reduceSub, Nat.reduceMul, Int.reduceEq, eq_self, reduceIte, L65, R65, e]
    · have hd1 : decide (r = 1) = false := by simp [h1]
      have e : siErr r lg ws = 3 := by rw [siErr, if_pos (by omega)]
      simp only [go_sem, Nat.reduceLT, Nat.reduceAdd, Nat.reduceEqDiff, Nat.reduceLeDiff, Nat.reduceSub, Nat.reduceMul, Int.reduceEq, eq_self, reduceIte, hd0, hd1, cSi]
      refine ret_pure hx ?_
      simp [go_sem, Nat.reduceLT, Nat.reduceAdd, Nat.reduceEqDiff, Nat.reduceLeDiff, Nat.reduceSub, Nat.reduceMul, Int.reduceEq, eq_self, reduceIte, L65, R65, e]
end Go.Proofs.YtfdolehffjmdmaaGreatDoor
/- Sites: Append: contracts. -/
namespace Go.Proofs.YtfdolehffjmdmaaGreatDoor
set_option linter.unusedSimpArgs false
set_option linter.unusedVariables false
open Go.RowKit
def apE (r : Int) (lg : List Entry) (c : Int) (t : ByteArray) : Entry := ⟨⟨r, (cntR lg r : Int) + 1⟩, c, t, sortI (headsC lg c)⟩
def zE : Entry := ⟨⟨0, 0⟩, 0, ⟨#[]⟩, []⟩
def apErr (r : Int) (lg : List Entry) (c : Int) (t : ByteArray) : Int :=
  if wthn c 1 7 = false then 3 else if 12 < t.size ∨ (20 : Int) < (cntR lg r : Int) + 1 ∨ lg.length = 40 ∨ 6 < (sortI (headsC lg c)).length then 2 else 0
def apSi (r : Int) (lg ws : List Entry) (c : Int) (t : ByteArray) : Int × List Entry × List Entry := if apErr r lg c t = 0 then (r, settled (lg ++ [apE r lg c t]) ws) else (0, [], [])
def apEn (r : Int) (lg : List Entry) (c : Int) (t : ByteArray) : Entry := if apErr r lg c t = 0 then apE r lg c t else zE
def cSi3 (s : Int × List Entry × List Entry) : List PV := cSi s.1 s.2.1 s.2.2
theorem headsC_len (lg : List Entry) (c : Int) : (sortI (headsC lg c)).length ≤ lg.length := by
  unfold sortI headsC
  rw [List.length_mergeSort, List.length_map]
  refine Nat.le_trans (List.length_filter_le ..) ?_
  unfold withC
  exact List.length_filter_le ..
theorem ap_fit {r : Int} {lg : List Entry} {c : Int} {t : ByteArray} (hr : r = 0 ∨ r = 1) (h : lg.length ≤ 40) : ((apE r lg c t).id.r = 0 ∨ (apE r lg c t).id.r = 1) ∧ (apE r lg c t).ls.length ≤ 1000000 := by
  have := headsC_len lg c
  exact ⟨hr, by show (sortI (headsC lg c)).length ≤ _; omega⟩
set_option maxHeartbeats 4000000 in
theorem appended_meets (r : Int) (lg ws : List Entry) (c : Int) (t : ByteArray) (hr : r = 0 ∨ r = 1) (h : LogOk lg) (hw : ws.length ≤ 20) (hf : fitE ws) :
    Meets Tryz.prog 66 [.agg (cSi r lg ws), .int .i64 c, .str t] [] (.tup [.agg (cSi3 (apSi r lg ws c t)), .agg (cE (apEn r lg c t)), .int .i64 (apErr r lg c t)]) [] := by
  have hlen := h.len
  refine Meets.of_walk Tryz.func66 Tryz.ntmps66 low66 res66 (by simp) fun x hx => ?_
  simp only [go_sem, Nat.reduceLT, Nat.reduceAdd, Nat.reduceEqDiff, Nat.reduceLeDiff, Nat.reduceSub, Nat.reduceMul, Int.reduceEq, eq_self, reduceIte, L66, R66, cSi]
  refine ops_call (.pureE (colors_meets c) (by simp [go_sem, Nat.reduceLT, Nat.reduceAdd, Nat.reduceEqDiff, Nat.reduceLeDiff, Nat.reduceSub, Nat.reduceMul, Int.reduceEq, eq_self, reduceIte])) ?_
  cases hc : wthn c 1 7
  · have e : apErr r lg c t = 3 := by rw [apErr, if_pos hc]
    simp only [go_sem, Nat.reduceLT, Nat.reduceAdd, Nat.reduceEqDiff, Nat.reduceLeDiff, Nat.reduceSub, Nat.reduceMul, Int.reduceEq, eq_self, reduceIte]
    refine ret_pure hx ?_
    simp [go_sem, Nat.reduceLT, Nat.reduceAdd, Nat.reduceEqDiff, Nat.reduceLeDiff, Nat.reduceSub, Nat.reduceMul, Int.reduceEq, eq_self, reduceIte, L66, R66, apSi, apEn, e, cSi3, cSi, cE, zE]
  · have e0 : apErr r lg c t = if 12 < t.size ∨ (20 : Int) < (cntR lg r : Int) + 1 ∨ lg.length = 40 ∨ 6 < (sortI (headsC lg c)).length then 2 else 0 := by rw [apErr, if_neg (by simp [hc])]
    rcases hr with rfl | rfl
    · skip
      have hcn : IntKind.i64.wrap ((cntR lg 0 : Int) + 1) = (cntR lg 0 : Int) + 1 := by have := cntR_le lg 0; rw [IntWalk.i64_in _ (by omega)]
      simp only [go_sem, Nat.reduceLT, Nat.reduceAdd, Nat.reduceEqDiff, Nat.reduceLeDiff, Nat.reduceSub, Nat.reduceMul, Int.reduceEq, eq_self, reduceIte, cSi]
      refine ops_call (.pureE (many_meets lg h.reg (by omega)) (by simp [go_sem, Nat.reduceLT, Nat.reduceAdd, Nat.reduceEqDiff, Nat.reduceLeDiff, Nat.reduceSub, Nat.reduceMul, Int.reduceEq, eq_self, reduceIte])) ?_
      simp only [go_sem, Nat.reduceLT, Nat.reduceAdd, Nat.reduceEqDiff, Nat.reduceLeDiff, Nat.reduceSub, Nat.reduceMul, Int.reduceEq, eq_self, reduceIte, cSi, Int.ofNat_zero, Int.natCast_one, Int.cast_ofNat_Int, Int.reduceLT, Int.reduceLE, Int.reduceToNat, Nat.reduceLT, Int.toNat_zero, Int.natCast_zero, Int.le_refl, Int.lt_irrefl, Int.reduceAdd, frz, false_or, or_true, hcn]
      repeat refine ⟨rfl, ?_⟩
      refine ops_call (.pureE (top_meets lg c h hc) (by simp [go_sem, Nat.reduceLT, Nat.reduceAdd, Nat.reduceEqDiff, Nat.reduceLeDiff, Nat.reduceSub, Nat.reduceMul, Int.reduceEq, eq_self, reduceIte])) ?_
      simp only [go_sem, Nat.reduceLT, Nat.reduceAdd, Nat.reduceEqDiff, Nat.reduceLeDiff, Nat.reduceSub, Nat.reduceMul, Int.reduceEq, eq_self, reduceIte, cSi]
      repeat refine ⟨rfl, ?_⟩
      by_cases d1 : (12 : Int) < (t.size : Int)
      · have e : apErr 0 lg c t = 2 := by rw [e0, if_pos (by omega)]
        simp only [go_sem, Nat.reduceLT, Nat.reduceAdd, Nat.reduceEqDiff, Nat.reduceLeDiff, Nat.reduceSub, Nat.reduceMul, Int.reduceEq, eq_self, reduceIte, d1]
        refine ret_pure hx ?_
        simp [go_sem, Nat.reduceLT, Nat.reduceAdd, Nat.reduceEqDiff, Nat.reduceLeDiff, Nat.reduceSub, Nat.reduceMul, Int.reduceEq, eq_self, reduceIte, L66, R66, apSi, apEn, e, cSi3, cSi, cE, zE]
      · by_cases d2 : (20 : Int) < (cntR lg 0 : Int) + 1
        · have e : apErr 0 lg c t = 2 := by rw [e0, if_pos (by omega)]
          simp only [go_sem, Nat.reduceLT, Nat.reduceAdd, Nat.reduceEqDiff, Nat.reduceLeDiff, Nat.reduceSub, Nat.reduceMul, Int.reduceEq, eq_self, reduceIte, d1, d2]
          refine ret_pure hx ?_
          simp [go_sem, Nat.reduceLT, Nat.reduceAdd, Nat.reduceEqDiff, Nat.reduceLeDiff, Nat.reduceSub, Nat.reduceMul, Int.reduceEq, eq_self, reduceIte, L66, R66, apSi, apEn, e, cSi3, cSi, cE, zE]
        · by_cases d3 : (lg.length : Int) = 40
          · have e : apErr 0 lg c t = 2 := by rw [e0, if_pos (by omega)]
            simp only [go_sem, Nat.reduceLT, Nat.reduceAdd, Nat.reduceEqDiff, Nat.reduceLeDiff, Nat.reduceSub, Nat.reduceMul, Int.reduceEq, eq_self, reduceIte, d1, d2, d3, cSi]
            refine ret_pure hx ?_
            simp [go_sem, Nat.reduceLT, Nat.reduceAdd, Nat.reduceEqDiff, Nat.reduceLeDiff, Nat.reduceSub, Nat.reduceMul, Int.reduceEq, eq_self, reduceIte, L66, R66, apSi, apEn, e, cSi3, cSi, cE, zE]
          · by_cases d4 : (6 : Int) < ((sortI (headsC lg c)).length : Int)
            · have e : apErr 0 lg c t = 2 := by rw [e0, if_pos (by omega)]
              simp only [go_sem, Nat.reduceLT, Nat.reduceAdd, Nat.reduceEqDiff, Nat.reduceLeDiff, Nat.reduceSub, Nat.reduceMul, Int.reduceEq, eq_self, reduceIte, d1, d2, d3, d4, cSi]
              refine ret_pure hx ?_
              simp [go_sem, Nat.reduceLT, Nat.reduceAdd, Nat.reduceEqDiff, Nat.reduceLeDiff, Nat.reduceSub, Nat.reduceMul, Int.reduceEq, eq_self, reduceIte, L66, R66, apSi, apEn, e, cSi3, cSi, cE, zE]
            · have e : apErr 0 lg c t = 0 := by rw [e0, if_neg (by omega)]
              have hfl := log_fit h
              have hae : fitE (lg ++ [apE 0 lg c t]) := fit_app hfl (ap_fit (by decide) hlen)
              have hsl := settled_sum (lg ++ [apE 0 lg c t]) ws
              rw [List.length_append, List.length_cons, List.length_nil] at hsl
              simp only [go_sem, Nat.reduceLT, Nat.reduceAdd, Nat.reduceEqDiff, Nat.reduceLeDiff, Nat.reduceSub, Nat.reduceMul, Int.reduceEq, eq_self, reduceIte, d1, d2, d3, d4, cSi]
              refine ops_call (.heapE [] (r' := .agg [.int .i64 0, .arr 4 lg.length, .arr 5 ws.length]) (H' := [.box (cSi 0 lg ws), .box [.int .i64 0, .nilsl, .nilsl], .box [.int .i64 0, .int .i64 0, .int .i64 0, .str ⟨#[]⟩, .nilsl], .box (cE (apE 0 lg c t)), .arr lg.length true false 46 5 (lg.map cE), .arr ws.length true false 46 5 (ws.map cE)]) (siOwn_meets 0 lg ws (by omega) (by omega) hfl hf) (by simp) (by simp) (by simp [go_sem, Nat.reduceLT, Nat.reduceAdd, Nat.reduceEqDiff, Nat.reduceLeDiff, Nat.reduceSub, Nat.reduceMul, Int.reduceEq, eq_self, reduceIte, cSi]) rfl rfl rfl) ?_
              simp only [go_sem, Nat.reduceLT, Nat.reduceAdd, Nat.reduceEqDiff, Nat.reduceLeDiff, Nat.reduceSub, Nat.reduceMul, Int.reduceEq, eq_self, reduceIte, cSi, cE]
              rw [app_arr rfl rfl (by simp) (by simp; omega)]
              have hce : List.map cE lg ++ [[PV.int .i64 (apE 0 lg c t).id.r, .int .i64 (apE 0 lg c t).id.n, .int .i64 (apE 0 lg c t).c, .str (apE 0 lg c t).t, .list ((apE 0 lg c t).ls.map cId)]] = (lg ++ [apE 0 lg c t]).map cE := by simp [cE]
              simp only [go_sem, Nat.reduceLT, Nat.reduceAdd, Nat.reduceEqDiff, Nat.reduceLeDiff, Nat.reduceSub, Nat.reduceMul, Int.reduceEq, eq_self, reduceIte, hce]
              repeat refine ⟨rfl, ?_⟩
              have hst := settle_meets (lg.length + 1) ws.length 0 (lg ++ [apE 0 lg c t]) ws (by simp; omega) hae hf
              generalize ws.length - (settled (lg ++ [apE 0 lg c t]) ws).2.length = k at hst
              refine ops_call (.heapE [6, 4, 5] (r' := .tup []) (H' := [.box (cSi 0 lg ws), .box [.int .i64 0, .nilsl, .nilsl], .box [.int .i64 0, .int .i64 0, .int .i64 0, .str ⟨#[]⟩, .nilsl], .box (cE (apE 0 lg c t)), .arr (lg.length + 1 + k) true false 46 5 ((settled (lg ++ [apE 0 lg c t]) ws).1.map cE), .arr (ws.length + k) true false 46 5 ((settled (lg ++ [apE 0 lg c t]) ws).2.map cE), .box [.int .i64 0, .arr 4 (lg.length + 1 + k), .arr 5 (ws.length + k)]]) hst (by decide) (by simp) (by simp [go_sem, Nat.reduceLT, Nat.reduceAdd, Nat.reduceEqDiff, Nat.reduceLeDiff, Nat.reduceSub, Nat.reduceMul, Int.reduceEq, eq_self, reduceIte, pos]) rfl rfl rfl) ?_
              simp only [go_sem, Nat.reduceLT, Nat.reduceAdd, Nat.reduceEqDiff, Nat.reduceLeDiff, Nat.reduceSub, Nat.reduceMul, Int.reduceEq, eq_self, reduceIte, cSi, cE]
              refine ops_call (.pureE (entOwn_meets (apE 0 lg c t) (ap_fit (by decide) hlen).2) (by simp [go_sem, Nat.reduceLT, Nat.reduceAdd, Nat.reduceEqDiff, Nat.reduceLeDiff, Nat.reduceSub, Nat.reduceMul, Int.reduceEq, eq_self, reduceIte, cE])) ?_
              simp only [go_sem, Nat.reduceLT, Nat.reduceAdd, Nat.reduceEqDiff, Nat.reduceLeDiff, Nat.reduceSub, Nat.reduceMul, Int.reduceEq, eq_self, reduceIte, cSi, cE]
              repeat refine ⟨rfl, ?_⟩
              refine ret_pure hx ?_
              simp [go_sem, Nat.reduceLT, Nat.reduceAdd, Nat.reduceEqDiff, Nat.reduceLeDiff, Nat.reduceSub, Nat.reduceMul, Int.reduceEq, eq_self, reduceIte, L66, R66, apSi, apEn, e, cSi3, cSi, cE, frzAt, pos]
    · skip
      have hcn : IntKind.i64.wrap ((cntR lg 1 : Int) + 1) = (cntR lg 1 : Int) + 1 := by have := cntR_le lg 1; rw [IntWalk.i64_in _ (by omega)]
      simp only [go_sem, Nat.reduceLT, Nat.reduceAdd, Nat.reduceEqDiff, Nat.reduceLeDiff, Nat.reduceSub, Nat.reduceMul, Int.reduceEq, eq_self, reduceIte, cSi]
      refine ops_call (.pureE (many_meets lg h.reg (by omega)) (by simp [go_sem, Nat.reduceLT, Nat.reduceAdd, Nat.reduceEqDiff, Nat.reduceLeDiff, Nat.reduceSub, Nat.reduceMul, Int.reduceEq, eq_self, reduceIte])) ?_
      simp only [go_sem, Nat.reduceLT, Nat.reduceAdd, Nat.reduceEqDiff, Nat.reduceLeDiff, Nat.reduceSub, Nat.reduceMul, Int.reduceEq, eq_self, reduceIte, cSi, Int.ofNat_zero, Int.natCast_one, Int.cast_ofNat_Int, Int.reduceLT, Int.reduceLE, Int.reduceToNat, Nat.reduceLT, Int.toNat_zero, Int.natCast_zero, Int.le_refl, Int.lt_irrefl, Int.reduceAdd, frz, false_or, or_true, hcn]
      repeat refine ⟨rfl, ?_⟩
      refine ops_call (.pureE (top_meets lg c h hc) (by simp [go_sem, Nat.reduceLT, Nat.reduceAdd, Nat.reduceEqDiff, Nat.reduceLeDiff, Nat.reduceSub, Nat.reduceMul, Int.reduceEq, eq_self, reduceIte])) ?_
      simp only [go_sem, Nat.reduceLT, Nat.reduceAdd, Nat.reduceEqDiff, Nat.reduceLeDiff, Nat.reduceSub, Nat.reduceMul, Int.reduceEq, eq_self, reduceIte, cSi]
      repeat refine ⟨rfl, ?_⟩
      by_cases d1 : (12 : Int) < (t.size : Int)
      · have e : apErr 1 lg c t = 2 := by rw [e0, if_pos (by omega)]
        simp only [go_sem, Nat.reduceLT, Nat.reduceAdd, Nat.reduceEqDiff, Nat.reduceLeDiff, Nat.reduceSub, Nat.reduceMul, Int.reduceEq, eq_self, reduceIte, d1]
        refine ret_pure hx ?_
        simp [go_sem, Nat.reduceLT, Nat.reduceAdd, Nat.reduceEqDiff, Nat.reduceLeDiff, Nat.reduceSub, Nat.reduceMul, Int.reduceEq, eq_self, reduceIte, L66, R66, apSi, apEn, e, cSi3, cSi, cE, zE]
      · by_cases d2 : (20 : Int) < (cntR lg 1 : Int) + 1
        · have e : apErr 1 lg c t = 2 := by rw [e0, if_pos (by omega)]
          simp only [go_sem, Nat.reduceLT, Nat.reduceAdd, Nat.reduceEqDiff, Nat.reduceLeDiff, Nat.reduceSub, Nat.reduceMul, Int.reduceEq, eq_self, reduceIte, d1, d2]
          refine ret_pure hx ?_
          simp [go_sem, Nat.reduceLT, Nat.reduceAdd, Nat.reduceEqDiff, Nat.reduceLeDiff, Nat.reduceSub, Nat.reduceMul, Int.reduceEq, eq_self, reduceIte, L66, R66, apSi, apEn, e, cSi3, cSi, cE, zE]
        · by_cases d3 : (lg.length : Int) = 40
          · have e : apErr 1 lg c t = 2 := by rw [e0, if_pos (by omega)]
            simp only [go_sem, Nat.reduceLT, Nat.reduceAdd, Nat.reduceEqDiff, Nat.reduceLeDiff, Nat.reduceSub, Nat.reduceMul, Int.reduceEq, eq_self, reduceIte, d1, d2, d3, cSi]
            refine ret_pure hx ?_
            simp [go_sem, Nat.reduceLT, Nat.reduceAdd, Nat.reduceEqDiff, Nat.reduceLeDiff, Nat.reduceSub, Nat.reduceMul, Int.reduceEq, eq_self, reduceIte, L66, R66, apSi, apEn, e, cSi3, cSi, cE, zE]
          · by_cases d4 : (6 : Int) < ((sortI (headsC lg c)).length : Int)
            · have e : apErr 1 lg c t = 2 := by rw [e0, if_pos (by omega)]
              simp only [go_sem, Nat.reduceLT, Nat.reduceAdd, Nat.reduceEqDiff, Nat.reduceLeDiff, Nat.reduceSub, Nat.reduceMul, Int.reduceEq, eq_self, reduceIte, d1, d2, d3, d4, cSi]
              refine ret_pure hx ?_
              simp [go_sem, Nat.reduceLT, Nat.reduceAdd, Nat.reduceEqDiff, Nat.reduceLeDiff, Nat.reduceSub, Nat.reduceMul, Int.reduceEq, eq_self, reduceIte, L66, R66, apSi, apEn, e, cSi3, cSi, cE, zE]
            · have e : apErr 1 lg c t = 0 := by rw [e0, if_neg (by omega)]
              have hfl := log_fit h
              have hae : fitE (lg ++ [apE 1 lg c t]) := fit_app hfl (ap_fit (by decide) hlen)
              have hsl := settled_sum (lg ++ [apE 1 lg c t]) ws
              rw [List.length_append, List.length_cons, List.length_nil] at hsl
              simp only [go_sem, Nat.reduceLT, Nat.reduceAdd, Nat.reduceEqDiff, Nat.reduceLeDiff, Nat.reduceSub, Nat.reduceMul, Int.reduceEq, eq_self, reduceIte, d1, d2, d3, d4, cSi]
              refine ops_call (.heapE [] (r' := .agg [.int .i64 1, .arr 4 lg.length, .arr 5 ws.length]) (H' := [.box (cSi 1 lg ws), .box [.int .i64 0, .nilsl, .nilsl], .box [.int .i64 0, .int .i64 0, .int .i64 0, .str ⟨#[]⟩, .nilsl], .box (cE (apE 1 lg c t)), .arr lg.length true false 46 5 (lg.map cE), .arr ws.length true false 46 5 (ws.map cE)]) (siOwn_meets 1 lg ws (by omega) (by omega) hfl hf) (by simp) (by simp) (by simp [go_sem, Nat.reduceLT, Nat.reduceAdd, Nat.reduceEqDiff, Nat.reduceLeDiff, Nat.reduceSub, Nat.reduceMul, Int.reduceEq, eq_self, reduceIte, cSi]) rfl rfl rfl) ?_
              simp only [go_sem, Nat.reduceLT, Nat.reduceAdd, Nat.reduceEqDiff, Nat.reduceLeDiff, Nat.reduceSub, Nat.reduceMul, Int.reduceEq, eq_self, reduceIte, cSi, cE]
              rw [app_arr rfl rfl (by simp) (by simp; omega)]
              have hce : List.map cE lg ++ [[PV.int .i64 (apE 1 lg c t).id.r, .int .i64 (apE 1 lg c t).id.n, .int .i64 (apE 1 lg c t).c, .str (apE 1 lg c t).t, .list ((apE 1 lg c t).ls.map cId)]] = (lg ++ [apE 1 lg c t]).map cE := by simp [cE]
              simp only [go_sem, Nat.reduceLT, Nat.reduceAdd, Nat.reduceEqDiff, Nat.reduceLeDiff, Nat.reduceSub, Nat.reduceMul, Int.reduceEq, eq_self, reduceIte, hce]
              repeat refine ⟨rfl, ?_⟩
              have hst := settle_meets (lg.length + 1) ws.length 1 (lg ++ [apE 1 lg c t]) ws (by simp; omega) hae hf
              generalize ws.length - (settled (lg ++ [apE 1 lg c t]) ws).2.length = k at hst
              refine ops_call (.heapE [6, 4, 5] (r' := .tup []) (H' := [.box (cSi 1 lg ws), .box [.int .i64 0, .nilsl, .nilsl], .box [.int .i64 0, .int .i64 0, .int .i64 0, .str ⟨#[]⟩, .nilsl], .box (cE (apE 1 lg c t)), .arr (lg.length + 1 + k) true false 46 5 ((settled (lg ++ [apE 1 lg c t]) ws).1.map cE), .arr (ws.length + k) true false 46 5 ((settled (lg ++ [apE 1 lg c t]) ws).2.map cE), .box [.int .i64 1, .arr 4 (lg.length + 1 + k), .arr 5 (ws.length + k)]]) hst (by decide) (by simp) (by simp [go_sem, Nat.reduceLT, Nat.reduceAdd, Nat.reduceEqDiff, Nat.reduceLeDiff, Nat.reduceSub, Nat.reduceMul, Int.reduceEq, eq_self, reduceIte, pos]) rfl rfl rfl) ?_
              simp only [go_sem, Nat.reduceLT, Nat.reduceAdd, Nat.reduceEqDiff, Nat.reduceLeDiff, Nat.reduceSub, Nat.reduceMul, Int.reduceEq, eq_self, reduceIte, cSi, cE]
              refine ops_call (.pureE (entOwn_meets (apE 1 lg c t) (ap_fit (by decide) hlen).2) (by simp [go_sem, Nat.reduceLT, Nat.reduceAdd, Nat.reduceEqDiff, Nat.reduceLeDiff, Nat.reduceSub, Nat.reduceMul, Int.reduceEq, eq_self, reduceIte, cE])) ?_
              simp only [go_sem, Nat.reduceLT, Nat.reduceAdd, Nat.reduceEqDiff, Nat.reduceLeDiff, Nat.reduceSub, Nat.reduceMul, Int.reduceEq, eq_self, reduceIte, cSi, cE]
              repeat refine ⟨rfl, ?_⟩
              refine ret_pure hx ?_
              simp [go_sem, Nat.reduceLT, Nat.reduceAdd, Nat.reduceEqDiff, Nat.reduceLeDiff, Nat.reduceSub, Nat.reduceMul, Int.reduceEq, eq_self, reduceIte, L66, R66, apSi, apEn, e, cSi3, cSi, cE, frzAt, pos]
def apErrX (r : Int) (lg ws : List Entry) (c : Int) (t : ByteArray) : Int := if siErr r lg ws ≠ 0 then siErr r lg ws else apErr r lg c t
def apSiX (r : Int) (lg ws : List Entry) (c : Int) (t : ByteArray) : Int × List Entry × List Entry := if siErr r lg ws ≠ 0 then (0, [], []) else apSi r lg ws c t
def apEnX (r : Int) (lg ws : List Entry) (c : Int) (t : ByteArray) : Entry := if siErr r lg ws ≠ 0 then zE else apEn r lg c t
theorem siAppend_meets (r : Int) (lg ws : List Entry) (c : Int) (t : ByteArray) (hl : lg.length ≤ 9223372036854775806) (hw : ws.length ≤ 9223372036854775806) :
    Meets Tryz.prog 23 [.agg (cSi r lg ws), .int .i64 c, .str t] [] (.tup [.agg (cSi3 (apSiX r lg ws c t)), .agg (cE (apEnX r lg ws c t)), .int .i64 (apErrX r lg ws c t)]) [] := by
  refine Meets.of_walk Tryz.func23 Tryz.ntmps23 low23 res23 (by simp) fun x hx => ?_
  simp only [go_sem, Nat.reduceLT, Nat.reduceAdd, Nat.reduceEqDiff, Nat.reduceLeDiff, Nat.reduceSub, Nat.reduceMul, Int.reduceEq, eq_self, reduceIte, L23, R23, cSi]
  refine ops_call (.pureE (siCheck_meets r lg ws hl hw) (by simp [go_sem, Nat.reduceLT, Nat.reduceAdd, Nat.reduceEqDiff, Nat.reduceLeDiff, Nat.reduceSub, Nat.reduceMul, Int.reduceEq, eq_self, reduceIte, cSi])) ?_
  by_cases h0 : siErr r lg ws = 0
  · obtain ⟨hr, hok, hw20, hch⟩ := siErr_ok h0
    simp only [go_sem, Nat.reduceLT, Nat.reduceAdd, Nat.reduceEqDiff, Nat.reduceLeDiff, Nat.reduceSub, Nat.reduceMul, Int.reduceEq, eq_self, reduceIte, h0, cSi]
    refine ops_call (.pureE (appended_meets r lg ws c t hr hok hw20 (waits_fit fun k hk => (hch k hk).1)) (by simp [go_sem, Nat.reduceLT, Nat.reduceAdd, Nat.reduceEqDiff, Nat.reduceLeDiff, Nat.reduceSub, Nat.reduceMul, Int.reduceEq, eq_self, reduceIte, cSi])) ?_
    simp only [go_sem, Nat.reduceLT, Nat.reduceAdd, Nat.reduceEqDiff, Nat.reduceLeDiff, Nat.reduceSub, Nat.reduceMul, Int.reduceEq, eq_self, reduceIte, cSi3, cSi, cE]
    refine ret_pure hx ?_
    simp [go_sem, Nat.reduceLT, Nat.reduceAdd, Nat.reduceEqDiff, Nat.reduceLeDiff, Nat.reduceSub, Nat.reduceMul, Int.reduceEq, eq_self, reduceIte, L23, R23, apSiX, apEnX, apErrX, h0, cSi3, cSi, cE]
  · simp only [go_sem, Nat.reduceLT, Nat.reduceAdd, Nat.reduceEqDiff, Nat.reduceLeDiff, Nat.reduceSub, Nat.reduceMul, Int.reduceEq, eq_self, reduceIte, h0, cSi]
    refine ret_pure hx ?_
    simp [go_sem, Nat.reduceLT, Nat.reduceAdd, Nat.reduceEqDiff, Nat.reduceLeDiff, Nat.reduceSub, Nat.reduceMul, Int.reduceEq, eq_self, reduceIte, L23, R23, apSiX, apEnX, apErrX, h0, cSi3, cSi, cE, zE]
end Go.Proofs.YtfdolehffjmdmaaGreatDoor
/- Sites: Receive: contracts. -/
namespace Go.Proofs.YtfdolehffjmdmaaGreatDoor
set_option linter.unusedSimpArgs false
set_option linter.unusedVariables false
open Go.RowKit
theorem lessB_irr (a : Id) : lessB a a = false := by simp [lessB]
def upE (ws : List Entry) : Prop := ∀ i j, i < j → j < ws.length → lessB (nth ws i).id (nth ws j).id = true
theorem upE_of {ws : List Entry} (h : ∀ k, k + 1 < ws.length → lessB (nth ws k).id (nth ws (k + 1)).id = true) : upE ws := by
  intro i j hij hj
  have key : ∀ d, i + d + 1 < ws.length → lessB (nth ws i).id (nth ws (i + d + 1)).id = true := by
    intro d
    induction d with
    | zero => intro hd; exact h i hd
    | succ d ih => intro hd; exact lessB_trans (ih (by omega)) (h (i + d + 1) hd)
  have := key (j - i - 1) (by omega)
  rwa [show i + (j - i - 1) + 1 = j by omega] at this
theorem siErr_up {r : Int} {lg ws : List Entry} (h : siErr r lg ws = 0) : upE ws := by
  obtain ⟨-, -, -, hc⟩ := siErr_ok h
  refine upE_of fun k hk => ?_
  have := (hc (k + 1) hk).2
  unfold siBad at this
  simp only [Bool.or_eq_false_iff, Nat.add_sub_cancel] at this
  have h2 := this.1.1.1
  simpa using h2
def posE (l : List Entry) (y : Id) : Nat := l.countP fun e => lessB e.id y
def foundE (l : List Entry) (y : Id) : Bool := l.any fun e => decide (e.id = y)
theorem posE_at {l : List Entry} {y : Id} {i : Nat} (hi : i ≤ l.length) (h1 : ∀ k, k < i → lessB (nth l k).id y = true) (h2 : ∀ k, i ≤ k → k < l.length → lessB (nth l k).id y = false) : posE l y = i := by
  unfold posE
  conv => lhs; rw [← List.take_append_drop i l]
  rw [List.countP_append]
  have a : (l.take i).countP (fun e => lessB e.id y) = (l.take i).length := by
    rw [List.countP_eq_length]
    intro w hw
    obtain ⟨k, hk, rfl⟩ := List.getElem_of_mem hw
    rw [List.length_take] at hk
    have := h1 k (by omega)
    rw [nth_eq _ _ (by omega)] at this
    simpa using this
  have b : (l.drop i).countP (fun e => lessB e.id y) = 0 := by
    rw [List.countP_eq_zero]
    intro w hw
    obtain ⟨k, hk, rfl⟩ := List.getElem_of_mem hw
    rw [List.length_drop] at hk
    have := h2 (i + k) (by omega) (by omega)
    rw [nth_eq _ _ (by omega)] at this
    simpa using this
  rw [a, b, List.length_take]; omega
theorem foundE_at {l : List Entry} {y : Id} (hu : upE l) {i : Nat} (hi : i ≤ l.length) (h1 : ∀ k, k < i → lessB (nth l k).id y = true) (h2 : ∀ k, i ≤ k → k < l.length → lessB (nth l k).id y = false) : foundE l y = decide (i < l.length ∧ (nth l i).id = y) := by
  rw [Bool.eq_iff_iff, decide_eq_true_eq]
  unfold foundE
  rw [List.any_eq_true]
  constructor
  · rintro ⟨w, hw, hn⟩
    obtain ⟨k, hk, rfl⟩ := List.getElem_of_mem hw
    rw [← nth_eq _ _ hk, decide_eq_true_eq] at hn
    by_cases h : k < i
    · have := h1 k h; rw [hn, lessB_irr] at this; cases this
    · by_cases e : k = i
      · subst e; exact ⟨hk, hn⟩
      · have a := hu i k (by omega) hk
        have b := h2 i (Nat.le_refl _) (by omega)
        rw [hn] at a; rw [a] at b; cases b
  · rintro ⟨a, b⟩
    exact ⟨_, nthM a, by simpa using b⟩
theorem posE_le (l : List Entry) (y : Id) : posE l y ≤ l.length := by unfold posE; exact List.countP_le_length
theorem ordI_zero {a b : Id} : ordI a b = 0 ↔ a = b := by
  cases a; cases b
  simp only [ordI, cmpI, Id.mk.injEq]
  repeat' split
  all_goals omega
theorem raw1_meets (e : Entry) (y : Id) : Meets Tryz.prog 143 [.agg (cE e), .agg (cId y)] [] (.int .i64 (ordI e.id y)) [] := by
  refine Meets.of_walk Tryz.func143 Tryz.ntmps143 low143 res143 (by simp) fun x hx => ?_
  simp only [go_sem, Nat.reduceLT, Nat.reduceAdd, Nat.reduceEqDiff, Nat.reduceLeDiff, Nat.reduceSub, Nat.reduceMul, Int.reduceEq, eq_self, reduceIte, L143, R143, cE, cId]
  refine ops_call (.pureE (order_meets e.id y) (by simp [go_sem, Nat.reduceLT, Nat.reduceAdd, Nat.reduceEqDiff, Nat.reduceLeDiff, Nat.reduceSub, Nat.reduceMul, Int.reduceEq, eq_self, reduceIte, cId])) ?_
  simp only [go_sem, Nat.reduceLT, Nat.reduceAdd, Nat.reduceEqDiff, Nat.reduceLeDiff, Nat.reduceSub, Nat.reduceMul, Int.reduceEq, eq_self, reduceIte]
  refine ret_pure hx ?_
  simp [go_sem, Nat.reduceLT, Nat.reduceAdd, Nat.reduceEqDiff, Nat.reduceLeDiff, Nat.reduceSub, Nat.reduceMul, Int.reduceEq, eq_self, reduceIte, L143, R143]
set_option maxHeartbeats 1000000 in
theorem bsE_meets (l : List Entry) (y : Id) (hu : upE l) (hl : l.length ≤ 4611686018427387904) :
    Meets Tryz.prog 142 [.list (l.map cE), .agg (cId y), .clo 143 []] [] (.tup [.int .i64 (posE l y), .bool (foundE l y)]) [] := by
  refine Meets.of_walk Tryz.func142 Tryz.ntmps142 low142 res142 (by simp) fun x hx => ?_
  simp only [go_sem, Nat.reduceLT, Nat.reduceAdd, Nat.reduceEqDiff, Nat.reduceLeDiff, Nat.reduceSub, Nat.reduceMul, Int.reduceEq, eq_self, reduceIte, L142, R142]
  refine loop_inv [0, 2, 4, 8, 9, 10] 1 (fun g st => ∃ i j : Nat, i ≤ j ∧ j ≤ l.length ∧ j - i = g ∧ (∀ k, k < i → lessB (nth l k).id y = true) ∧ (∀ k, j ≤ k → k < l.length → lessB (nth l k).id y = false) ∧
    st = ⟨mkE .top [(0, .list (l.map cE)), (2, .clo 143 []), (4, .ptr 0 0), (8, .int .i64 l.length), (9, .int .i64 i), (10, .int .i64 j)], [.box (cId y)]⟩) l.length (by simp [hx]) (by simp) ?_ ?_
  · refine ⟨0, l.length, by omega, by omega, by omega, fun k h => by omega, fun k h1 h2 => by omega, ?_⟩
    simp [trim_mk, go_sem, Nat.reduceLT, Nat.reduceAdd, Nat.reduceEqDiff, Nat.reduceLeDiff, Nat.reduceSub, Nat.reduceMul, Int.reduceEq, eq_self, reduceIte, subHeap, renObj, pos, List.range_succ, cId]
  · rintro g st ⟨i, j, hij, hj, hg, hlo, hhi, rfl⟩
    by_cases hlt : i < j
    · have w1 : IntKind.i64.wrap ((i : Int) + (j : Int)) = ((i + j : Nat) : Int) := by rw [IntKind.wrap_i64]; omega
      obtain ⟨h, hh⟩ : ∃ h, h = (i + j) / 2 := ⟨_, rfl⟩
      have hgt : l[h]? = some (nth l h) := nth_get? _ _ (by omega)
      have hhl : h < l.length := by omega
      have w2 : IntKind.u64.wrap ((i + j : Nat) : Int) = ((i + j : Nat) : Int) := by rw [IntKind.wrap_u64]; omega
      have w3 : ((i + j : Nat) : Int).fdiv (2 ^ min (Int.toNat 1) 64) = (h : Int) := by
        show Int.fdiv _ 2 = _
        rw [Int.fdiv_eq_ediv_of_nonneg _ (by omega)]; omega
      have w4 : IntKind.i64.wrap (h : Int) = (h : Int) := by rw [IntKind.wrap_i64]; omega
      have w5 := i64_up (k := h) (by omega)
      simp only [go_sem, Nat.reduceLT, Nat.reduceAdd, Nat.reduceEqDiff, Nat.reduceLeDiff, Nat.reduceSub, Nat.reduceMul, Int.reduceEq, eq_self, reduceIte, hlt, w1, w2, w3, w4, Int.reduceLE, hgt, hhl, cE, cId]
      refine ops_callv rfl (by kernel_rfl) (.pureE (raw1_meets (nth l h) y) (by simp [go_sem, Nat.reduceLT, Nat.reduceAdd, Nat.reduceEqDiff, Nat.reduceLeDiff, Nat.reduceSub, Nat.reduceMul, Int.reduceEq, eq_self, reduceIte, cE, cId])) ?_
      by_cases hc : lessB (nth l h).id y = true
      · have e : ordI (nth l h).id y < 0 := ordI_lt.2 hc
        simp only [go_sem, Nat.reduceLT, Nat.reduceAdd, Nat.reduceEqDiff, Nat.reduceLeDiff, Nat.reduceSub, Nat.reduceMul, Int.reduceEq, eq_self, reduceIte, e, w5]
        refine ⟨by simp, j - (h + 1), by omega, h + 1, j, by omega, hj, rfl, fun k hk => ?_, hhi, ?_⟩
        · by_cases ek : k = h
          · rw [ek]; exact hc
          · exact lessB_trans (hu k h (by omega) (by omega)) hc
        · simp [trim_mk, go_sem, Nat.reduceLT, Nat.reduceAdd, Nat.reduceEqDiff, Nat.reduceLeDiff, Nat.reduceSub, Nat.reduceMul, Int.reduceEq, eq_self, reduceIte, subHeap, renObj, pos, List.range_succ, cId]
      · have e : ¬ ordI (nth l h).id y < 0 := fun q => hc (ordI_lt.1 q)
        simp only [go_sem, Nat.reduceLT, Nat.reduceAdd, Nat.reduceEqDiff, Nat.reduceLeDiff, Nat.reduceSub, Nat.reduceMul, Int.reduceEq, eq_self, reduceIte, e]
        refine ⟨by simp, h - i, by omega, i, h, by omega, by omega, rfl, hlo, fun k h1 h2 => ?_, ?_⟩
        · by_cases ek : k = h
          · rw [ek]; simpa using hc
          · rw [← Bool.not_eq_true]
            exact fun q => hc (lessB_trans (hu h k (by omega) h2) q)
        · simp [trim_mk, go_sem, Nat.reduceLT, Nat.reduceAdd, Nat.reduceEqDiff, Nat.reduceLeDiff, Nat.reduceSub, Nat.reduceMul, Int.reduceEq, eq_self, reduceIte, subHeap, renObj, pos, List.range_succ, cId]
    · obtain rfl : i = j := by omega
      have hp := posE_at hj hlo hhi
      have hf := foundE_at hu hj hlo hhi
      by_cases hil : i < l.length
      · have hgt : l[i]? = some (nth l i) := nth_get? _ _ hil
        simp only [go_sem, Nat.reduceLT, Nat.reduceAdd, Nat.reduceEqDiff, Nat.reduceLeDiff, Nat.reduceSub, Nat.reduceMul, Int.reduceEq, eq_self, reduceIte, hlt, hil, hgt, cE, cId]
        refine ops_callv rfl (by kernel_rfl) (.pureE (raw1_meets (nth l i) y) (by simp [go_sem, Nat.reduceLT, Nat.reduceAdd, Nat.reduceEqDiff, Nat.reduceLeDiff, Nat.reduceSub, Nat.reduceMul, Int.reduceEq, eq_self, reduceIte, cE, cId])) ?_
        have e : (ordI (nth l i).id y = 0) ↔ (nth l i).id = y := ordI_zero
        simp only [go_sem, Nat.reduceLT, Nat.reduceAdd, Nat.reduceEqDiff, Nat.reduceLeDiff, Nat.reduceSub, Nat.reduceMul, Int.reduceEq, eq_self, reduceIte, e]
        refine ret_pure hx ?_
        simp [go_sem, Nat.reduceLT, Nat.reduceAdd, Nat.reduceEqDiff, Nat.reduceLeDiff, Nat.reduceSub, Nat.reduceMul, Int.reduceEq, eq_self, reduceIte, L142, R142, hp, hf, hil]
      · simp only [go_sem, Nat.reduceLT, Nat.reduceAdd, Nat.reduceEqDiff, Nat.reduceLeDiff, Nat.reduceSub, Nat.reduceMul, Int.reduceEq, eq_self, reduceIte, hlt, hil]
        refine ret_pure hx ?_
        simp [go_sem, Nat.reduceLT, Nat.reduceAdd, Nat.reduceEqDiff, Nat.reduceLeDiff, Nat.reduceSub, Nat.reduceMul, Int.reduceEq, eq_self, reduceIte, L142, R142, hp, hf, hil]
def rcP (lg ws : List Entry) (e : Entry) : List Entry × List Entry := settled lg (ws.insertIdx (posE ws e.id) e)
def rcErr (r : Int) (lg ws : List Entry) (e : Entry) : Int :=
  if 0 ≤ findE lg e.id ∨ 0 ≤ findE ws e.id then 0 else if e.id.r = r then 4 else if 20 < (rcP lg ws e).2.length ∨ 40 < (rcP lg ws e).1.length then 2 else 0
def rcSi (r : Int) (lg ws : List Entry) (e : Entry) : Int × List Entry × List Entry :=
  if 0 ≤ findE lg e.id ∨ 0 ≤ findE ws e.id then (r, lg, ws) else if rcErr r lg ws e = 0 then (r, rcP lg ws e) else (0, [], [])
theorem fit_ins {ws : List Entry} {e : Entry} (h : fitE ws) (he : (e.id.r = 0 ∨ e.id.r = 1) ∧ e.ls.length ≤ 1000000) {i : Nat} (hi : i ≤ ws.length) : fitE (ws.insertIdx i e) := fun x hx => by
  rcases (List.mem_insertIdx hi).1 hx with h1 | h1
  · subst h1; exact he
  · exact h x h1
theorem insE_len (l : List Entry) (w : Entry) {k : Nat} (h : k ≤ l.length) : (l.insertIdx k w).length = l.length + 1 := by rw [List.length_insertIdx, if_pos h]
set_option maxHeartbeats 4000000 in
theorem siRaw_meets (r : Int) (lg ws : List Entry) (e : Entry) (hl : lg.length ≤ 1000) (hw : ws.length ≤ 1000) (hf1 : fitE lg) (hf2 : fitE ws) (hu : upE ws) (he : (e.id.r = 0 ∨ e.id.r = 1) ∧ e.ls.length ≤ 1000000) :
    Meets Tryz.prog 109 [.agg (cSi r lg ws), .agg (cE e)] [] (.tup [.agg (cSi3 (rcSi r lg ws e)), .int .i64 (rcErr r lg ws e)]) [] := by
  refine Meets.of_walk Tryz.func109 Tryz.ntmps109 low109 res109 (by simp) fun x hx => ?_
  simp only [go_sem, Nat.reduceLT, Nat.reduceAdd, Nat.reduceEqDiff, Nat.reduceLeDiff, Nat.reduceSub, Nat.reduceMul, Int.reduceEq, eq_self, reduceIte, L109, R109, cSi, cE]
  refine ops_call (.heapE [] (r' := .agg [.int .i64 r, .arr 3 lg.length, .arr 4 ws.length]) (H' := [.box (cSi r lg ws), .box (cE e), .box [.int .i64 0, .nilsl, .nilsl], .arr lg.length true false 46 5 (lg.map cE), .arr ws.length true false 46 5 (ws.map cE)]) (siOwn_meets r lg ws (by omega) (by omega) hf1 hf2) (by simp) (by simp) (by simp [go_sem, Nat.reduceLT, Nat.reduceAdd, Nat.reduceEqDiff, Nat.reduceLeDiff, Nat.reduceSub, Nat.reduceMul, Int.reduceEq, eq_self, reduceIte, cSi]) rfl rfl rfl) ?_
  simp only [go_sem, Nat.reduceLT, Nat.reduceAdd, Nat.reduceEqDiff, Nat.reduceLeDiff, Nat.reduceSub, Nat.reduceMul, Int.reduceEq, eq_self, reduceIte, cSi, cE]
  refine ops_call (.pureE (find_meets lg e.id (by omega)) (by simp [go_sem, Nat.reduceLT, Nat.reduceAdd, Nat.reduceEqDiff, Nat.reduceLeDiff, Nat.reduceSub, Nat.reduceMul, Int.reduceEq, eq_self, reduceIte, cId])) ?_
  by_cases h1 : 0 ≤ findE lg e.id
  · have e1 : rcErr r lg ws e = 0 := by rw [rcErr, if_pos (.inl h1)]
    simp only [go_sem, Nat.reduceLT, Nat.reduceAdd, Nat.reduceEqDiff, Nat.reduceLeDiff, Nat.reduceSub, Nat.reduceMul, Int.reduceEq, eq_self, reduceIte, h1, cSi, cE]
    refine ret_pure hx ?_
    simp [go_sem, Nat.reduceLT, Nat.reduceAdd, Nat.reduceEqDiff, Nat.reduceLeDiff, Nat.reduceSub, Nat.reduceMul, Int.reduceEq, eq_self, reduceIte, L109, R109, rcSi, e1, h1, cSi3, cSi, cE, frzAt, pos]
  · simp only [go_sem, Nat.reduceLT, Nat.reduceAdd, Nat.reduceEqDiff, Nat.reduceLeDiff, Nat.reduceSub, Nat.reduceMul, Int.reduceEq, eq_self, reduceIte, h1, cSi, cE]
    refine ops_call (.pureE (find_meets ws e.id (by omega)) (by simp [go_sem, Nat.reduceLT, Nat.reduceAdd, Nat.reduceEqDiff, Nat.reduceLeDiff, Nat.reduceSub, Nat.reduceMul, Int.reduceEq, eq_self, reduceIte, cId])) ?_
    by_cases h2 : 0 ≤ findE ws e.id
    · have e1 : rcErr r lg ws e = 0 := by rw [rcErr, if_pos (.inr h2)]
      simp only [go_sem, Nat.reduceLT, Nat.reduceAdd, Nat.reduceEqDiff, Nat.reduceLeDiff, Nat.reduceSub, Nat.reduceMul, Int.reduceEq, eq_self, reduceIte, h2, cSi, cE]
      refine ret_pure hx ?_
      simp [go_sem, Nat.reduceLT, Nat.reduceAdd, Nat.reduceEqDiff, Nat.reduceLeDiff, Nat.reduceSub, Nat.reduceMul, Int.reduceEq, eq_self, reduceIte, L109, R109, rcSi, e1, h2, cSi3, cSi, cE, frzAt, pos]
    · by_cases h3 : e.id.r = r
      · have e1 : rcErr r lg ws e = 4 := by rw [rcErr, if_neg (by omega), if_pos h3]
        simp only [go_sem, Nat.reduceLT, Nat.reduceAdd, Nat.reduceEqDiff, Nat.reduceLeDiff, Nat.reduceSub, Nat.reduceMul, Int.reduceEq, eq_self, reduceIte, h2, h3, cSi, cE]
        refine ret_pure hx ?_
        simp [go_sem, Nat.reduceLT, Nat.reduceAdd, Nat.reduceEqDiff, Nat.reduceLeDiff, Nat.reduceSub, Nat.reduceMul, Int.reduceEq, eq_self, reduceIte, L109, R109, rcSi, e1, h1, h2, cSi3, cSi, cE, frzAt, pos]
      · have e0 : rcErr r lg ws e = if 20 < (rcP lg ws e).2.length ∨ 40 < (rcP lg ws e).1.length then 2 else 0 := by rw [rcErr, if_neg (by omega), if_neg h3]
        have hil := insE_len ws e (posE_le ws e.id)
        have hst := settle_meets lg.length (ws.length + 1) r lg (ws.insertIdx (posE ws e.id) e) (by omega) hf1 (fit_ins hf2 he (posE_le ws e.id))
        rw [show settled lg (ws.insertIdx (posE ws e.id) e) = rcP lg ws e from rfl] at hst
        generalize (ws.insertIdx (posE ws e.id) e).length - (rcP lg ws e).2.length = k at hst
        simp only [go_sem, Nat.reduceLT, Nat.reduceAdd, Nat.reduceEqDiff, Nat.reduceLeDiff, Nat.reduceSub, Nat.reduceMul, Int.reduceEq, eq_self, reduceIte, h2, h3, cSi, cE]
        refine ops_call (.scalarE (bsE_meets ws e.id hu (by omega)) rfl (by simp [go_sem, Nat.reduceLT, Nat.reduceAdd, Nat.reduceEqDiff, Nat.reduceLeDiff, Nat.reduceSub, Nat.reduceMul, Int.reduceEq, eq_self, reduceIte, frzAt, pos, cId])) ?_
        simp only [go_sem, Nat.reduceLT, Nat.reduceAdd, Nat.reduceEqDiff, Nat.reduceLeDiff, Nat.reduceSub, Nat.reduceMul, Int.reduceEq, eq_self, reduceIte, cSi, cE]
        repeat refine ⟨rfl, ?_⟩
        refine ops_call (.pureE (entOwn_meets e he.2) (by simp [go_sem, Nat.reduceLT, Nat.reduceAdd, Nat.reduceEqDiff, Nat.reduceLeDiff, Nat.reduceSub, Nat.reduceMul, Int.reduceEq, eq_self, reduceIte, cE])) ?_
        simp only [go_sem, Nat.reduceLT, Nat.reduceAdd, Nat.reduceEqDiff, Nat.reduceLeDiff, Nat.reduceSub, Nat.reduceMul, Int.reduceEq, eq_self, reduceIte, cSi, cE]
        refine ops_call1 4 (insE_meets (ws.map cE) (cE e) ws.length (posE ws e.id) (by simp; exact posE_le _ _) rfl (by simp; omega)) rfl rfl rfl rfl (by simp [go_sem, Nat.reduceLT, Nat.reduceAdd, Nat.reduceEqDiff, Nat.reduceLeDiff, Nat.reduceSub, Nat.reduceMul, Int.reduceEq, eq_self, reduceIte]) (by simp [go_sem, Nat.reduceLT, Nat.reduceAdd, Nat.reduceEqDiff, Nat.reduceLeDiff, Nat.reduceSub, Nat.reduceMul, Int.reduceEq, eq_self, reduceIte, pos, cE]) rfl ?_
        rw [insIdx_mapE]
        simp only [go_sem, Nat.reduceLT, Nat.reduceAdd, Nat.reduceEqDiff, Nat.reduceLeDiff, Nat.reduceSub, Nat.reduceMul, Int.reduceEq, eq_self, reduceIte, cSi, cE]
        repeat refine ⟨rfl, ?_⟩
        refine ops_call (.heapE [5, 3, 4] (r' := .tup []) (H' := [.box (cSi r lg ws), .box (cE e), .box [.int .i64 0, .nilsl, .nilsl], .arr (lg.length + k) true false 46 5 ((rcP lg ws e).1.map cE), .arr (ws.length + 1 + k) true false 46 5 ((rcP lg ws e).2.map cE), .box [.int .i64 r, .arr 3 (lg.length + k), .arr 4 (ws.length + 1 + k)]]) hst (by decide) (by simp) (by simp [go_sem, Nat.reduceLT, Nat.reduceAdd, Nat.reduceEqDiff, Nat.reduceLeDiff, Nat.reduceSub, Nat.reduceMul, Int.reduceEq, eq_self, reduceIte, pos]) rfl rfl rfl) ?_
        by_cases g1 : (20 : Int) < ((rcP lg ws e).2.length : Int)
        · have e1 : rcErr r lg ws e = 2 := by rw [e0, if_pos (by omega)]
          simp only [go_sem, Nat.reduceLT, Nat.reduceAdd, Nat.reduceEqDiff, Nat.reduceLeDiff, Nat.reduceSub, Nat.reduceMul, Int.reduceEq, eq_self, reduceIte, g1, cSi, cE]
          refine ret_pure hx ?_
          simp [go_sem, Nat.reduceLT, Nat.reduceAdd, Nat.reduceEqDiff, Nat.reduceLeDiff, Nat.reduceSub, Nat.reduceMul, Int.reduceEq, eq_self, reduceIte, L109, R109, rcSi, e1, h1, h2, cSi3, cSi, cE, frzAt, pos]
        · by_cases g2 : (40 : Int) < ((rcP lg ws e).1.length : Int)
          · have e1 : rcErr r lg ws e = 2 := by rw [e0, if_pos (by omega)]
            simp only [go_sem, Nat.reduceLT, Nat.reduceAdd, Nat.reduceEqDiff, Nat.reduceLeDiff, Nat.reduceSub, Nat.reduceMul, Int.reduceEq, eq_self, reduceIte, g1, g2, cSi, cE]
            refine ret_pure hx ?_
            simp [go_sem, Nat.reduceLT, Nat.reduceAdd, Nat.reduceEqDiff, Nat.reduceLeDiff, Nat.reduceSub, Nat.reduceMul, Int.reduceEq, eq_self, reduceIte, L109, R109, rcSi, e1, h1, h2, cSi3, cSi, cE, frzAt, pos]
          · have e1 : rcErr r lg ws e = 0 := by rw [e0, if_neg (by omega)]
            simp only [go_sem, Nat.reduceLT, Nat.reduceAdd, Nat.reduceEqDiff, Nat.reduceLeDiff, Nat.reduceSub, Nat.reduceMul, Int.reduceEq, eq_self, reduceIte, g1, g2, cSi, cE]
            refine ret_pure hx ?_
            simp [go_sem, Nat.reduceLT, Nat.reduceAdd, Nat.reduceEqDiff, Nat.reduceLeDiff, Nat.reduceSub, Nat.reduceMul, Int.reduceEq, eq_self, reduceIte, L109, R109, rcSi, e1, h1, h2, cSi3, cSi, cE, frzAt, pos]
def rcErrX (r : Int) (lg ws : List Entry) (e : Entry) : Int := if siErr r lg ws ≠ 0 then siErr r lg ws else if checkEntry e ≠ 0 then checkEntry e else rcErr r lg ws e
def rcSiX (r : Int) (lg ws : List Entry) (e : Entry) : Int × List Entry × List Entry := if siErr r lg ws ≠ 0 ∨ checkEntry e ≠ 0 then (0, [], []) else rcSi r lg ws e
set_option maxHeartbeats 1000000 in
theorem siReceive_meets (r : Int) (lg ws : List Entry) (e : Entry) (hl : lg.length ≤ 9223372036854775806) (hw : ws.length ≤ 9223372036854775806) :
    Meets Tryz.prog 64 [.agg (cSi r lg ws), .agg (cE e)] [] (.tup [.agg (cSi3 (rcSiX r lg ws e)), .int .i64 (rcErrX r lg ws e)]) [] := by
  refine Meets.of_walk Tryz.func64 Tryz.ntmps64 low64 res64 (by simp) fun x hx => ?_
  simp only [go_sem, Nat.reduceLT, Nat.reduceAdd, Nat.reduceEqDiff, Nat.reduceLeDiff, Nat.reduceSub, Nat.reduceMul, Int.reduceEq, eq_self, reduceIte, L64, R64, cSi, cE]
  refine ops_call (.pureE (siCheck_meets r lg ws hl hw) (by simp [go_sem, Nat.reduceLT, Nat.reduceAdd, Nat.reduceEqDiff, Nat.reduceLeDiff, Nat.reduceSub, Nat.reduceMul, Int.reduceEq, eq_self, reduceIte, cSi])) ?_
  by_cases h0 : siErr r lg ws = 0
  · obtain ⟨hr, hok, hw20, hch⟩ := siErr_ok h0
    have hlen := hok.len
    simp only [go_sem, Nat.reduceLT, Nat.reduceAdd, Nat.reduceEqDiff, Nat.reduceLeDiff, Nat.reduceSub, Nat.reduceMul, Int.reduceEq, eq_self, reduceIte, h0, cSi, cE]
    refine ops_call (.pureE (check_meets e) (by simp [go_sem, Nat.reduceLT, Nat.reduceAdd, Nat.reduceEqDiff, Nat.reduceLeDiff, Nat.reduceSub, Nat.reduceMul, Int.reduceEq, eq_self, reduceIte, cE])) ?_
    by_cases h1 : checkEntry e = 0
    · simp only [go_sem, Nat.reduceLT, Nat.reduceAdd, Nat.reduceEqDiff, Nat.reduceLeDiff, Nat.reduceSub, Nat.reduceMul, Int.reduceEq, eq_self, reduceIte, h1, cSi, cE]
      refine ops_call (.pureE (siRaw_meets r lg ws e (by omega) (by omega) (log_fit hok) (waits_fit fun k hk => (hch k hk).1) (siErr_up h0) (check_fit h1)) (by simp [go_sem, Nat.reduceLT, Nat.reduceAdd, Nat.reduceEqDiff, Nat.reduceLeDiff, Nat.reduceSub, Nat.reduceMul, Int.reduceEq, eq_self, reduceIte, cSi, cE])) ?_
      simp only [go_sem, Nat.reduceLT, Nat.reduceAdd, Nat.reduceEqDiff, Nat.reduceLeDiff, Nat.reduceSub, Nat.reduceMul, Int.reduceEq, eq_self, reduceIte, cSi3, cSi, cE]
      refine ret_pure hx ?_
      simp [go_sem, Nat.reduceLT, Nat.reduceAdd, Nat.reduceEqDiff, Nat.reduceLeDiff, Nat.reduceSub, Nat.reduceMul, Int.reduceEq, eq_self, reduceIte, L64, R64, rcSiX, rcErrX, h0, h1, cSi3, cSi]
    · simp only [go_sem, Nat.reduceLT, Nat.reduceAdd, Nat.reduceEqDiff, Nat.reduceLeDiff, Nat.reduceSub, Nat.reduceMul, Int.reduceEq, eq_self, reduceIte, h1, cSi, cE]
      refine ret_pure hx ?_
      simp [go_sem, Nat.reduceLT, Nat.reduceAdd, Nat.reduceEqDiff, Nat.reduceLeDiff, Nat.reduceSub, Nat.reduceMul, Int.reduceEq, eq_self, reduceIte, L64, R64, rcSiX, rcErrX, h0, h1, cSi3, cSi]
  · simp only [go_sem, Nat.reduceLT, Nat.reduceAdd, Nat.reduceEqDiff, Nat.reduceLeDiff, Nat.reduceSub, Nat.reduceMul, Int.reduceEq, eq_self, reduceIte, h0, cSi, cE]
    refine ret_pure hx ?_
    simp [go_sem, Nat.reduceLT, Nat.reduceAdd, Nat.reduceEqDiff, Nat.reduceLeDiff, Nat.reduceSub, Nat.reduceMul, Int.reduceEq, eq_self, reduceIte, L64, R64, rcSiX, rcErrX, h0, cSi3, cSi]
end Go.Proofs.YtfdolehffjmdmaaGreatDoor
/- Sites, in the law text's words: IsReady, CheckSite, Settled: contracts. -/
namespace Go.Proofs.YtfdolehffjmdmaaGreatDoor
set_option linter.unusedSimpArgs false
set_option linter.unusedVariables false
open Go.RowKit
end Go.Proofs.YtfdolehffjmdmaaGreatDoor
/- Sites, in the law text's words: AppendOf, ReceiveOf, SameLog and SameSite at one thing twice, siteIs: contracts. -/
namespace Go.Proofs.YtfdolehffjmdmaaGreatDoor
set_option linter.unusedSimpArgs false
set_option linter.unusedVariables false
open Go.RowKit
end Go.Proofs.YtfdolehffjmdmaaGreatDoor
/- Sites, in the law text's words: ReceiveOf: a contract. -/
namespace Go.Proofs.YtfdolehffjmdmaaGreatDoor
set_option linter.unusedSimpArgs false
set_option linter.unusedVariables false
open Go.RowKit
end Go.Proofs.YtfdolehffjmdmaaGreatDoor
/- Bytes: writing an entry. -/
namespace Go.Proofs.YtfdolehffjmdmaaGreatDoor
set_option linter.unusedSimpArgs false
set_option linter.unusedVariables false
open Go.RowKit
def e0 : Entry := ⟨⟨0, 1⟩, 1, BA [112, 117, 116, 32, 97, 32, 120], []⟩
def e1 : Entry := ⟨⟨1, 1⟩, 3, BA [112, 117, 116, 32, 97, 32, 121], []⟩
def e2 : Entry := ⟨⟨0, 2⟩, 3, BA [100, 114, 111, 112, 32, 97], [⟨0, 1⟩]⟩
def e3 : Entry := ⟨⟨1, 2⟩, 2, BA [112, 117, 116, 32, 98, 32, 122], [⟨0, 2⟩, ⟨1, 1⟩]⟩
def cE0 (e : Entry) : List PV := [.int .i64 e.id.r, .int .i64 e.id.n, .int .i64 e.c, .str e.t, if e.ls = [] then .nilsl else .list (e.ls.map cId)]
theorem entries_meets : Meets Tryz.prog 53 [] [] (.list [cE e0, cE e1, cE e2, cE e3]) [] := by
  refine Meets.nl (r := .list [cE0 e0, cE0 e1, cE0 e2, cE0 e3]) 4 ?_ (by simp [nlN, cE0, cE, cId, e0, e1, e2, e3])
  refine Meets.of_walk Tryz.func53 Tryz.ntmps53 low53 res53 (by simp) fun x hx => ?_
  simp only [go_sem, Nat.reduceLT, Nat.reduceAdd, Nat.reduceEqDiff, Nat.reduceLeDiff, Nat.reduceSub, Nat.reduceMul, Int.reduceEq, eq_self, reduceIte, L53, R53]
  iterate 7
    refine ops_call (.pure (lawId_meets _ _)) ?_
    simp only [go_sem, Nat.reduceLT, Nat.reduceAdd, Nat.reduceEqDiff, Nat.reduceLeDiff, Nat.reduceSub, Nat.reduceMul, Int.reduceEq, eq_self, reduceIte]
  refine ret_pure hx ?_
  simp [go_sem, Nat.reduceLT, Nat.reduceAdd, Nat.reduceEqDiff, Nat.reduceLeDiff, Nat.reduceSub, Nat.reduceMul, Int.reduceEq, eq_self, reduceIte, L53, R53, cE0, cId, e0, e1, e2, e3, BA]
end Go.Proofs.YtfdolehffjmdmaaGreatDoor
/- What must be in any case of logs; DagTells, as a contract. -/
namespace Go.Proofs.YtfdolehffjmdmaaGreatDoor
set_option linter.unusedSimpArgs false
set_option linter.unusedVariables false
open Go.RowKit
end Go.Proofs.YtfdolehffjmdmaaGreatDoor
/- What must be in any case of sites; SiteTells, as a contract. -/
namespace Go.Proofs.YtfdolehffjmdmaaGreatDoor
set_option linter.unusedSimpArgs false
set_option linter.unusedVariables false
open Go.RowKit
def sbL : List Entry := [e0, e2]
def sbX : Entry := ⟨⟨1, 1⟩, 4, ⟨#[116]⟩, []⟩
def sbM : List Entry := [e0, e2, sbX]
def sbY : Entry := ⟨⟨1, 2⟩, 1, ⟨#[117]⟩, [⟨0, 2⟩]⟩
theorem sb_ok1 : LogOk sbL := log_ok.1 (by decide +kernel)
theorem sb_ok2 : LogOk sbM := log_ok.1 (by decide +kernel)
theorem sb_h1 : sortI (headsC sbL 4) = [] := by rw [← heads_eq sb_ok1]; decide +kernel
theorem sb_h2 : sortI (headsC sbM 1) = [⟨0, 2⟩] := by rw [← heads_eq sb_ok2]; decide +kernel
theorem sb_e1 : rcErrX 1 [] [] e2 = 0 := by decide +kernel
theorem sb_s1 : rcSiX 1 [] [] e2 = (1, [], [e2]) := by kernel_rfl
theorem sb_e2 : rcErrX 1 [] [e2] e0 = 0 := by decide +kernel
theorem sb_s2 : rcSiX 1 [] [e2] e0 = (1, sbL, []) := by kernel_rfl
theorem sb_c1 : siErr 1 sbL [] = 0 := by decide +kernel
theorem sb_c2 : siErr 1 sbM [] = 0 := by decide +kernel
theorem sb_c3 : siErr 1 (sbM ++ [sbY]) [] = 0 := by decide +kernel
theorem sb_a1 : apErr 1 sbL 4 ⟨#[116]⟩ = 0 := by rw [apErr, sb_h1]; decide +kernel
theorem sb_a2 : apErr 1 sbM 1 ⟨#[117]⟩ = 0 := by rw [apErr, sb_h2]; decide +kernel
theorem sb_x1 : apE 1 sbL 4 ⟨#[116]⟩ = sbX := by rw [apE, sb_h1]; rfl
theorem sb_x2 : apE 1 sbM 1 ⟨#[117]⟩ = sbY := by rw [apE, sb_h2]; rfl
theorem sb_ae1 : apErrX 1 sbL [] 4 ⟨#[116]⟩ = 0 := by rw [apErrX, if_neg (by simp [sb_c1]), sb_a1]
theorem sb_ae2 : apErrX 1 sbM [] 1 ⟨#[117]⟩ = 0 := by rw [apErrX, if_neg (by simp [sb_c2]), sb_a2]
theorem sb_as1 : apSiX 1 sbL [] 4 ⟨#[116]⟩ = (1, sbM, []) := by rw [apSiX, if_neg (by simp [sb_c1]), apSi, if_pos sb_a1, sb_x1]; rfl
theorem sb_as2 : apSiX 1 sbM [] 1 ⟨#[117]⟩ = (1, sbM ++ [sbY], []) := by rw [apSiX, if_neg (by simp [sb_c2]), apSi, if_pos sb_a2, sb_x2]; rfl
theorem sb_an1 : apEnX 1 sbL [] 4 ⟨#[116]⟩ = sbX := by rw [apEnX, if_neg (by simp [sb_c1]), apEn, if_pos sb_a1, sb_x1]
theorem sb_an2 : apEnX 1 sbM [] 1 ⟨#[117]⟩ = sbY := by rw [apEnX, if_neg (by simp [sb_c2]), apEn, if_pos sb_a2, sb_x2]
set_option maxRecDepth 10000 in
set_option maxHeartbeats 2000000 in
theorem siteBegun_meets : Meets Tryz.prog 22 [] [] (.bool true) [] := by
  have hent := entries_meets
  refine Meets.of_walk Tryz.func22 Tryz.ntmps22 low22 res22 (by simp) fun x hx => ?_
  simp only [go_sem, Nat.reduceLT, Nat.reduceAdd, Nat.reduceEqDiff, Nat.reduceLeDiff, Nat.reduceSub, Nat.reduceMul, Int.reduceEq, eq_self, reduceIte, L22, R22]
  refine ops_call (.pureE (siNew_meets 1) (by simp [go_sem, Nat.reduceLT, Nat.reduceAdd, Nat.reduceEqDiff, Nat.reduceLeDiff, Nat.reduceSub, Nat.reduceMul, Int.reduceEq, eq_self, reduceIte])) ?_
  rw [if_pos (.inr rfl), if_pos (.inr rfl)]
  simp only [go_sem, Nat.reduceLT, Nat.reduceAdd, Nat.reduceEqDiff, Nat.reduceLeDiff, Nat.reduceSub, Nat.reduceMul, Int.reduceEq, eq_self, reduceIte, cSi]
  refine ops_call (.pure hent) ?_
  simp only [go_sem, Nat.reduceLT, Nat.reduceAdd, Nat.reduceEqDiff, Nat.reduceLeDiff, Nat.reduceSub, Nat.reduceMul, Int.reduceEq, eq_self, reduceIte, Int.ofNat_zero, Int.natCast_one, Int.cast_ofNat_Int, Int.reduceLT, Int.reduceLE, Int.reduceToNat, Nat.reduceLT, Int.toNat_zero, Int.natCast_zero, Int.le_refl, Int.lt_irrefl, Int.reduceAdd, frz, false_or, or_true, cE, List.length_cons, List.length_nil]
  refine ops_call (.pureE (siReceive_meets 1 [] [] e2 (by simp) (by simp)) (by simp [go_sem, Nat.reduceLT, Nat.reduceAdd, Nat.reduceEqDiff, Nat.reduceLeDiff, Nat.reduceSub, Nat.reduceMul, Int.reduceEq, eq_self, reduceIte, cSi, cE])) ?_
  rw [sb_e1, sb_s1]
  simp only [go_sem, Nat.reduceLT, Nat.reduceAdd, Nat.reduceEqDiff, Nat.reduceLeDiff, Nat.reduceSub, Nat.reduceMul, Int.reduceEq, eq_self, reduceIte, cSi3, cSi]
  repeat refine ⟨rfl, ?_⟩
  refine ops_call (.pure hent) ?_
  simp only [go_sem, Nat.reduceLT, Nat.reduceAdd, Nat.reduceEqDiff, Nat.reduceLeDiff, Nat.reduceSub, Nat.reduceMul, Int.reduceEq, eq_self, reduceIte, Int.ofNat_zero, Int.natCast_one, Int.cast_ofNat_Int, Int.reduceLT, Int.reduceLE, Int.reduceToNat, Nat.reduceLT, Int.toNat_zero, Int.natCast_zero, Int.le_refl, Int.lt_irrefl, Int.reduceAdd, frz, false_or, or_true, cE, List.length_cons, List.length_nil]
  refine ops_call (.pureE (siReceive_meets 1 [] [e2] e0 (by simp) (by simp)) (by simp [go_sem, Nat.reduceLT, Nat.reduceAdd, Nat.reduceEqDiff, Nat.reduceLeDiff, Nat.reduceSub, Nat.reduceMul, Int.reduceEq, eq_self, reduceIte, cSi, cE])) ?_
  rw [sb_e2, sb_s2]
  simp only [go_sem, Nat.reduceLT, Nat.reduceAdd, Nat.reduceEqDiff, Nat.reduceLeDiff, Nat.reduceSub, Nat.reduceMul, Int.reduceEq, eq_self, reduceIte, cSi3, cSi]
  repeat refine ⟨rfl, ?_⟩
  refine ops_call (.pureE (siAppend_meets 1 sbL [] 4 ⟨#[116]⟩ (by decide) (by simp)) (by simp [go_sem, Nat.reduceLT, Nat.reduceAdd, Nat.reduceEqDiff, Nat.reduceLeDiff, Nat.reduceSub, Nat.reduceMul, Int.reduceEq, eq_self, reduceIte, cSi])) ?_
  rw [sb_ae1, sb_as1, sb_an1]
  simp only [go_sem, Nat.reduceLT, Nat.reduceAdd, Nat.reduceEqDiff, Nat.reduceLeDiff, Nat.reduceSub, Nat.reduceMul, Int.reduceEq, eq_self, reduceIte, cSi3, cSi, cE]
  repeat refine ⟨rfl, ?_⟩
  refine ops_call (.pureE (siAppend_meets 1 sbM [] 1 ⟨#[117]⟩ (by decide) (by simp)) (by simp [go_sem, Nat.reduceLT, Nat.reduceAdd, Nat.reduceEqDiff, Nat.reduceLeDiff, Nat.reduceSub, Nat.reduceMul, Int.reduceEq, eq_self, reduceIte, cSi])) ?_
  rw [sb_ae2, sb_as2, sb_an2]
  simp only [go_sem, Nat.reduceLT, Nat.reduceAdd, Nat.reduceEqDiff, Nat.reduceLeDiff, Nat.reduceSub, Nat.reduceMul, Int.reduceEq, eq_self, reduceIte, cSi3, cSi, cE]
  repeat refine ⟨rfl, ?_⟩
  refine ops_call (.pureE (siCheck_meets 1 (sbM ++ [sbY]) [] (by decide) (by simp)) (by simp [go_sem, Nat.reduceLT, Nat.reduceAdd, Nat.reduceEqDiff, Nat.reduceLeDiff, Nat.reduceSub, Nat.reduceMul, Int.reduceEq, eq_self, reduceIte, cSi])) ?_
  rw [sb_c3]
  have hL : sbL.length = 2 := rfl
  have hX : sbX.ls = [] := rfl
  have hY : sbY.ls = [⟨0, 2⟩] := rfl
  have hY1 : sbY.id.r = 1 := rfl
  have hY2 : sbY.id.n = 2 := rfl
  simp only [go_sem, Nat.reduceLT, Nat.reduceAdd, Nat.reduceEqDiff, Nat.reduceLeDiff, Nat.reduceSub, Nat.reduceMul, Int.reduceEq, eq_self, reduceIte, Int.ofNat_zero, Int.natCast_one, Int.cast_ofNat_Int, Int.reduceLT, Int.reduceLE, Int.reduceToNat, Nat.reduceLT, Int.toNat_zero, Int.natCast_zero, Int.le_refl, Int.lt_irrefl, Int.reduceAdd, frz, false_or, or_true, hL, hX, hY, hY1, hY2, List.length_nil, List.length_cons, List.map_nil, List.map_cons]
  refine ops_call (.pure (lawId_meets _ _)) ?_
  simp only [go_sem, Nat.reduceLT, Nat.reduceAdd, Nat.reduceEqDiff, Nat.reduceLeDiff, Nat.reduceSub, Nat.reduceMul, Int.reduceEq, eq_self, reduceIte]
  refine ops_call (.pureE (sameIds_meets [⟨0, 2⟩] [⟨0, 2⟩] (by decide)) (by simp [go_sem, Nat.reduceLT, Nat.reduceAdd, Nat.reduceEqDiff, Nat.reduceLeDiff, Nat.reduceSub, Nat.reduceMul, Int.reduceEq, eq_self, reduceIte, cId])) ?_
  simp only [go_sem, Nat.reduceLT, Nat.reduceAdd, Nat.reduceEqDiff, Nat.reduceLeDiff, Nat.reduceSub, Nat.reduceMul, Int.reduceEq, eq_self, reduceIte]
  refine ops_call (.pure (lawId_meets _ _)) ?_
  simp only [go_sem, Nat.reduceLT, Nat.reduceAdd, Nat.reduceEqDiff, Nat.reduceLeDiff, Nat.reduceSub, Nat.reduceMul, Int.reduceEq, eq_self, reduceIte, Int.ofNat_zero, Int.natCast_one, Int.cast_ofNat_Int, Int.reduceLT, Int.reduceLE, Int.reduceToNat, Nat.reduceLT, Int.toNat_zero, Int.natCast_zero, Int.le_refl, Int.lt_irrefl, Int.reduceAdd, frz, false_or, or_true]
  refine ret_pure hx ?_
  simp [go_sem, Nat.reduceLT, Nat.reduceAdd, Nat.reduceEqDiff, Nat.reduceLeDiff, Nat.reduceSub, Nat.reduceMul, Int.reduceEq, eq_self, reduceIte, L22, R22]
end Go.Proofs.YtfdolehffjmdmaaGreatDoor
/- DagPast, DagHeads, as contracts. -/
namespace Go.Proofs.YtfdolehffjmdmaaGreatDoor
set_option linter.unusedSimpArgs false
set_option linter.unusedVariables false
open Go.RowKit
theorem nth_mem {α : Type} [Inhabited α] {l : List α} {k : Nat} (h : k < l.length) : nth l k ∈ l := by rw [nth_eq _ _ h]; exact List.getElem_mem h
theorem past_at {l : List Entry} (h0 : checkLog l = 0) {k : Nat} (hk : k < l.length) : pastErr l (nth l k).id = 0 ∧ pastIds l (nth l k).id = pastOf l k := by
  have hok := log_ok.1 h0
  have hp : pastErr l (nth l k).id = 0 := by
    rw [pastErr, if_neg (by simp [h0]), hok.find hk, if_neg (by omega)]
  exact ⟨hp, by rw [pastIds, if_pos hp, hok.find hk, Int.toNat_natCast]⟩
end Go.Proofs.YtfdolehffjmdmaaGreatDoor
/- DagParts, as a contract. -/
namespace Go.Proofs.YtfdolehffjmdmaaGreatDoor
set_option linter.unusedSimpArgs false
set_option linter.unusedVariables false
open Go.RowKit
theorem nth_take {α : Type} [Inhabited α] {l : List α} {n i : Nat} (hi : i < n) (hn : n ≤ l.length) : nth (l.take n) i = nth l i := by
  rw [nth_eq _ _ (by rw [List.length_take]; omega), nth_eq _ _ (by omega), List.getElem_take]
theorem LogOk.take {l : List Entry} (h : LogOk l) {n : Nat} (hn : n ≤ l.length) : LogOk (l.take n) where
  len := by rw [List.length_take]; have := h.len; omega
  chk := fun k hk => by
    rw [List.length_take] at hk
    rw [nth_take (by omega) hn]; exact h.chk k (by omega)
  new := fun k hk => by
    rw [List.length_take] at hk
    rw [nth_take (by omega) hn, List.take_take, Nat.min_eq_left (by omega)]; exact h.new k (by omega)
  num := fun k hk => by
    rw [List.length_take] at hk
    rw [nth_take (by omega) hn, List.take_take, Nat.min_eq_left (by omega)]; exact h.num k (by omega)
  lnk := fun k hk => by
    rw [List.length_take] at hk
    rw [nth_take (by omega) hn, List.take_take, Nat.min_eq_left (by omega)]; exact h.lnk k (by omega)
theorem pastOf_take {l : List Entry} (h : LogOk l) {n : Nat} (hn : n ≤ l.length) : ∀ i, i < n → pastOf (l.take n) i = pastOf l i := by
  intro i
  induction i using Nat.strongRecOn with
  | _ i ih =>
    intro hi
    have hT := h.take hn
    have hil : i < (l.take n).length := by rw [List.length_take]; omega
    refine asc_ext (pastOf_asc hT hil) (pastOf_asc h (by omega)) fun y => ?_
    rw [mem_pastOf hT hil, mem_pastOf h (by omega), nth_take hi hn]
    have key : ∀ x ∈ (nth l i).ls, findE (l.take n) x = findE l x ∧ pastOf (l.take n) (findE (l.take n) x).toNat = pastOf l (findE l x).toNat := fun x hx => by
      obtain ⟨f1, f2⟩ := hT.link_lt hil (x := x) (by rw [nth_take hi hn]; exact hx)
      have e := (findE_take (l := l) (k := n) f1).1
      exact ⟨e.symm, by rw [e]; exact ih _ (by omega) (by omega)⟩
    constructor
    · rintro ⟨x, hx, he⟩
      exact ⟨x, hx, by rw [(key x hx).2] at he; exact he⟩
    · rintro ⟨x, hx, he⟩
      exact ⟨x, hx, by rw [(key x hx).2]; exact he⟩
theorem cntR_sum : ∀ {l : List Entry}, okReg l → cntR l 0 + cntR l 1 = l.length
  | [], _ => rfl
  | e :: l, h => by
    have ih := cntR_sum (l := l) fun x hx => h x (by simp [hx])
    have he := h e (by simp)
    simp only [cntR, List.countP_cons, List.length_cons, decide_eq_true_eq] at ih ⊢
    rcases he with he | he <;> simp [he] <;> omega
theorem cntR_mono {l : List Entry} {i n : Nat} (h : i ≤ n) (r : Int) : cntR (l.take i) r ≤ cntR (l.take n) r :=
  List.Sublist.countP_le (List.take_sublist_take_left h)
end Go.Proofs.YtfdolehffjmdmaaGreatDoor
/- Sites: what is appended and what settles leaves a right log (plain). -/
namespace Go.Proofs.YtfdolehffjmdmaaGreatDoor
open Go.RowKit
theorem nth_app {l : List Entry} {e : Entry} {k : Nat} (h : k < l.length) : nth (l ++ [e]) k = nth l k := by
  rw [nth_eq _ _ (by simp; omega), nth_eq _ _ h, List.getElem_append_left h]
theorem nth_app_end (l : List Entry) (e : Entry) : nth (l ++ [e]) l.length = e := by
  rw [nth_eq _ _ (by simp)]; simp
theorem take_app {l : List Entry} {e : Entry} {k : Nat} (h : k ≤ l.length) : (l ++ [e]).take k = l.take k := by
  rw [List.take_append_of_le_length h]
theorem LogOk.cnt {l : List Entry} (h : LogOk l) (r : Int) : cntR l r ≤ 20 := by
  have key : ∀ k, k ≤ l.length → cntR (l.take k) r ≤ 20 := by
    intro k
    induction k with
    | zero => intro _; simp [cntR]
    | succ k ih =>
      intro hk
      rw [cntR_take l k r (by omega)]
      by_cases e : (nth l k).id.r = r
      · rw [if_pos e]
        have h1 := h.num k (by omega)
        have h2 := h.id_ok (k := k) (by omega)
        simp only [okId, Bool.and_eq_true, wthn_iff] at h2
        rw [e] at h1
        omega
      · rw [if_neg e]
        have := ih (by omega)
        omega
  have := key l.length (Nat.le_refl _)
  rwa [List.take_length] at this
theorem LogOk.num_le {l : List Entry} (h : LogOk l) {k : Nat} (hk : k < l.length) : (nth l k).id.n ≤ (cntR l (nth l k).id.r : Int) := by
  have h1 := h.num k hk
  have h2 := cntR_take l k (nth l k).id.r hk
  rw [if_pos rfl] at h2
  have h3 := cntR_mono (l := l) (i := k + 1) (n := l.length) (by omega) (nth l k).id.r
  rw [List.take_length] at h3
  omega
theorem ready_iff {l : List Entry} {e : Entry} : readyB l e = true ↔ (cntR l e.id.r : Int) + 1 = e.id.n ∧ ∀ x ∈ e.ls, 0 ≤ findE l x := by
  simp only [readyB, Bool.and_eq_true, decide_eq_true_eq, Bool.not_eq_true', List.any_eq_false]
  exact ⟨fun ⟨a, b⟩ => ⟨a, fun x hx => by have := b x hx; omega⟩, fun ⟨a, b⟩ => ⟨a, fun x hx => by have := b x hx; omega⟩⟩
theorem LogOk.app_new {l : List Entry} {e : Entry} (h : LogOk l) (hr : (cntR l e.id.r : Int) + 1 = e.id.n) : findE l e.id < 0 := by
  rw [findE_neg]
  intro y hy he
  obtain ⟨k, hk, rfl⟩ := List.getElem_of_mem hy
  rw [← nth_eq _ _ hk] at he
  have := h.num_le hk
  rw [he] at this
  omega
theorem LogOk.app {l : List Entry} {e : Entry} (h : LogOk l) (hc : checkEntry e = 0) (hr : readyB l e = true) : LogOk (l ++ [e]) := by
  obtain ⟨hn, hl⟩ := ready_iff.1 hr
  have hnew := h.app_new hn
  have h1 : ∀ k, k < l.length + 1 → (k < l.length ∧ nth (l ++ [e]) k = nth l k ∧ (l ++ [e]).take k = l.take k) ∨ (nth (l ++ [e]) k = e ∧ (l ++ [e]).take k = l) := by
    intro k hk
    by_cases hlt : k < l.length
    · exact .inl ⟨hlt, nth_app hlt, take_app (by omega)⟩
    · obtain rfl : k = l.length := by omega
      exact .inr ⟨nth_app_end l e, by rw [take_app (Nat.le_refl _), List.take_length]⟩
  have hb := (check_ok_bounds hc).1
  simp only [okId, Bool.and_eq_true, wthn_iff] at hb
  have hlen : l.length + 1 ≤ 40 := by
    have s := cntR_sum h.reg
    have c0 := h.cnt 0
    have c1 := h.cnt 1
    have hr2 : e.id.r = 0 ∨ e.id.r = 1 := by omega
    rcases hr2 with q | q
    all_goals
      rw [q] at hn
      omega
  refine ⟨by simp; omega, fun k hk => ?_, fun k hk => ?_, fun k hk => ?_, fun k hk => ?_⟩
  all_goals
    rw [List.length_append, List.length_singleton] at hk
    rcases h1 k hk with ⟨a, b, c⟩ | ⟨b, c⟩
  · rw [b]; exact h.chk k a
  · rw [b]; exact hc
  · rw [b, c]; exact h.new k a
  · rw [b, c]; exact hnew
  · rw [b, c]; exact h.num k a
  · rw [b, c]; exact hn
  · rw [b, c]; exact h.lnk k a
  · rw [b, c]; exact hl
theorem rdyI_ready {lg ws : List Entry} (h : 0 ≤ rdyI lg ws) : readyB lg (nth ws (rdyI lg ws).toNat) = true := by
  obtain ⟨k, h1, h2, h3⟩ := idxF_spec (readyB lg) ws 0 h
  have : (rdyI lg ws).toNat = k := by unfold rdyI; rw [h1]; simp
  rw [this]; exact h3
theorem settleN_ok : ∀ (k : Nat) (lg ws : List Entry), LogOk lg → (∀ e ∈ ws, checkEntry e = 0) → LogOk (settleN k lg ws).1 ∧ (∀ e ∈ (settleN k lg ws).2, e ∈ ws) ∧ ∃ t, (settleN k lg ws).1 = lg ++ t ∧ ∀ e ∈ t, e ∈ ws
  | 0, lg, ws, h, _ => ⟨h, fun e he => he, [], by simp [settleN], by simp⟩
  | k + 1, lg, ws, h, hc => by
    rw [settleN]
    split
    · rename_i hr
      have hm := nthM (rdyI_lt hr)
      obtain ⟨a, b, t, c, d⟩ := settleN_ok k (lg ++ [nth ws (rdyI lg ws).toNat]) (ws.eraseIdx (rdyI lg ws).toNat) (h.app (hc _ hm) (rdyI_ready hr)) (fun e he => hc e (List.mem_of_mem_eraseIdx he))
      refine ⟨a, fun e he => List.mem_of_mem_eraseIdx (b e he), nth ws (rdyI lg ws).toNat :: t, by rw [c]; simp, fun e he => ?_⟩
      rcases List.mem_cons.1 he with q | q
      · rw [q]; exact hm
      · exact List.mem_of_mem_eraseIdx (d e q)
    · exact ⟨h, fun e he => he, [], by simp, by simp⟩
theorem settled_ok {lg ws : List Entry} (h : LogOk lg) (hc : ∀ e ∈ ws, checkEntry e = 0) : LogOk (settled lg ws).1 ∧ (∀ e ∈ (settled lg ws).2, e ∈ ws) ∧ ∃ t, (settled lg ws).1 = lg ++ t ∧ ∀ e ∈ t, e ∈ ws := settleN_ok _ _ _ h hc
theorem heads_in {lg : List Entry} (h : LogOk lg) {c : Int} {x : Id} (hx : x ∈ sortI (headsC lg c)) : ∃ k, k < lg.length ∧ (nth lg k).id = x ∧ meetB (nth lg k).c c = true := by
  obtain ⟨k, a, b, d, -⟩ := (mem_headsC h).1 (sortI_mem.1 hx)
  exact ⟨k, a, b, d⟩
theorem apE_ok {r : Int} {lg : List Entry} {c : Int} {t : ByteArray} (hr : r = 0 ∨ r = 1) (h : LogOk lg) (he : apErr r lg c t = 0) : checkEntry (apE r lg c t) = 0 ∧ readyB lg (apE r lg c t) = true := by
  unfold apErr at he
  split at he
  · cases he
  · rename_i hc
    split at he
    · cases he
    · rename_i hq
      have hq1 : ¬ 12 < t.size := by omega
      have hq2 : ¬ (20 : Int) < (cntR lg r : Int) + 1 := by omega
      have hq3 : ¬ 6 < (sortI (headsC lg c)).length := by omega
      have hid : okId (apE r lg c t).id = true := by
        simp only [apE, okId, Bool.and_eq_true, wthn_iff]; omega
      have hasc : Asc (sortI (headsC lg c)) := sortI_asc (headsC_nodup h c)
      have hin : ∀ j, j < (sortI (headsC lg c)).length → ∃ k, k < lg.length ∧ (nth lg k).id = nth (sortI (headsC lg c)) j := fun j hj => by
        obtain ⟨k, a, b, -⟩ := heads_in h (nth_mem hj)
        exact ⟨k, a, b⟩
      refine ⟨?_, ready_iff.2 ⟨rfl, fun x hx => ?_⟩⟩
      · rw [checkEntry, if_neg (by simp [hid]), if_neg (by simpa [apE] using hc), if_neg (by simpa [apE] using hq1), if_neg (by simpa [apE] using hq3), firstNZ_zero]
        intro j hj
        have hj' : j < (sortI (headsC lg c)).length := hj
        obtain ⟨k, hk, hke⟩ := hin j hj'
        show linkErr (apE r lg c t).id (sortI (headsC lg c)) j = 0
        rw [linkErr, ← hke, if_neg (by simp [h.id_ok hk]), hke, if_neg, if_neg]
        · rintro ⟨a, b⟩
          have := h.num_le hk
          rw [hke] at this
          simp only [apE] at a b
          rw [a] at this
          omega
        · intro q
          simp only [Bool.and_eq_true, decide_eq_true_eq, Bool.not_eq_true'] at q
          obtain ⟨q1, q2⟩ := q
          have := (List.pairwise_iff_getElem.1 hasc) (j - 1) j (by omega) hj' (by omega)
          rw [← nth_eq, ← nth_eq, q2] at this
          cases this
      · obtain ⟨k, hk, hke, -⟩ := heads_in h hx
        rw [← hke, h.find hk]; omega
theorem apE_log {r : Int} {lg : List Entry} {c : Int} {t : ByteArray} (hr : r = 0 ∨ r = 1) (h : LogOk lg) (he : apErr r lg c t = 0) : LogOk (lg ++ [apE r lg c t]) := by
  obtain ⟨a, b⟩ := apE_ok hr h he
  exact h.app a b
end Go.Proofs.YtfdolehffjmdmaaGreatDoor
/- DagHeads, as a contract. -/
namespace Go.Proofs.YtfdolehffjmdmaaGreatDoor
set_option linter.unusedSimpArgs false
set_option linter.unusedVariables false
open Go.RowKit
theorem head_over {l : List Entry} (h : LogOk l) {c : Int} : ∀ (d k : Nat), k + d = l.length → k < l.length → meetB (nth l k).c c = true → (nth l k).id ∈ headsC l c ∨ ∃ j, j < l.length ∧ (nth l j).id ∈ headsC l c ∧ (nth l k).id ∈ pastOf l j := by
  intro d
  induction d using Nat.strongRecOn with
  | _ d ih =>
    intro k hk hlt hm
    by_cases hu : ∀ i, i < l.length → meetB (nth l i).c c = true → (nth l k).id ∉ pastOf l i
    · exact .inl ((mem_headsC h).2 ⟨k, hlt, rfl, hm, hu⟩)
    · obtain ⟨i, h1, h2, h3⟩ : ∃ i, i < l.length ∧ meetB (nth l i).c c = true ∧ (nth l k).id ∈ pastOf l i := by
        apply Classical.byContradiction
        intro hn
        exact hu fun i h1 h2 h3 => hn ⟨i, h1, h2, h3⟩
      obtain ⟨j, j1, j2⟩ := pastOf_lt h i h1 _ h3
      obtain rfl := h.inj (by omega) hlt j2
      refine .inr ?_
      rcases ih (l.length - i) (by omega) i (by omega) h1 h2 with h4 | ⟨m, m1, m2, m3⟩
      · exact ⟨i, h1, h4, h3⟩
      · exact ⟨m, m1, m2, pastOf_trans h h1 m m1 m3 _ h3⟩
end Go.Proofs.YtfdolehffjmdmaaGreatDoor
/- SiteLinks, as a contract. -/
namespace Go.Proofs.YtfdolehffjmdmaaGreatDoor
set_option linter.unusedSimpArgs false
set_option linter.unusedVariables false
open Go.RowKit
theorem apErrX_bad {q : Int} {lg ws : List Entry} {c : Int} {t : ByteArray} (h : apErrX q lg ws c t ≠ 0) : apSiX q lg ws c t = (0, [], []) := by
  unfold apErrX at h
  unfold apSiX
  by_cases h0 : siErr q lg ws = 0
  · rw [if_neg (by simp [h0])] at h ⊢
    rw [apSi, if_neg h]
  · rw [if_pos h0]
theorem ap_ok {q : Int} {lg ws : List Entry} {c : Int} {t : ByteArray} (h : apErrX q lg ws c t = 0) : siErr q lg ws = 0 ∧ (q = 0 ∨ q = 1) ∧ LogOk lg ∧ wthn c 1 7 = true ∧ apErr q lg c t = 0 ∧ apSiX q lg ws c t = (q, settled (lg ++ [apE q lg c t]) ws) ∧ apEnX q lg ws c t = apE q lg c t ∧
    LogOk (settled (lg ++ [apE q lg c t]) ws).1 ∧ ∃ u, (settled (lg ++ [apE q lg c t]) ws).1 = lg ++ [apE q lg c t] ++ u := by
  unfold apErrX at h
  have h0 : siErr q lg ws = 0 := by
    by_cases h0 : siErr q lg ws = 0
    · exact h0
    · rw [if_pos h0] at h; exact h
  rw [if_neg (by simp [h0])] at h
  obtain ⟨hq, hok, hw20, hch⟩ := siErr_ok h0
  have hc : wthn c 1 7 = true := by
    unfold apErr at h
    split at h
    · cases h
    · rename_i h1; simpa using h1
  obtain ⟨a, b, u, d, -⟩ := settled_ok (apE_log hq hok h) (fun e he => by
    obtain ⟨k, hk, rfl⟩ := List.getElem_of_mem he
    rw [← nth_eq _ _ hk]; exact (hch k hk).1)
  refine ⟨h0, hq, hok, hc, h, ?_, ?_, a, u, d⟩
  · rw [apSiX, if_neg (by simp [h0]), apSi, if_pos h]
  · rw [apEnX, if_neg (by simp [h0]), apEn, if_pos h]
structure Tail (A B : List Entry) (f : Entry) (d : Int) : Prop where
  a : LogOk A
  b : LogOk B
  at_ : nth A B.length = f
  lt : B.length < A.length
  eq : ∀ k, k < B.length → nth A k = nth B k
  past : ∀ k, k < B.length → pastOf A k = pastOf B k
  ls : f.ls = sortI (headsC B d)
theorem tail_of {A B : List Entry} {f : Entry} {d : Int} {u : List Entry} (hA : LogOk A) (hB : LogOk B) (h : A = B ++ [f] ++ u) (hf : f.ls = sortI (headsC B d)) : Tail A B f d := by
  have hlt : B.length < A.length := by rw [h]; simp
  have htk : A.take B.length = B := by rw [h, List.append_assoc, List.take_left]
  refine ⟨hA, hB, ?_, hlt, fun k hk => ?_, fun k hk => ?_, hf⟩
  · rw [nth_eq _ _ hlt]; simp [h]
  · rw [← nth_take (l := A) (n := B.length) hk (by omega), htk]
  · have := pastOf_take hA (n := B.length) (by omega) k hk
    rw [← this, htk]
theorem Tail.head {A B : List Entry} {f : Entry} {d : Int} (h : Tail A B f d) {x : Id} (hx : x ∈ f.ls) : ∃ k, k < B.length ∧ (nth A k).id = x ∧ meetB (nth B k).c d = true ∧ ∀ i, i < B.length → meetB (nth B i).c d = true → x ∉ pastOf A i := by
  rw [h.ls] at hx
  obtain ⟨k, a, b, c, e⟩ := (mem_headsC h.b).1 (sortI_mem.1 hx)
  exact ⟨k, a, by rw [h.eq k a]; exact b, c, fun i hi hm => by rw [h.past i hi]; exact e i hi hm⟩
theorem Tail.over {A B : List Entry} {f : Entry} {d : Int} (h : Tail A B f d) {k : Nat} (hk : k < B.length) (hm : meetB (nth B k).c d = true) : (nth B k).id ∈ pastOf A B.length := by
  rw [mem_pastOf h.a h.lt, h.at_, h.ls]
  rcases head_over h.b (B.length - k) k (by omega) hk hm with q | ⟨j, hj, q, p⟩
  · exact ⟨_, sortI_mem.2 q, .inl rfl⟩
  · refine ⟨_, sortI_mem.2 q, .inr ?_⟩
    have := h.a.find (k := j) (by have := h.lt; omega)
    rw [h.eq j hj] at this
    rw [this, Int.toNat_natCast, h.past j hj]
    exact p
theorem Tail.apart {A B : List Entry} {f : Entry} {d : Int} (h : Tail A B f d) {x : Id} (hx : x ∈ f.ls) : ∃ k, pastErr A x = 0 ∧ pastIds A x = pastOf A k ∧ (pastOf A k).length ≤ 40 ∧ ∀ y ∈ f.ls, hasI (pastOf A k) y = false := by
  obtain ⟨k, hk, rfl, hm, -⟩ := h.head hx
  have hka : k < A.length := by have := h.lt; omega
  obtain ⟨p1, p2⟩ := past_at (log_ok.2 h.a) hka
  refine ⟨k, p1, p2, pastOf_len h.a hka, fun y hy => ?_⟩
  obtain ⟨k', hk', -, -, hn⟩ := h.head hy
  cases e : hasI (pastOf A k) y
  · rfl
  · exact (hn k hk hm (hasI_iff.1 e)).elim
end Go.Proofs.YtfdolehffjmdmaaGreatDoor
/- Maps hang on the set of entries; what one who knows all puts or drops: plain laws. -/
namespace Go.Proofs.YtfdolehffjmdmaaGreatDoor
open Go.RowKit
theorem past_same {l m : List Entry} (hl : LogOk l) (hm : LogOk m) (hs : ∀ e ∈ l, e ∈ m) : ∀ (k : Nat), k < l.length → ∀ j, j < m.length → (nth l k).id = (nth m j).id → pastOf l k = pastOf m j := by
  intro k
  induction k using Nat.strongRecOn with
  | ind k ih =>
  intro hk j hj e
  have hent : nth m j = nth l k := by
    obtain ⟨i, hi, ei⟩ := memN.1 (hs (nth l k) (memN.2 ⟨k, hk, rfl⟩))
    have : i = j := hm.inj hi hj (by rw [ei, e])
    rw [← this, ei]
  refine asc_ext (pastOf_asc hl hk) (pastOf_asc hm hj) fun y => ?_
  rw [mem_pastOf hl hk, mem_pastOf hm hj, hent]
  refine exists_congr fun x => and_congr_right fun hx => ?_
  have h1 := hl.link_lt hk hx
  have h2 := hm.link_lt hj (x := x) (by rw [hent]; exact hx)
  obtain ⟨k', e1, hk', ek⟩ := findE_spec h1.1
  obtain ⟨j', e2, hj', ej⟩ := findE_spec h2.1
  rw [e1, e2, Int.toNat_natCast, Int.toNat_natCast, ih k' (by omega) hk' j' hj' (by rw [ek, ej])]
def standE (l : List Entry) (c : Int) (e : Entry) : Prop := (opOf e.t).1 = 1 ∧ meetB e.c c = true ∧ ∀ n, n < l.length → (opOf (nth l n).t).1 ≠ 0 → (opOf (nth l n).t).2.1 = (opOf e.t).2.1 → meetB (nth l n).c c = true → e.id ∉ pastOf l n
theorem raw_iff {l : List Entry} {c : Int} (h : LogOk l) {k v : ByteArray} : inM (rawL l c) k v ↔ ∃ i, i < l.length ∧ standE l c (nth l i) ∧ (opOf (nth l i).t).2.1 = k ∧ (opOf (nth l i).t).2.2 = v := by
  rw [(raw_good l c).2]
  have hp : ∀ n, n < l.length → pastAt (pasts l) l (nth l n).id = pastOf l n := fun n hn => by rw [pastAt_eq, h.find hn, Int.toNat_natCast]
  constructor
  · rintro ⟨o, ho, rfl, rfl⟩
    obtain ⟨ho, hsb⟩ := List.mem_filter.1 ho
    obtain ⟨i, hi, m1, m2, rfl⟩ := ops_iff.1 ho
    rw [standB] at hsb
    simp only [Bool.and_eq_true, decide_eq_true_eq, Bool.not_eq_true', List.any_eq_false, not_and, Bool.not_eq_true] at hsb
    obtain ⟨s1, s2⟩ := hsb
    refine ⟨i, hi, ⟨s1, m1, fun n hn b1 b2 b3 hm => ?_⟩, rfl, rfl⟩
    have := s2 _ (ops_iff.2 ⟨n, hn, b3, b1, rfl⟩) b2
    simp only at this
    rw [hp n hn, ← Bool.not_eq_true, hasI_iff] at this
    exact this hm
  · rintro ⟨i, hi, ⟨s1, s2, s3⟩, rfl, rfl⟩
    refine ⟨⟨(nth l i).id, (opOf (nth l i).t).2.1, (opOf (nth l i).t).2.2, decide ((opOf (nth l i).t).1 = 1)⟩, List.mem_filter.2 ⟨ops_iff.2 ⟨i, hi, s2, by omega, rfl⟩, ?_⟩, rfl, rfl⟩
    rw [standB]
    simp only [s1, decide_true, Bool.true_and, Bool.not_eq_true', List.any_eq_false, Bool.and_eq_true, decide_eq_true_eq, not_and, Bool.not_eq_true]
    intro y hy hyk
    obtain ⟨n, hn, m1, m2, rfl⟩ := ops_iff.1 hy
    simp only at hyk ⊢
    rw [hp n hn, ← Bool.not_eq_true, hasI_iff]
    exact s3 n hn m2 hyk m1
theorem standE_sub {l m : List Entry} (hl : LogOk l) (hm : LogOk m) (h1 : ∀ e ∈ l, e ∈ m) {c : Int} {e : Entry} (h : standE m c e) : standE l c e := by
  obtain ⟨a, b, d⟩ := h
  refine ⟨a, b, fun n hn x1 x2 x3 hp => ?_⟩
  obtain ⟨j, hj, ej⟩ := memN.1 (h1 _ (memN.2 ⟨n, hn, rfl⟩))
  refine d j hj (by rw [ej]; exact x1) (by rw [ej]; exact x2) (by rw [ej]; exact x3) ?_
  rw [← past_same hl hm h1 n hn j hj (by rw [ej])]
  exact hp
theorem valsIn_mem {m : List KV} (h : GoodM m) {k v : ByteArray} : v ∈ valsIn m k ↔ inM m k v := by
  unfold valsIn
  cases hf : m.find? fun p => decide (p.1 = k) with
  | some p =>
    have hp := List.mem_of_find?_eq_some hf
    have hk : p.1 = k := by simpa using List.find?_some hf
    constructor
    · exact fun hv => ⟨p, hp, hk, hv⟩
    · rintro ⟨q, hq, hqk, hv⟩
      rw [h.one hp hq (by rw [hk, hqk])]; exact hv
  | none =>
    constructor
    · exact fun hv => by cases hv
    · rintro ⟨q, hq, hqk, hv⟩
      have := List.find?_eq_none.1 hf q hq
      simp [hqk] at this
theorem valsIn_up {m : List KV} (h : GoodM m) (k : ByteArray) : Up (valsIn m k) := by
  unfold valsIn
  cases hf : m.find? fun p => decide (p.1 = k) with
  | some p => exact (h.vals p (List.mem_of_find?_eq_some hf)).1
  | none => exact List.Pairwise.nil
section
variable {lg : List Entry} {f : Entry} {c : Int}
theorem last_other (hl : LogOk lg) (hm : LogOk (lg ++ [f])) {k v : ByteArray} (hk : (opOf f.t).2.1 ≠ k) : inM (rawL (lg ++ [f]) c) k v ↔ inM (rawL lg c) k v := by
  have h1 : ∀ e ∈ lg, e ∈ lg ++ [f] := fun e he => List.mem_append_left _ he
  have hend : nth (lg ++ [f]) lg.length = f := by simp [nth]
  have hlen : (lg ++ [f]).length = lg.length + 1 := by simp
  have hin : ∀ i, i < lg.length → nth (lg ++ [f]) i = nth lg i := fun i hi => by
    rw [nth_eq _ _ hi, nth_eq _ _ (by omega), List.getElem_append_left hi]
  rw [raw_iff hl, raw_iff hm]
  constructor
  · rintro ⟨i, hi, s, e1, e2⟩
    rcases Nat.lt_or_ge i lg.length with hlt | hge
    · rw [hin i hlt] at s e1 e2
      exact ⟨i, hlt, standE_sub hl hm h1 s, e1, e2⟩
    · obtain rfl : i = lg.length := by omega
      rw [hend] at e1
      exact (hk e1).elim
  · rintro ⟨i, hi, ⟨a, b, d⟩, e1, e2⟩
    refine ⟨i, by omega, ?_, by rw [hin i hi]; exact e1, by rw [hin i hi]; exact e2⟩
    rw [hin i hi]
    refine ⟨a, b, fun n hn x1 x2 x3 hp => ?_⟩
    rcases Nat.lt_or_ge n lg.length with hlt | hge
    · rw [hin n hlt] at x1 x2 x3
      refine d n hlt x1 x2 x3 ?_
      rw [past_same hl hm h1 n hlt n (by omega) (by rw [hin n hlt])]
      exact hp
    · obtain rfl : n = lg.length := by omega
      rw [hend] at x2
      exact hk (x2.trans e1)
theorem last_own (hl : LogOk lg) (hm : LogOk (lg ++ [f])) (hop : (opOf f.t).1 ≠ 0) (hc : meetB f.c c = true) (ho : ∀ k, k < lg.length → meetB (nth lg k).c c = true → (nth lg k).id ∈ pastOf (lg ++ [f]) lg.length) {v : ByteArray} :
    inM (rawL (lg ++ [f]) c) (opOf f.t).2.1 v ↔ (opOf f.t).1 = 1 ∧ (opOf f.t).2.2 = v := by
  have hend : nth (lg ++ [f]) lg.length = f := by simp [nth]
  have hlen : (lg ++ [f]).length = lg.length + 1 := by simp
  have hin : ∀ i, i < lg.length → nth (lg ++ [f]) i = nth lg i := fun i hi => by
    rw [nth_eq _ _ hi, nth_eq _ _ (by omega), List.getElem_append_left hi]
  rw [raw_iff hm]
  constructor
  · rintro ⟨i, hi, ⟨a, b, d⟩, e1, e2⟩
    rcases Nat.lt_or_ge i lg.length with hlt | hge
    · have := d lg.length (by omega) (by rw [hend]; exact hop) (by rw [hend]; exact e1.symm) (by rw [hend]; exact hc)
      rw [hin i hlt] at this b
      exact (this (ho i hlt b)).elim
    · obtain rfl : i = lg.length := by omega
      rw [hend] at a e2
      exact ⟨a, e2⟩
  · rintro ⟨a, e2⟩
    refine ⟨lg.length, by omega, ?_, by rw [hend], by rw [hend]; exact e2⟩
    rw [hend]
    refine ⟨a, hc, fun n hn _ _ _ hp => ?_⟩
    obtain ⟨j, hj, ej⟩ := pastOf_lt hm n hn _ hp
    have := hm.inj (i := j) (k := lg.length) (by omega) (by omega) (by rw [ej, hend])
    omega
theorem last_put (hl : LogOk lg) (hm : LogOk (lg ++ [f])) (hc : meetB f.c c = true) (ho : ∀ k, k < lg.length → meetB (nth lg k).c c = true → (nth lg k).id ∈ pastOf (lg ++ [f]) lg.length) {key value : ByteArray} (hop : opOf f.t = (1, key, value)) :
    valsIn (rawL (lg ++ [f]) c) key = [value] := by
  refine up_eq (valsIn_up (raw_good _ c).1 key) (List.pairwise_singleton _ _) fun v => ?_
  have := last_own (c := c) hl hm (by rw [hop]; simp) hc ho (v := v)
  rw [hop] at this
  rw [valsIn_mem (raw_good _ c).1, this]
  simp [eq_comm]
theorem last_drop (hl : LogOk lg) (hm : LogOk (lg ++ [f])) (hc : meetB f.c c = true) (ho : ∀ k, k < lg.length → meetB (nth lg k).c c = true → (nth lg k).id ∈ pastOf (lg ++ [f]) lg.length) {key value : ByteArray} (hop : opOf f.t = (2, key, value)) :
    valsIn (rawL (lg ++ [f]) c) key = [] := by
  refine List.eq_nil_iff_forall_not_mem.2 fun v hv => ?_
  have := last_own (c := c) hl hm (by rw [hop]; simp) hc ho (v := v)
  rw [hop] at this
  rw [valsIn_mem (raw_good _ c).1, this] at hv
  simp at hv
theorem last_keep (hl : LogOk lg) (hm : LogOk (lg ++ [f])) {k : ByteArray} (hk : (opOf f.t).2.1 ≠ k) : valsIn (rawL (lg ++ [f]) c) k = valsIn (rawL lg c) k := by
  refine up_eq (valsIn_up (raw_good _ c).1 k) (valsIn_up (raw_good _ c).1 k) fun v => ?_
  rw [valsIn_mem (raw_good _ c).1, valsIn_mem (raw_good _ c).1, last_other hl hm hk]
end
theorem op_putW {key value : ByteArray} (hk : wordS key = true) (hv : wordS value = true) : opOf (putSpB ++ key ++ spB ++ value) = (1, key, value) := by
  have hp : piecesS (putSpB ++ key ++ spB ++ value) = [putB, key, value] := pieces_of (by
    have : (putSpB ++ key ++ spB ++ value).data.toList = putB.data.toList ++ 32 :: (key.data.toList ++ 32 :: value.data.toList) := by
      simp [ByteArray.data_append, putSpB, putB, spB]
    rw [this, spL_app (by decide), spL_app (word_no hk), spL_no (word_no hv)]; rfl)
  rw [opOf, hp]
  simp [hk, hv]
theorem op_dropW {key : ByteArray} (hk : wordS key = true) : opOf (dropSpB ++ key) = (2, key, ⟨#[]⟩) := by
  have hp : piecesS (dropSpB ++ key) = [dropB, key] := pieces_of (by
    have : (dropSpB ++ key).data.toList = dropB.data.toList ++ 32 :: key.data.toList := by
      simp [ByteArray.data_append, dropSpB, dropB]
    rw [this, spL_app (by decide), spL_no (word_no hk)]; rfl)
  rw [opOf, hp]
  simp [hk]
end Go.Proofs.YtfdolehffjmdmaaGreatDoor
/- FoldTells, as a contract. -/
namespace Go.Proofs.YtfdolehffjmdmaaGreatDoor
set_option linter.unusedSimpArgs false
set_option linter.unusedVariables false
open Go.RowKit
def entsF : List Entry := [e0, e1, e2, e3]
theorem ents_check : checkLog entsF = 0 := by decide +kernel
theorem ents_map : mapR entsF 3 = [(⟨#[97]⟩, [⟨#[121]⟩]), (⟨#[98]⟩, [⟨#[122]⟩])] := by decide +kernel
theorem ents_raw : rawL entsF 3 = [(⟨#[97]⟩, [⟨#[121]⟩]), (⟨#[98]⟩, [⟨#[122]⟩])] := by rw [← raw_map (log_ok.1 ents_check), ents_map]
set_option maxRecDepth 20000 in
set_option maxHeartbeats 4000000 in
theorem foldBegun_meets : Meets Tryz.prog 17 [] [] (.bool true) [] := by
  have hme : mapErr entsF 3 = 0 := by decide +kernel
  have hge : getErr entsF 3 ⟨#[97]⟩ = 0 := by decide +kernel
  have hml : mapL entsF 3 = [(⟨#[97]⟩, [⟨#[121]⟩]), (⟨#[98]⟩, [⟨#[122]⟩])] := by rw [mapL, if_pos hme, ents_raw]
  have hgl : getL entsF 3 ⟨#[97]⟩ = [⟨#[121]⟩] := by rw [getL, if_pos hge, ents_raw]; decide +kernel
  have ho1 : opOf ⟨#[112, 117, 116, 32, 97, 98, 32, 99, 49]⟩ = (1, ⟨#[97, 98]⟩, ⟨#[99, 49]⟩) := by decide +kernel
  have ho2 : opOf ⟨#[112, 117, 116, 32, 97, 98]⟩ = (0, ⟨#[]⟩, ⟨#[]⟩) := by decide +kernel
  have m1 := map_meets entsF 3 (by decide)
  have m2 := get_meets entsF 3 ⟨#[97]⟩ (by decide) (by decide)
  have m3 := op_meets ⟨#[112, 117, 116, 32, 97, 98, 32, 99, 49]⟩ (by decide)
  have m4 := op_meets ⟨#[112, 117, 116, 32, 97, 98]⟩ (by decide)
  have m5 := ftexts_meets [⟨#[121]⟩] [⟨#[121]⟩] (by decide)
  rw [hme, hml] at m1
  rw [hge, hgl] at m2
  rw [ho1] at m3
  rw [ho2] at m4
  refine Meets.of_walk Tryz.func17 Tryz.ntmps17 low17 res17 (by simp) fun x hx => ?_
  simp only [go_sem, Nat.reduceLT, Nat.reduceAdd, Nat.reduceEqDiff, Nat.reduceLeDiff, Nat.reduceSub, Nat.reduceMul, Int.reduceEq, eq_self, reduceIte, L17, R17]
  refine ops_call (.pure entries_meets) ?_
  simp only [go_sem, Nat.reduceLT, Nat.reduceAdd, Nat.reduceEqDiff, Nat.reduceLeDiff, Nat.reduceSub, Nat.reduceMul, Int.reduceEq, eq_self, reduceIte]
  refine ops_call (.pureE m1 (by simp [go_sem, Nat.reduceLT, Nat.reduceAdd, Nat.reduceEqDiff, Nat.reduceLeDiff, Nat.reduceSub, Nat.reduceMul, Int.reduceEq, eq_self, reduceIte, entsF])) ?_
  simp only [go_sem, Nat.reduceLT, Nat.reduceAdd, Nat.reduceEqDiff, Nat.reduceLeDiff, Nat.reduceSub, Nat.reduceMul, Int.reduceEq, eq_self, reduceIte]
  refine ops_call (.pure entries_meets) ?_
  simp only [go_sem, Nat.reduceLT, Nat.reduceAdd, Nat.reduceEqDiff, Nat.reduceLeDiff, Nat.reduceSub, Nat.reduceMul, Int.reduceEq, eq_self, reduceIte]
  refine ops_call (.pureE m2 (by simp [go_sem, Nat.reduceLT, Nat.reduceAdd, Nat.reduceEqDiff, Nat.reduceLeDiff, Nat.reduceSub, Nat.reduceMul, Int.reduceEq, eq_self, reduceIte, entsF])) ?_
  simp only [go_sem, Nat.reduceLT, Nat.reduceAdd, Nat.reduceEqDiff, Nat.reduceLeDiff, Nat.reduceSub, Nat.reduceMul, Int.reduceEq, eq_self, reduceIte]
  refine ops_call (.pureE m3 (by simp [go_sem, Nat.reduceLT, Nat.reduceAdd, Nat.reduceEqDiff, Nat.reduceLeDiff, Nat.reduceSub, Nat.reduceMul, Int.reduceEq, eq_self, reduceIte])) ?_
  simp only [go_sem, Nat.reduceLT, Nat.reduceAdd, Nat.reduceEqDiff, Nat.reduceLeDiff, Nat.reduceSub, Nat.reduceMul, Int.reduceEq, eq_self, reduceIte, cOp4]
  refine ops_call (.pureE m4 (by simp [go_sem, Nat.reduceLT, Nat.reduceAdd, Nat.reduceEqDiff, Nat.reduceLeDiff, Nat.reduceSub, Nat.reduceMul, Int.reduceEq, eq_self, reduceIte])) ?_
  have hb : ((⟨#[98]⟩ : ByteArray) = ⟨#[98]⟩) = True := eq_self _
  simp only [go_sem, Nat.reduceLT, Nat.reduceAdd, Nat.reduceEqDiff, Nat.reduceLeDiff, Nat.reduceSub, Nat.reduceMul, Int.reduceEq, eq_self, reduceIte, Int.ofNat_zero, Int.natCast_one, Int.cast_ofNat_Int, Int.reduceLT, Int.reduceLE, Int.reduceToNat, Nat.reduceLT, Int.toNat_zero, Int.natCast_zero, Int.le_refl, Int.lt_irrefl, Int.reduceAdd, frz, false_or, or_true, cOp4, cPair, List.map_cons, List.map_nil, List.length_cons, List.length_nil, decide_true, PV.isPure, List.all_cons, List.all_nil, Bool.and_self]
  refine ops_call (.scalarE m5 rfl (by simp [go_sem, Nat.reduceLT, Nat.reduceAdd, Nat.reduceEqDiff, Nat.reduceLeDiff, Nat.reduceSub, Nat.reduceMul, Int.reduceEq, eq_self, reduceIte, frzAt, pos, cStr])) ?_
  simp only [go_sem, Nat.reduceLT, Nat.reduceAdd, Nat.reduceEqDiff, Nat.reduceLeDiff, Nat.reduceSub, Nat.reduceMul, Int.reduceEq, eq_self, reduceIte, Int.ofNat_zero, Int.natCast_one, Int.cast_ofNat_Int, Int.reduceLT, Int.reduceLE, Int.reduceToNat, Nat.reduceLT, Int.toNat_zero, Int.natCast_zero, Int.le_refl, Int.lt_irrefl, Int.reduceAdd, frz, false_or, or_true, decide_true]
  refine ret_pure hx ?_
  simp [go_sem, Nat.reduceLT, Nat.reduceAdd, Nat.reduceEqDiff, Nat.reduceLeDiff, Nat.reduceSub, Nat.reduceMul, Int.reduceEq, eq_self, reduceIte, L17, R17]
end Go.Proofs.YtfdolehffjmdmaaGreatDoor
/- Sites: what comes, what is appended and what settles leaves a right site (plain). -/
namespace Go.Proofs.YtfdolehffjmdmaaGreatDoor
open Go.RowKit
structure WaitOk (q : Int) (lg ws : List Entry) : Prop where
  up : upE ws
  chk : ∀ e ∈ ws, checkEntry e = 0
  other : ∀ e ∈ ws, e.id.r ≠ q
  new : ∀ e ∈ ws, findE lg e.id < 0
end Go.Proofs.YtfdolehffjmdmaaGreatDoor
/- SiteRight, as a contract. -/
namespace Go.Proofs.YtfdolehffjmdmaaGreatDoor
set_option linter.unusedSimpArgs false
set_option linter.unusedVariables false
open Go.RowKit
end Go.Proofs.YtfdolehffjmdmaaGreatDoor
/- FoldLast, as a contract. -/
namespace Go.Proofs.YtfdolehffjmdmaaGreatDoor
set_option linter.unusedSimpArgs false
set_option linter.unusedVariables false
open Go.RowKit
theorem apErr_text {q : Int} {lg : List Entry} {c : Int} {t t' : ByteArray} (h : apErr q lg c t = 0) (ht : t'.size ≤ 12) : apErr q lg c t' = 0 := by
  unfold apErr at h ⊢
  split at h
  · cases h
  · rename_i h1
    rw [if_neg h1]
    split at h
    · cases h
    · rename_i h2
      rw [if_neg (by omega)]
theorem apErrX_text {q : Int} {lg ws : List Entry} {c : Int} {t t' : ByteArray} (h : apErrX q lg ws c t = 0) (ht : t'.size ≤ 12) : apErrX q lg ws c t' = 0 := by
  obtain ⟨h0, -, -, -, h1, -⟩ := ap_ok h
  rw [apErrX, if_neg (by simp [h0])]
  exact apErr_text h1 ht
structure LastOf (q : Int) (lg ws : List Entry) (c : Int) (t : ByteArray) (A WA : List Entry) (f : Entry) : Prop where
  err : apErrX q lg ws c t = 0
  si : apSiX q lg ws c t = (q, A, WA)
  en : apEnX q lg ws c t = f
  log : LogOk (lg ++ [f])
  old : LogOk lg
  len : lg.length + 1 ≤ A.length
  up : A.length ≤ 40
  wup : WA.length ≤ ws.length
  tk : (A.map cE).take (lg.length + 1) = (lg ++ [f]).map cE
  col : wthn c 1 7 = true
  fc : meetB f.c c = true
  ft : f.t = t
  over : ∀ k, k < lg.length → meetB (nth lg k).c c = true → (nth lg k).id ∈ pastOf (lg ++ [f]) lg.length
theorem meetB_self {c : Int} (h : wthn c 1 7 = true) : meetB c c = true := by
  rw [wthn_iff] at h
  have : c = 1 ∨ c = 2 ∨ c = 3 ∨ c = 4 ∨ c = 5 ∨ c = 6 ∨ c = 7 := by omega
  rcases this with rfl | rfl | rfl | rfl | rfl | rfl | rfl <;> decide
theorem last_of {q : Int} {lg ws : List Entry} {c : Int} {t : ByteArray} (h : apErrX q lg ws c t = 0) : ∃ A WA f, LastOf q lg ws c t A WA f := by
  obtain ⟨h0, hq, hok, hc, h2, b1, b2, b3, u, b4⟩ := ap_ok h
  have hl := apE_log hq hok h2
  have hT := tail_of (u := []) hl hok (by simp) (show (apE q lg c t).ls = sortI (headsC lg c) from rfl)
  have hws := (settled_sum (lg ++ [apE q lg c t]) ws)
  refine ⟨(settled (lg ++ [apE q lg c t]) ws).1, (settled (lg ++ [apE q lg c t]) ws).2, apE q lg c t, ⟨h, b1, b2, hl, hok, by rw [b4]; simp, b3.len, hws.2, ?_, hc, meetB_self hc, rfl, fun k hk hm => hT.over hk hm⟩⟩
  rw [b4, ← List.map_take, List.take_left' (by simp)]
theorem get_ok {l : List Entry} {c : Int} {k : ByteArray} (h : LogOk l) (hc : wthn c 1 7 = true) (hk : wordS k = true) : getErr l c k = 0 ∧ getL l c k = valsIn (rawL l c) k := by
  have hm : mapErr l c = 0 := mapErr_ok.2 ⟨h, hc⟩
  have he : getErr l c k = 0 := by simp [getErr, hm, hk]
  exact ⟨he, by rw [getL, if_pos he]⟩
theorem LastOf.put {q : Int} {lg ws A WA : List Entry} {c : Int} {t key value : ByteArray} {f : Entry} (h : LastOf q lg ws c t A WA f) (hop : opOf t = (1, key, value)) (hk : wordS key = true) : getErr (lg ++ [f]) c key = 0 ∧ getL (lg ++ [f]) c key = [value] := by
  obtain ⟨a, b⟩ := get_ok h.log h.col hk
  exact ⟨a, by rw [b, last_put h.old h.log h.fc h.over (by rw [h.ft, hop])]⟩
theorem LastOf.drop {q : Int} {lg ws A WA : List Entry} {c : Int} {t key value : ByteArray} {f : Entry} (h : LastOf q lg ws c t A WA f) (hop : opOf t = (2, key, value)) (hk : wordS key = true) : getErr (lg ++ [f]) c key = 0 ∧ getL (lg ++ [f]) c key = [] := by
  obtain ⟨a, b⟩ := get_ok h.log h.col hk
  exact ⟨a, by rw [b, last_drop h.old h.log h.fc h.over (by rw [h.ft, hop])]⟩
theorem LastOf.keep {q : Int} {lg ws A WA : List Entry} {c : Int} {t key value other : ByteArray} {n : Int} {f : Entry} (h : LastOf q lg ws c t A WA f) (hop : opOf t = (n, key, value)) (hk : key ≠ other) : getErr (lg ++ [f]) c other = getErr lg c other ∧ getL (lg ++ [f]) c other = getL lg c other := by
  have h1 : mapErr (lg ++ [f]) c = 0 := mapErr_ok.2 ⟨h.log, h.col⟩
  have h2 : mapErr lg c = 0 := mapErr_ok.2 ⟨h.old, h.col⟩
  have he : getErr (lg ++ [f]) c other = getErr lg c other := by simp [getErr, h1, h2]
  refine ⟨he, ?_⟩
  rw [getL, getL, he, last_keep h.old h.log (by rw [h.ft, hop]; exact hk)]
theorem map_len40 {l : List Entry} {c : Int} (h : mapErr l c = 0) : (rawL l c).length ≤ 40 ∧ ∀ p ∈ rawL l c, p.2.length ≤ 9223372036854775806 := by
  obtain ⟨hok, -⟩ := mapErr_ok.1 h
  have hm := hok.len
  have hr := rawL_len l c
  refine ⟨by omega, fun p hp => ?_⟩
  rw [← raw_map hok] at hp
  obtain ⟨k', -, h2⟩ := List.mem_filterMap.1 hp
  unfold mapOne at h2
  split at h2
  · cases h2
  · cases h2
    have := (valsTo_up l c k' l.length).2
    show (valsTo l c k' l.length).length ≤ _
    omega
theorem vals_len {l : List Entry} {c : Int} {k : ByteArray} : (getL l c k).length ≤ 9223372036854775806 := by
  unfold getL
  split
  · rename_i h0
    obtain ⟨-, h2⟩ := map_len40 (l := l) (c := c) (by unfold getErr at h0; split at h0 <;> assumption)
    unfold valsIn
    split
    · rename_i p hp; exact h2 p (List.mem_of_find?_eq_some hp)
    · simp
  · simp
set_option maxRecDepth 20000 in
set_option maxHeartbeats 8000000 in
theorem foldLast_meets (q : Int) (lg ws : List Entry) (c : Int) (key value other : ByteArray) (hl : lg.length ≤ 1000000000000000) (hw : ws.length ≤ 1000000000000000) (hk : key.size ≤ 1000000000000000) (hv : value.size ≤ 1000000000000000) (ho : other.size ≤ 1000000000000000) :
    Meets Tryz.prog 5 [.agg (cSi q lg ws), .int .i64 c, .str key, .str value, .str other] [] (.bool true) [] := by
  refine Meets.of_walk Tryz.func5 Tryz.ntmps5 low5 res5 (by simp) fun x hx => ?_
  simp only [go_sem, Nat.reduceLT, Nat.reduceAdd, Nat.reduceEqDiff, Nat.reduceLeDiff, Nat.reduceSub, Nat.reduceMul, Int.reduceEq, eq_self, reduceIte, L5, R5, cSi]
  refine ops_call (.pure foldBegun_meets) ?_
  simp only [go_sem, Nat.reduceLT, Nat.reduceAdd, Nat.reduceEqDiff, Nat.reduceLeDiff, Nat.reduceSub, Nat.reduceMul, Int.reduceEq, eq_self, reduceIte]
  refine ops_call (.pure siteBegun_meets) ?_
  simp only [go_sem, Nat.reduceLT, Nat.reduceAdd, Nat.reduceEqDiff, Nat.reduceLeDiff, Nat.reduceSub, Nat.reduceMul, Int.reduceEq, eq_self, reduceIte]
  refine ops_call (.pureE (isWord_meets key hk) (by simp [go_sem, Nat.reduceLT, Nat.reduceAdd, Nat.reduceEqDiff, Nat.reduceLeDiff, Nat.reduceSub, Nat.reduceMul, Int.reduceEq, eq_self, reduceIte])) ?_
  cases w1 : wordS key
  · simp only [go_sem, Nat.reduceLT, Nat.reduceAdd, Nat.reduceEqDiff, Nat.reduceLeDiff, Nat.reduceSub, Nat.reduceMul, Int.reduceEq, eq_self, reduceIte, Int.ofNat_zero, Int.natCast_one, Int.cast_ofNat_Int, Int.reduceLT, Int.reduceLE, Int.reduceToNat, Nat.reduceLT, Int.toNat_zero, Int.natCast_zero, Int.le_refl, Int.lt_irrefl, Int.reduceAdd, frz, false_or, or_true]
    refine ret_pure hx ?_
    simp [go_sem, Nat.reduceLT, Nat.reduceAdd, Nat.reduceEqDiff, Nat.reduceLeDiff, Nat.reduceSub, Nat.reduceMul, Int.reduceEq, eq_self, reduceIte, L5, R5]
  simp only [go_sem, Nat.reduceLT, Nat.reduceAdd, Nat.reduceEqDiff, Nat.reduceLeDiff, Nat.reduceSub, Nat.reduceMul, Int.reduceEq, eq_self, reduceIte, Int.ofNat_zero, Int.natCast_one, Int.cast_ofNat_Int, Int.reduceLT, Int.reduceLE, Int.reduceToNat, Nat.reduceLT, Int.toNat_zero, Int.natCast_zero, Int.le_refl, Int.lt_irrefl, Int.reduceAdd, frz, false_or, or_true]
  refine ops_call (.pureE (isWord_meets value hv) (by simp [go_sem, Nat.reduceLT, Nat.reduceAdd, Nat.reduceEqDiff, Nat.reduceLeDiff, Nat.reduceSub, Nat.reduceMul, Int.reduceEq, eq_self, reduceIte])) ?_
  cases w2 : wordS value
  · simp only [go_sem, Nat.reduceLT, Nat.reduceAdd, Nat.reduceEqDiff, Nat.reduceLeDiff, Nat.reduceSub, Nat.reduceMul, Int.reduceEq, eq_self, reduceIte, Int.ofNat_zero, Int.natCast_one, Int.cast_ofNat_Int, Int.reduceLT, Int.reduceLE, Int.reduceToNat, Nat.reduceLT, Int.toNat_zero, Int.natCast_zero, Int.le_refl, Int.lt_irrefl, Int.reduceAdd, frz, false_or, or_true]
    refine ret_pure hx ?_
    simp [go_sem, Nat.reduceLT, Nat.reduceAdd, Nat.reduceEqDiff, Nat.reduceLeDiff, Nat.reduceSub, Nat.reduceMul, Int.reduceEq, eq_self, reduceIte, L5, R5]
  have lk := word_len w1
  have lv := word_len w2
  have op1 := op_putW w1 w2
  have op2 := op_dropW w1
  obtain ⟨t1, ht1⟩ : ∃ t1, t1 = putSpB ++ key ++ spB ++ value := ⟨_, rfl⟩
  obtain ⟨t2, ht2⟩ : ∃ t2, t2 = dropSpB ++ key := ⟨_, rfl⟩
  have st2 : t2.size ≤ 12 := by rw [ht2, ByteArray.size_append]; show 5 + _ ≤ _; omega
  have e1 : (⟨#[112, 117, 116, 32]⟩ ++ key ++ ⟨#[32]⟩ ++ value : ByteArray) = t1 := ht1.symm
  have e2 : (⟨#[100, 114, 111, 112, 32]⟩ ++ key : ByteArray) = t2 := ht2.symm
  rw [← ht1] at op1
  rw [← ht2] at op2
  have z1 : (#[112, 117, 116, 32] : Array UInt8).size + key.size ≤ 4611686018427387904 := by show 4 + _ ≤ _; omega
  have z2 : (#[112, 117, 116, 32] : Array UInt8).size + key.size + (#[32] : Array UInt8).size ≤ 4611686018427387904 := by show 4 + _ + 1 ≤ _; omega
  have z3 : (#[112, 117, 116, 32] : Array UInt8).size + key.size + (#[32] : Array UInt8).size + value.size ≤ 4611686018427387904 := by show 4 + _ + 1 + _ ≤ _; omega
  have z4 : (#[100, 114, 111, 112, 32] : Array UInt8).size + key.size ≤ 4611686018427387904 := by show 5 + _ ≤ _; omega
  simp only [go_sem, Nat.reduceLT, Nat.reduceAdd, Nat.reduceEqDiff, Nat.reduceLeDiff, Nat.reduceSub, Nat.reduceMul, Int.reduceEq, eq_self, reduceIte, Int.ofNat_zero, Int.natCast_one, Int.cast_ofNat_Int, Int.reduceLT, Int.reduceLE, Int.reduceToNat, Nat.reduceLT, Int.toNat_zero, Int.natCast_zero, Int.le_refl, Int.lt_irrefl, Int.reduceAdd, frz, false_or, or_true, z1, z2, z3, e1, cSi]
  refine ops_call (.pureE (siAppend_meets q lg ws c t1 (by omega) (by omega)) (by simp [go_sem, Nat.reduceLT, Nat.reduceAdd, Nat.reduceEqDiff, Nat.reduceLeDiff, Nat.reduceSub, Nat.reduceMul, Int.reduceEq, eq_self, reduceIte, cSi])) ?_
  by_cases h1 : apErrX q lg ws c t1 = 0
  · have h2 := apErrX_text h1 st2
    obtain ⟨A, WA, f, hA⟩ := last_of h1
    obtain ⟨B, WB, g, hB⟩ := last_of h2
    obtain ⟨p1, p2⟩ := hA.put op1 w1
    obtain ⟨d1, d2⟩ := hB.drop op2 w1
    have hgl := hA.old.len
    rw [h1, hA.si, hA.en]
    simp only [go_sem, Nat.reduceLT, Nat.reduceAdd, Nat.reduceEqDiff, Nat.reduceLeDiff, Nat.reduceSub, Nat.reduceMul, Int.reduceEq, eq_self, reduceIte, Int.ofNat_zero, Int.natCast_one, Int.cast_ofNat_Int, Int.reduceLT, Int.reduceLE, Int.reduceToNat, Nat.reduceLT, Int.toNat_zero, Int.natCast_zero, Int.le_refl, Int.lt_irrefl, Int.reduceAdd, frz, false_or, or_true, z4, e2, cSi3, cSi, cE]
    refine ops_call (.pureE (siAppend_meets q lg ws c t2 (by omega) (by omega)) (by simp [go_sem, Nat.reduceLT, Nat.reduceAdd, Nat.reduceEqDiff, Nat.reduceLeDiff, Nat.reduceSub, Nat.reduceMul, Int.reduceEq, eq_self, reduceIte, cSi])) ?_
    rw [h2, hB.si, hB.en]
    have la := hA.len
    have lb := hB.len
    have na : ¬ (A.length : Int) ≤ (lg.length : Int) := by omega
    have nb : ¬ (B.length : Int) ≤ (lg.length : Int) := by omega
    have wl := i64_up (k := lg.length) (by omega)
    have ra : (∀ row ∈ List.map cE A, row.length = 5) = True := eq_true (cE_row A)
    have rb : (∀ row ∈ List.map cE B, row.length = 5) = True := eq_true (cE_row B)
    have ta := hA.tk
    have tb := hB.tk
    have gl1 : (lg ++ [f]).length ≤ 9223372036854775806 := by simp; omega
    have gl2 : (lg ++ [g]).length ≤ 9223372036854775806 := by simp; omega
    simp only [go_sem, Nat.reduceLT, Nat.reduceAdd, Nat.reduceEqDiff, Nat.reduceLeDiff, Nat.reduceSub, Nat.reduceMul, Int.reduceEq, eq_self, reduceIte, Int.ofNat_zero, Int.natCast_one, Int.cast_ofNat_Int, Int.reduceLT, Int.reduceLE, Int.reduceToNat, Nat.reduceLT, Int.toNat_zero, Int.natCast_zero, Int.le_refl, Int.lt_irrefl, Int.reduceAdd, frz, false_or, or_true, na, nb, wl, la, lb, ra, rb, ta, tb, Int.sub_zero, Int.natCast_nonneg, Int.toNat_natCast, cSi3, cSi, cE]
    refine ops_call (.pureE (get_meets (lg ++ [f]) c key gl1 hk) (by simp [go_sem, Nat.reduceLT, Nat.reduceAdd, Nat.reduceEqDiff, Nat.reduceLeDiff, Nat.reduceSub, Nat.reduceMul, Int.reduceEq, eq_self, reduceIte])) ?_
    rw [p1, p2]
    simp only [go_sem, Nat.reduceLT, Nat.reduceAdd, Nat.reduceEqDiff, Nat.reduceLeDiff, Nat.reduceSub, Nat.reduceMul, Int.reduceEq, eq_self, reduceIte, Int.ofNat_zero, Int.natCast_one, Int.cast_ofNat_Int, Int.reduceLT, Int.reduceLE, Int.reduceToNat, Nat.reduceLT, Int.toNat_zero, Int.natCast_zero, Int.le_refl, Int.lt_irrefl, Int.reduceAdd, frz, false_or, or_true, na, nb, wl, la, lb, ra, rb, ta, tb, Int.sub_zero, Int.natCast_nonneg, Int.toNat_natCast, cSi3, cSi, cE]
    refine ops_call (.pureE (get_meets (lg ++ [g]) c key gl2 hk) (by simp [go_sem, Nat.reduceLT, Nat.reduceAdd, Nat.reduceEqDiff, Nat.reduceLeDiff, Nat.reduceSub, Nat.reduceMul, Int.reduceEq, eq_self, reduceIte])) ?_
    rw [d1, d2]
    simp only [go_sem, Nat.reduceLT, Nat.reduceAdd, Nat.reduceEqDiff, Nat.reduceLeDiff, Nat.reduceSub, Nat.reduceMul, Int.reduceEq, eq_self, reduceIte, Int.ofNat_zero, Int.natCast_one, Int.cast_ofNat_Int, Int.reduceLT, Int.reduceLE, Int.reduceToNat, Nat.reduceLT, Int.toNat_zero, Int.natCast_zero, Int.le_refl, Int.lt_irrefl, Int.reduceAdd, frz, false_or, or_true, na, nb, wl, la, lb, ra, rb, ta, tb, Int.sub_zero, Int.natCast_nonneg, Int.toNat_natCast, cSi3, cSi, cE, cStr]
    refine ops_call (.scalarE (ftexts_meets [value] [value] (by simp)) rfl (by simp [go_sem, Nat.reduceLT, Nat.reduceAdd, Nat.reduceEqDiff, Nat.reduceLeDiff, Nat.reduceSub, Nat.reduceMul, Int.reduceEq, eq_self, reduceIte, frzAt, pos, cStr])) ?_
    simp only [go_sem, Nat.reduceLT, Nat.reduceAdd, Nat.reduceEqDiff, Nat.reduceLeDiff, Nat.reduceSub, Nat.reduceMul, Int.reduceEq, eq_self, reduceIte, Int.ofNat_zero, Int.natCast_one, Int.cast_ofNat_Int, Int.reduceLT, Int.reduceLE, Int.reduceToNat, Nat.reduceLT, Int.toNat_zero, Int.natCast_zero, Int.le_refl, Int.lt_irrefl, Int.reduceAdd, frz, false_or, or_true, decide_true, List.map_nil, List.length_nil, cSi3, cSi, cE]
    refine ops_call (.pureE (get_meets lg c other (by omega) ho) (by simp [go_sem, Nat.reduceLT, Nat.reduceAdd, Nat.reduceEqDiff, Nat.reduceLeDiff, Nat.reduceSub, Nat.reduceMul, Int.reduceEq, eq_self, reduceIte])) ?_
    simp only [go_sem, Nat.reduceLT, Nat.reduceAdd, Nat.reduceEqDiff, Nat.reduceLeDiff, Nat.reduceSub, Nat.reduceMul, Int.reduceEq, eq_self, reduceIte, Int.ofNat_zero, Int.natCast_one, Int.cast_ofNat_Int, Int.reduceLT, Int.reduceLE, Int.reduceToNat, Nat.reduceLT, Int.toNat_zero, Int.natCast_zero, Int.le_refl, Int.lt_irrefl, Int.reduceAdd, frz, false_or, or_true, na, nb, wl, la, lb, ra, rb, ta, tb, Int.sub_zero, Int.natCast_nonneg, Int.toNat_natCast, cSi3, cSi, cE]
    refine ops_call (.pureE (get_meets (lg ++ [f]) c other gl1 ho) (by simp [go_sem, Nat.reduceLT, Nat.reduceAdd, Nat.reduceEqDiff, Nat.reduceLeDiff, Nat.reduceSub, Nat.reduceMul, Int.reduceEq, eq_self, reduceIte])) ?_
    by_cases hok : other = key
    · simp only [go_sem, Nat.reduceLT, Nat.reduceAdd, Nat.reduceEqDiff, Nat.reduceLeDiff, Nat.reduceSub, Nat.reduceMul, Int.reduceEq, eq_self, reduceIte, Int.ofNat_zero, Int.natCast_one, Int.cast_ofNat_Int, Int.reduceLT, Int.reduceLE, Int.reduceToNat, Nat.reduceLT, Int.toNat_zero, Int.natCast_zero, Int.le_refl, Int.lt_irrefl, Int.reduceAdd, frz, false_or, or_true, hok, decide_true]
      refine ret_pure hx ?_
      simp [go_sem, Nat.reduceLT, Nat.reduceAdd, Nat.reduceEqDiff, Nat.reduceLeDiff, Nat.reduceSub, Nat.reduceMul, Int.reduceEq, eq_self, reduceIte, L5, R5]
    · obtain ⟨k1, k2⟩ := hA.keep op1 (fun e => hok e.symm)
      rw [k1, k2]
      simp only [go_sem, Nat.reduceLT, Nat.reduceAdd, Nat.reduceEqDiff, Nat.reduceLeDiff, Nat.reduceSub, Nat.reduceMul, Int.reduceEq, eq_self, reduceIte, Int.ofNat_zero, Int.natCast_one, Int.cast_ofNat_Int, Int.reduceLT, Int.reduceLE, Int.reduceToNat, Nat.reduceLT, Int.toNat_zero, Int.natCast_zero, Int.le_refl, Int.lt_irrefl, Int.reduceAdd, frz, false_or, or_true, hok, decide_true, decide_false]
      refine ops_call (.pureE (ftexts_meets (getL lg c other) (getL lg c other) vals_len) (by simp [go_sem, Nat.reduceLT, Nat.reduceAdd, Nat.reduceEqDiff, Nat.reduceLeDiff, Nat.reduceSub, Nat.reduceMul, Int.reduceEq, eq_self, reduceIte])) ?_
      simp only [go_sem, Nat.reduceLT, Nat.reduceAdd, Nat.reduceEqDiff, Nat.reduceLeDiff, Nat.reduceSub, Nat.reduceMul, Int.reduceEq, eq_self, reduceIte, Int.ofNat_zero, Int.natCast_one, Int.cast_ofNat_Int, Int.reduceLT, Int.reduceLE, Int.reduceToNat, Nat.reduceLT, Int.toNat_zero, Int.natCast_zero, Int.le_refl, Int.lt_irrefl, Int.reduceAdd, frz, false_or, or_true, decide_true]
      refine ret_pure hx ?_
      simp [go_sem, Nat.reduceLT, Nat.reduceAdd, Nat.reduceEqDiff, Nat.reduceLeDiff, Nat.reduceSub, Nat.reduceMul, Int.reduceEq, eq_self, reduceIte, L5, R5]
  · rw [apErrX_bad h1]
    simp only [go_sem, Nat.reduceLT, Nat.reduceAdd, Nat.reduceEqDiff, Nat.reduceLeDiff, Nat.reduceSub, Nat.reduceMul, Int.reduceEq, eq_self, reduceIte, Int.ofNat_zero, Int.natCast_one, Int.cast_ofNat_Int, Int.reduceLT, Int.reduceLE, Int.reduceToNat, Nat.reduceLT, Int.toNat_zero, Int.natCast_zero, Int.le_refl, Int.lt_irrefl, Int.reduceAdd, frz, false_or, or_true, h1, cSi3, cSi, cE]
    refine ret_pure hx ?_
    simp [go_sem, Nat.reduceLT, Nat.reduceAdd, Nat.reduceEqDiff, Nat.reduceLeDiff, Nat.reduceSub, Nat.reduceMul, Int.reduceEq, eq_self, reduceIte, L5, R5]
end Go.Proofs.YtfdolehffjmdmaaGreatDoor
/- From an argument's reading as data to what the walks ask of memory; and from a walk that ends in 'true' to a law's statement. -/
namespace Go.Proofs.YtfdolehffjmdmaaGreatDoor
open Go.RowKit Go.ChangeShapes Go.WideShapes Go.ChangeAt
section
variable {H : Type} {enc : TypeId × Value → H} {P : Program} {w : World} {sp : Nat → Bool} {held : Bool}
theorem trodAll_stays (hl : laidOutB P = true) {W W' : World} (hb : Below W.heap.size W W') : ∀ {ts : List TypeId} {vs : List Value} {ds : List (DataW H)} {ps : List MemPlace},
    (∀ t ∈ ts, P.readableRec t = true ∧ t < P.types.size) → (∀ x ∈ ps, x.block < W.heap.size) → DataW.TrodAll enc P W 0 (fun _ => true) true ts vs ds ps → DataW.TrodAll enc P W' 0 (fun b => decide (b < W.heap.size)) true ts vs ds ps
  | [], [], [], _, _, _, h => h
  | t :: ts, v :: vs, d :: ds, _, hr, hlt, h => by
    obtain ⟨p, q, h1, h2, rfl⟩ := h
    refine ⟨p, q, Below.trod hl (hr t (by simp)).1 (hr t (by simp)).2 h1 hb (fun x hx => hlt x (by simp [hx])), trodAll_stays hl hb (fun t' ht => hr t' (by simp [ht])) (fun x hx => hlt x (by simp [hx])) h2, rfl⟩
  | [], [], _ :: _, _, _, _, h => h.elim
  | [], _ :: _, _, _, _, _, h => by cases h
  | _ :: _, [], _, _, _, _, h => by cases h
  | _ :: _, _ :: _, [], _, _, _, h => h.elim
theorem law_post {f : Func} {s : ChangeSpec} {apart : Bool} {W W' : World} {args : Array Value} {ds gs : List (DataW H)} {before : List MemPlace} {tb : TypeId}
    (hl : laidOutB P = true) (hpar : ∀ t ∈ f.params.toList, P.readableRec t = true ∧ t < P.types.size) (hres : f.resultTypes = #[tb]) (hub : P.underlying tb = some .bool) (hvars : s.vars = [])
    (hW : DataW.Whole enc P f.params.toList s.vars apart W args.toList ds gs before)
    (hs : s.fn H (ds ++ gs) = { results := [.lit (.bool true)], args := ds }) (hb : Below W.heap.size W W') : s.post enc P f apart true false false W args (.bool true) W' := by
  have hlt := hW.lt
  have hW' := hW
  obtain ⟨p, q, hA, hV, rfl, hfz, hnd⟩ := hW
  rw [hvars] at hV
  have hq : gs = [] ∧ q = [] := by
    cases gs with
    | nil => exact ⟨rfl, hV⟩
    | cons g gs => exact hV.elim
  obtain ⟨rfl, rfl⟩ := hq
  refine ⟨ds, [], _, [], p, [], hW', ?_, ?_, ?_, hb.frame _, fun h => by cases h⟩
  · rw [hs, hres]
    exact trodAll_mk1 (shut_bool hub true)
  · rw [hs]
    exact trodAll_stays hl hb hpar (fun x hx => hlt x (by simp [hx])) hA
  · rw [hs, hvars]
    rfl
theorem parsOf {ts : List TypeId} (h : (ts.all fun t => P.readableRec t && decide (t < P.types.size)) = true) : ∀ t ∈ ts, P.readableRec t = true ∧ t < P.types.size := by
  intro t ht
  have := List.all_eq_true.1 h t ht
  simpa only [Bool.and_eq_true, decide_eq_true_eq] using this
end
def I64 (n : Int) : Prop := -9223372036854775808 ≤ n ∧ n ≤ 9223372036854775807
theorem i64_of_wf {n : Int} (h : (Lit.int .i64 n).wf = true) : I64 n := by simpa [Lit.wf, IntKind.min, IntKind.max, IntKind.signed, IntKind.bits, I64] using h
section
variable {H : Type} {enc : TypeId × Value → H} {w : World} {sp : Nat → Bool} {held : Bool}
theorem lawOwn : ownKnob Tryz.prog.godebug = none := by kernel_rfl
theorem lawLaid : laidOutB Tryz.prog = true := by kernel_rfl
theorem lawBool : Tryz.prog.underlying 4 = some .bool := by kernel_rfl
theorem undInt' : Tryz.prog.underlying 3 = some (.int .i64) := by kernel_rfl
theorem cellsInt : Tryz.prog.cellsOf 3 = 1 := by kernel_rfl
theorem undId : Tryz.prog.underlying 43 = some (.struct (Tryz.prog.fieldsOf 43)) := by kernel_rfl
theorem cellsId : Tryz.prog.cellsOf 43 = 2 := by kernel_rfl
end
end Go.Proofs.YtfdolehffjmdmaaGreatDoor
/- From an argument's reading as data to abstract values; from a contract of a law to its statement. -/
namespace Go.Proofs.YtfdolehffjmdmaaGreatDoor
open Go.RowKit Go.ChangeShapes Go.WideShapes Go.ChangeAt
def Shows (w : World) (ps : List PV) (cs : List Value) : Prop := cs.length = ps.length ∧ ∀ (j : Nat) p v, ps[j]? = some p → cs[j]? = some v → RepP (fun b _ => b < w.heap.size) w p v
section
variable {H : Type} {enc : TypeId × Value → H} {P : Program} {w : World} {sp : Nat → Bool} {held : Bool}
def Opens (enc : TypeId × Value → H) (P : Program) (w : World) (sp : Nat → Bool) (held : Bool) (t : TypeId) (n : Nat) (R : List PV → Prop) : Prop :=
  P.cellsOf t = n ∧ ∀ fuel cs (y : DataW H × List MemPlace), DataW.trod enc P w 0 sp held fuel t cs = some y → (∀ k ∈ y.1.weights P t, k ≤ reachBytes) → ∃ ps, ps.length = n ∧ R ps ∧ Shows w ps cs
theorem Opens.mono {t : TypeId} {n : Nat} {R R' : List PV → Prop} (h : Opens enc P w sp held t n R) (hR : ∀ ps, R ps → R' ps) : Opens enc P w sp held t n R' :=
  ⟨h.1, fun fuel cs y hy hw => by obtain ⟨ps, h1, h2, h3⟩ := h.2 fuel cs y hy hw; exact ⟨ps, h1, hR ps h2, h3⟩⟩
theorem shows1 {p : PV} {v : Value} (h : RepP (fun b _ => b < w.heap.size) w p v) : Shows w [p] [v] := by
  refine ⟨rfl, fun j q u hj hu => ?_⟩
  cases j with
  | zero => simp at hj hu; subst hj; subst hu; exact h
  | succ j => simp at hj
theorem opens_int {t : TypeId} (ht : P.underlying t = some (.int .i64)) (hc : P.cellsOf t = 1) : Opens enc P w sp held t 1 fun ps => ∃ n, I64 n ∧ ps = [.int .i64 n] := by
  refine ⟨hc, fun fuel cs y h _ => ?_⟩
  obtain ⟨n, rfl, -, hw⟩ := DataW.trod_int ht h
  exact ⟨[.int .i64 n], rfl, ⟨n, i64_of_wf hw, rfl⟩, shows1 (.int _ _)⟩
theorem opens_str {t : TypeId} (ht : P.underlying t = some .string) (hc : P.cellsOf t = 1) : Opens enc P w sp held t 1 fun ps => ∃ s : ByteArray, s.size ≤ reachBytes ∧ ps = [.str s] := by
  refine ⟨hc, fun fuel cs y h hw => ?_⟩
  obtain ⟨s, rfl, rfl, -⟩ := DataW.trod_string ht h
  have hs := hw s.data.toList.length (by simp [DataW.weights])
  exact ⟨[.str s], rfl, ⟨s, by simpa using hs, rfl⟩, shows1 (.str _)⟩
theorem trod_elems2 {t e : TypeId} {fuel : Nat} {v : Value} {x : DataW H × List MemPlace} (ht : P.underlying t = some (.slice e)) (hsz : 0 < P.cellsOf e) (h : DataW.trod enc P w 0 sp held fuel t [v] = some x) (hw : ∀ k ∈ x.1.weights P t, k ≤ reachBytes) :
    ∃ a n c, v = .slice a n c ∧ n ≤ c ∧ c ≤ maxLen ∧ n * P.bytesOf e ≤ reachBytes ∧ ∀ k, k < n → ∃ b o cs m y, a = some ⟨b, o, none⟩ ∧ b < w.heap.size ∧ cs.length = P.cellsOf e ∧ (∀ j, j < P.cellsOf e → w.cell? ⟨b, o + k * P.cellsOf e + j, none⟩ = cs[j]?) ∧
      DataW.trod enc P w 0 sp held m e cs = some y ∧ ∀ q ∈ y.1.weights P e, q ≤ reachBytes := by
  have memAll : ∀ (ds : List (DataW H)) (d : DataW H), d ∈ ds → ∀ q ∈ d.weights P e, q ∈ DataW.weightsAll P e ds := by
    intro ds
    induction ds with
    | nil => intro d hd; cases hd
    | cons d0 ds ih =>
      intro d hd q hq
      simp only [DataW.weightsAll, List.mem_append]
      rcases List.mem_cons.1 hd with rfl | hd
      · exact .inl hq
      · exact .inr (ih d hd q hq)
  rcases DataW.trod_slice ht h with ⟨hv, -⟩ | ⟨a, len, cap, elems, rest, m, -, hv, hx, -, h1, h2, hl, hel, -, -⟩
  · exact ⟨none, 0, 0, by simpa using hv, by omega, by unfold maxLen; omega, by omega, fun k hk => by omega⟩
  · obtain rfl : v = .slice (some a) len cap := by simpa using hv
    have hwt : len * P.bytesOf e ≤ reachBytes := by
      have := hw ((elems.length + rest.length) * P.bytesOf e) (by rw [hx]; simp [DataW.weights, ht])
      have h3 : len * P.bytesOf e ≤ (elems.length + rest.length) * P.bytesOf e := Nat.mul_le_mul_right _ (by omega)
      omega
    have key : ∀ k, k < len → ∃ cs y, w.cells? 0 (a.add (k * P.cellsOf e)) (P.cellsOf e) = some cs ∧ DataW.trod enc P w 0 sp held m e cs = some y ∧ ∀ q ∈ y.1.weights P e, q ≤ reachBytes := by
      intro k hk
      have := hel k hk
      rw [List.getElem?_eq_getElem (by omega)] at this
      obtain ⟨cs, hcs, hy⟩ := Option.bind_eq_some_iff.1 this
      refine ⟨cs, _, hcs, hy, fun q hq => hw q ?_⟩
      rw [hx]
      simp only [DataW.weights, ht, List.mem_cons, List.mem_append]
      exact .inr (.inl (memAll _ _ (List.mem_map.2 ⟨_, List.getElem_mem _, rfl⟩) q hq))
    refine ⟨some a, len, cap, rfl, h1, h2, hwt, fun k hk => ?_⟩
    obtain ⟨cs0, y0, hc0, -⟩ := key 0 (by omega)
    have h0 := (World.cells?_some hc0).2.2 0 hsz
    obtain ⟨ab, ao, asp⟩ := a
    have hl0 := (World.cells?_some hc0).2.1
    have has : asp = none := by
      simp only [Nat.zero_mul, Addr.add, if_true] at h0
      rw [List.getElem?_eq_getElem (by omega)] at h0
      cases asp with
      | none => rfl
      | some s =>
        simp only [World.cell?] at h0
        split at h0 <;> simp at h0
    subst has
    obtain ⟨cs, y, hcs, hy, hq⟩ := key k hk
    have h3 := World.cells?_some hcs
    have add_eq : ∀ (o n : Nat), (⟨ab, o, none⟩ : Addr).add n = ⟨ab, o + n, none⟩ := by
      intro o n; unfold Addr.add; split <;> simp_all
    refine ⟨ab, ao, cs, m, y, rfl, ?_, h3.2.1, fun j hj => ?_, hy, hq⟩
    · exact World.cells?_block (a := ⟨ab, ao, none⟩) (by simpa [add_eq] using hc0) hsz
    · have := h3.2.2 j hj
      simpa [add_eq] using this
theorem list_choose {α : Type} {n : Nat} {Q : Nat → α → Prop} (h : ∀ k, k < n → ∃ x, Q k x) : ∃ l : List α, l.length = n ∧ ∀ (k : Nat) x, l[k]? = some x → Q k x := by
  induction n with
  | zero => exact ⟨[], rfl, fun k x hk => by simp at hk⟩
  | succ n ih =>
    obtain ⟨l, h1, h2⟩ := ih fun k hk => h k (by omega)
    obtain ⟨x, hx⟩ := h n (by omega)
    refine ⟨l ++ [x], by simp [h1], fun k y hk => ?_⟩
    by_cases hlt : k < l.length
    · rw [List.getElem?_append_left hlt] at hk; exact h2 k y hk
    · rw [List.getElem?_append_right (by omega)] at hk
      have : k - l.length = 0 := by
        have := (List.getElem?_eq_some_iff.1 hk).1
        simp at this; omega
      rw [this] at hk
      simp at hk
      subst hk
      rw [show k = n by omega]; exact hx
theorem opens_slice {t e : TypeId} {n : Nat} {R : List PV → Prop} (ht : P.underlying t = some (.slice e)) (hc : P.cellsOf t = 1) (hn : 0 < n) (he : Opens enc P w sp held e n R) :
    Opens enc P w sp held t 1 fun ps => ∃ rows, rows.length * P.bytesOf e ≤ reachBytes ∧ (∀ row ∈ rows, row.length = n ∧ R row) ∧ ps = [.list rows] := by
  refine ⟨hc, fun fuel cs y h hw => ?_⟩
  have hcs : ∃ v, cs = [v] := by
    rcases DataW.trod_slice ht h with ⟨hv, -⟩ | ⟨a, len, cap, elems, rest, m, -, hv, -⟩ <;> exact ⟨_, hv⟩
  obtain ⟨v, rfl⟩ := hcs
  obtain ⟨hce, he⟩ := he
  obtain ⟨a, len, c, rfl, h1, h2, hby, h3⟩ := trod_elems2 ht (by omega) h hw
  rw [hce] at h3
  obtain ⟨rows, r1, r2⟩ := list_choose (Q := fun k (row : List PV) => row.length = n ∧ R row ∧ ∃ b o cs, a = some ⟨b, o, none⟩ ∧ b < w.heap.size ∧ cs.length = n ∧ (∀ j, j < n → w.cell? ⟨b, o + k * n + j, none⟩ = cs[j]?) ∧ Shows w row cs) fun k hk => by
    obtain ⟨b, o, cs, m, y, q1, q2, q3, q4, q5, q6⟩ := h3 k hk
    obtain ⟨ps, p1, p2, p3⟩ := he m cs y q5 q6
    exact ⟨ps, p1, p2, b, o, cs, q1, q2, q3, q4, p3⟩
  refine ⟨[.list rows], rfl, ⟨rows, by rw [r1]; exact hby, fun row hr => ?_, rfl⟩, shows1 ?_⟩
  · obtain ⟨k, hk⟩ := List.getElem?_of_mem hr
    exact ⟨(r2 k row hk).1, (r2 k row hk).2.1⟩
  · have key : ∀ k row j p, rows[k]? = some row → row[j]? = some p → ∃ b o, a = some ⟨b, o, none⟩ ∧ b < w.heap.size ∧ ∃ u, w.cell? ⟨b, o + k * n + j, none⟩ = some u ∧ RepP (fun b _ => b < w.heap.size) w p u := by
      intro k row j p hk hj
      obtain ⟨hl, -, b, o, cs, q1, q2, q3, q4, q5⟩ := r2 k row hk
      have hlt : j < n := by rw [← hl]; exact (List.getElem?_eq_some_iff.1 hj).1
      refine ⟨b, o, q1, q2, cs[j]'(by omega), ?_, ?_⟩
      · rw [q4 j hlt, List.getElem?_eq_getElem (by omega)]
      · exact q5.2 j p _ hj (List.getElem?_eq_getElem (by omega))
    have := RepP.list (S := fun b _ => b < w.heap.size) (w := w) rows a c n (fun k j => match a with | some ad => (w.cell? ⟨ad.block, ad.off + k * n + j, none⟩).getD Go.undef | none => Go.undef) (by omega) h2 hn (fun row hr => by
        obtain ⟨k, hk⟩ := List.getElem?_of_mem hr
        exact (r2 k row hk).1) (fun k row j p hk hj => by
        obtain ⟨b, o, q1, q2, u, q3, q4⟩ := key k row j p hk hj
        subst q1
        exact ⟨b, o, rfl, q2, by simp [q3]⟩) (fun k row j p hk hj => by
        obtain ⟨b, o, q1, q2, u, q3, q4⟩ := key k row j p hk hj
        subst q1
        simp only [q3, Option.getD_some]
        exact q4)
    rw [r1] at this
    exact this
def offs : Nat → List (TypeId × Nat) → List (TypeId × Nat)
  | _, [] => []
  | o, (t, n) :: r => (t, o) :: offs (o + n) r
def RAll : List (Nat × (List PV → Prop)) → List PV → Prop
  | [], ps => ps = []
  | (n, R) :: r, ps => ∃ a b, ps = a ++ b ∧ a.length = n ∧ R a ∧ RAll r b
def OpensAll (enc : TypeId × Value → H) (P : Program) (w : World) (sp : Nat → Bool) (held : Bool) : List (TypeId × Nat × (List PV → Prop)) → Prop
  | [] => True
  | (t, n, R) :: r => Opens enc P w sp held t n R ∧ OpensAll enc P w sp held r
theorem shows_append {a b : List PV} {cs ds : List Value} (h1 : Shows w a cs) (h2 : Shows w b ds) : Shows w (a ++ b) (cs ++ ds) := by
  refine ⟨by simp [h1.1, h2.1], fun j p v hj hv => ?_⟩
  by_cases hlt : j < a.length
  · rw [List.getElem?_append_left hlt] at hj
    rw [List.getElem?_append_left (by rw [h1.1]; exact hlt)] at hv
    exact h1.2 j p v hj hv
  · rw [List.getElem?_append_right (by omega)] at hj
    rw [List.getElem?_append_right (by rw [h1.1]; omega), h1.1] at hv
    exact h2.2 _ p v hj hv
theorem opens_fields : ∀ (fl : List (TypeId × Nat × (List PV → Prop))) (o : Nat) (cs : List Value), OpensAll enc P w sp held fl → cs.length = o + (fl.map (·.2.1)).sum →
    (∀ (i : Nat) (t' : TypeId) (o' : Nat), (offs o (fl.map fun f => (f.1, f.2.1)))[i]? = some (t', o') → ∃ n y, DataW.trod enc P w 0 sp held n t' ((cs.drop o').take (P.cellsOf t')) = some y ∧ ∀ k ∈ y.1.weights P t', k ≤ reachBytes) →
    ∃ ps, ps.length = (fl.map (·.2.1)).sum ∧ RAll (fl.map (·.2)) ps ∧ Shows w ps (cs.drop o)
  | [], o, cs, _, hl, _ => ⟨[], rfl, rfl, by
      rw [List.drop_eq_nil_of_le (by simp at hl; omega)]
      exact ⟨rfl, fun j p v hj => by simp at hj⟩⟩
  | (t, n, R) :: fl, o, cs, ho, hl, hx => by
    obtain ⟨⟨hc, h1⟩, h2⟩ := ho
    obtain ⟨m, y, hy, hwy⟩ := hx 0 t o rfl
    obtain ⟨ps, p1, p2, p3⟩ := h1 m _ y hy hwy
    simp only [List.map_cons, List.sum_cons] at hl
    obtain ⟨qs, q1, q2, q3⟩ := opens_fields fl (o + n) cs h2 (by omega) fun i t' o' hi => hx (i + 1) t' o' hi
    refine ⟨ps ++ qs, by simp [p1, q1], ⟨ps, qs, rfl, p1, p2, q2⟩, ?_⟩
    rw [hc] at p3
    have : cs.drop o = (cs.drop o).take n ++ cs.drop (o + n) := by rw [← List.drop_drop, List.take_append_drop]
    rw [this]
    exact shows_append p3 q3
theorem opens_struct {t : TypeId} {n : Nat} (fl : List (TypeId × Nat × (List PV → Prop))) (hs : P.underlying t = some (.struct (P.fieldsOf t))) (hf : (P.fieldsOf t).toList.map (fun f => (f.type, f.offset)) = offs 0 (fl.map fun f => (f.1, f.2.1)))
    (hc : P.cellsOf t = n) (hn : (fl.map (·.2.1)).sum = n) (ho : OpensAll enc P w sp held fl) : Opens enc P w sp held t n (RAll (fl.map (·.2))) := by
  refine ⟨hc, fun fuel cs y h hw => ?_⟩
  obtain ⟨xs, m, _, hy, hl, hlen, hq⟩ := DataW.trod_struct hs h
  have hx : ∀ (i : Nat) (t' : TypeId) (o' : Nat), (offs 0 (fl.map fun f => (f.1, f.2.1)))[i]? = some (t', o') → ∃ n y, DataW.trod enc P w 0 sp held n t' ((cs.drop o').take (P.cellsOf t')) = some y ∧ ∀ k ∈ y.1.weights P t', k ≤ reachBytes := by
    intro i t' o' hi
    rw [← hf, List.getElem?_map] at hi
    obtain ⟨f, h1, h2⟩ := Option.map_eq_some_iff.1 hi
    simp only [Prod.mk.injEq] at h2
    obtain ⟨rfl, rfl⟩ := h2
    have h3 := hq i f (by simpa using h1)
    have hi2 : i < (P.fieldsOf t).toList.length := (List.getElem?_eq_some_iff.1 h1).1
    have hi3 : i < xs.length := by rw [hlen]; simpa using hi2
    refine ⟨m, xs[i], by rw [h3]; simp, fun k hk => hw k ?_⟩
    rw [hy]
    simp only [DataW.weights, hs]
    refine DataW.weights_mem_each (j := i) (t := f.type) (d := xs[i].1) ?_ ?_ k hk
    · rw [List.getElem?_map, h1]; rfl
    · rw [List.getElem?_map, List.getElem?_eq_getElem hi3]; rfl
  obtain ⟨ps, h1, h2, h3⟩ := opens_fields fl 0 cs ho (by omega) hx
  exact ⟨ps, by omega, h2, h3⟩
theorem open_cell {t : TypeId} {R : List PV → Prop} (ho : Opens enc P w sp held t 1 R) {v : Value} (h1 : ∀ cs, v ≠ .agg cs) {d : DataW H} {p : List MemPlace} (h : DataW.Trod enc P w 0 sp held t v d p) (hw : ∀ k ∈ d.weights P t, k ≤ reachBytes) : ∃ q, R [q] ∧ RepP (fun b _ => b < w.heap.size) w q v := by
  obtain ⟨fuel, hf⟩ := h
  obtain ⟨ps, p1, p2, p3⟩ := ho.2 fuel _ _ hf hw
  have hv : v.cells.toList = [v] := by cases v <;> first | rfl | exact (h1 _ rfl).elim
  match ps, p1 with
  | [q], _ => exact ⟨q, p2, p3.2 0 q v rfl (by rw [hv]; rfl)⟩
theorem open_agg {t : TypeId} {n : Nat} {R : List PV → Prop} (ho : Opens enc P w sp held t n R) {v : Value} (h1 : ∃ cs, v = .agg cs) {d : DataW H} {p : List MemPlace} (h : DataW.Trod enc P w 0 sp held t v d p) (hw : ∀ k ∈ d.weights P t, k ≤ reachBytes) (S : Nat → Nat → Prop) (hS : ∀ b o, b < w.heap.size → S b o) (C : Conc) : ∃ ps, R ps ∧ RepV S w C (.agg ps) v := by
  obtain ⟨fuel, hf⟩ := h
  obtain ⟨cs, rfl⟩ := h1
  obtain ⟨ps, p1, p2, p3⟩ := ho.2 fuel _ _ hf hw
  have hk : ∀ (j : Nat) q x, ps[j]? = some q → cs.toList[j]? = some x → RepP (fun b _ => b < w.heap.size) w q x := fun j q x hj hx => p3.2 j q x hj hx
  refine ⟨ps, p2, ?_⟩
  have := RepV.agg (S := S) (w := w) (C := C) ps cs.toList p3.1 (fun j x hx => ?_) fun j q x hj hx => .pure ((hk j q x hj hx).mono (fun b o h => hS b o h) fun _ _ _ => rfl)
  · simpa using this
  · have hlt : j < ps.length := by rw [← p3.1]; exact (List.getElem?_eq_some_iff.1 hx).1
    exact (hk j _ x (List.getElem?_eq_getElem hlt) hx).one
end
def lawCx (w : World) : Cx := ⟨w, fun b _ => b < w.heap.size, ⟨0, fun _ => 0, fun _ => Go.undef, fun _ => 0⟩, []⟩
theorem lawHR (w : World) : HR (lawCx w) (lawCx w).C0 [] w :=
  ⟨rfl, fun id ob h => by simp at h, fun id id' ob ob' b h => by simp at h, fun id ob b h => by simp at h, fun b o h => ⟨h, fun id ob h => by simp at h, rfl⟩, Nat.le_refl _, rfl, rfl, rfl, fun b _ _ => rfl, Nat.le_refl _, fun i hi => rfl, fun i hi => .inl ⟨rfl, rfl⟩⟩
theorem lawStab {w : World} {b o : Nat} (h : b < w.heap.size) : Stab (lawCx w) (lawCx w).C0 [] w b o := ⟨.inl h, h, fun id ob h => by simp at h⟩
def Arg (w : World) (p : PV) (v : Value) : Prop := RepV (Stab (lawCx w) (lawCx w).C0 [] w) w (lawCx w).C0 p v
theorem Arg.of {w : World} {p : PV} {v : Value} (h : RepP (fun b _ => b < w.heap.size) w p v) : Arg w p v := .pure (h.mono (fun _ _ h => lawStab h) fun _ _ _ => rfl)
inductive ArgsAre (w : World) : List PV → List Value → Prop
  | nil : ArgsAre w [] []
  | cons {p : PV} {v : Value} {ps : List PV} {vs : List Value} (h : Arg w p v) (t : ArgsAre w ps vs) : ArgsAre w (p :: ps) (v :: vs)
theorem ArgsAre.reps {w : World} {ps : List PV} {vs : List Value} (h : ArgsAre w ps vs) : Reps (Stab (lawCx w) (lawCx w).C0 [] w) w (lawCx w).C0 ps vs := by
  induction h with
  | nil => exact ⟨rfl, fun j p v hj => by simp at hj⟩
  | cons h t ih =>
    refine ⟨by simp [ih.1], fun j p v hj hv => ?_⟩
    cases j with
    | zero => simp at hj hv; subst hj; subst hv; exact h
    | succ j => exact ih.2 j p v (by simpa using hj) (by simpa using hv)
theorem law_calls {P : Program} {f : Nat} {args : List PV} {vs : Array Value} {w : World} (h : Meets P f args [] (.bool true) []) (hp : ArgsAre w args vs.toList) : Calls P f vs w fun e w' => e = .returned (.bool true) ∧ Below w.heap.size w w' := by
  refine (h (lawCx w) vs rfl (lawHR w) hp.reps).mono fun e w' ⟨v, C', h1, h2, h3⟩ => ?_
  have hv := h3.bool_inv
  subst hv
  exact ⟨h1, ⟨h2.os, h2.tape, h2.output, h2.size, fun b hb => h2.frame b hb fun i ob0 hi => by simp [lawCx] at hi⟩⟩
end Go.Proofs.YtfdolehffjmdmaaGreatDoor
/- Arguments of laws, opened: ids, entries, lists of them. -/
namespace Go.Proofs.YtfdolehffjmdmaaGreatDoor
open Go.RowKit Go.ChangeShapes Go.WideShapes Go.ChangeAt
section
variable {H : Type} {enc : TypeId × Value → H} {w : World} {sp : Nat → Bool} {held : Bool}
theorem rows_map {α : Type} {f : α → List PV} {Q : α → Prop} {n : Nat} : ∀ {rows : List (List PV)}, (∀ row ∈ rows, row.length = n ∧ ∃ x, Q x ∧ row = f x) → ∃ l : List α, (∀ x ∈ l, Q x) ∧ rows = l.map f
  | [], _ => ⟨[], by simp, rfl⟩
  | row :: rows, h => by
    obtain ⟨-, x, h1, rfl⟩ := h row (by simp)
    obtain ⟨l, h2, rfl⟩ := rows_map (rows := rows) fun row hr => h row (by simp [hr])
    exact ⟨x :: l, by simpa using ⟨h1, h2⟩, rfl⟩
theorem opInt : Opens enc Tryz.prog w sp held 3 1 fun ps => ∃ n, I64 n ∧ ps = [.int .i64 n] := opens_int undInt' cellsInt
theorem opStr : Opens enc Tryz.prog w sp held 9 1 fun ps => ∃ s : ByteArray, s.size ≤ reachBytes ∧ ps = [.str s] := opens_str (by kernel_rfl) (by kernel_rfl)
def wfId (x : Id) : Prop := I64 x.r ∧ I64 x.n
theorem opId : Opens enc Tryz.prog w sp held 43 2 fun ps => ∃ x : Id, wfId x ∧ ps = cId x :=
  (opens_struct [(3, 1, _), (3, 1, _)] undId (by kernel_rfl) cellsId rfl ⟨opInt, opInt, trivial⟩).mono (by
    rintro ps ⟨a, b, rfl, -, ⟨n, hn, rfl⟩, c, d, rfl, -, ⟨m, hm, rfl⟩, rfl⟩
    exact ⟨⟨n, m⟩, ⟨hn, hm⟩, rfl⟩)
theorem opIds : Opens enc Tryz.prog w sp held 44 1 fun ps => ∃ l : List Id, l.length * 16 ≤ reachBytes ∧ (∀ x ∈ l, wfId x) ∧ ps = [.list (l.map cId)] :=
  (opens_slice (by kernel_rfl) (by kernel_rfl) (by omega) opId).mono (by
    rintro ps ⟨rows, hm, hr, rfl⟩
    obtain ⟨l, h1, rfl⟩ := rows_map hr
    rw [show Tryz.prog.bytesOf 43 = 16 by kernel_rfl] at hm
    exact ⟨l, by simpa using hm, h1, rfl⟩)
def wfE (e : Entry) : Prop := wfId e.id ∧ I64 e.c ∧ e.t.size ≤ reachBytes ∧ e.ls.length * 16 ≤ reachBytes ∧ ∀ x ∈ e.ls, wfId x
theorem undEntry : Tryz.prog.underlying 46 = some (.struct (Tryz.prog.fieldsOf 46)) := by kernel_rfl
theorem opEntry : Opens enc Tryz.prog w sp held 46 5 fun ps => ∃ e : Entry, wfE e ∧ ps = cE e :=
  (opens_struct [(43, 2, _), (3, 1, _), (9, 1, _), (44, 1, _)] undEntry (by kernel_rfl) (by kernel_rfl) rfl ⟨opId, opInt, opStr, opIds, trivial⟩).mono (by
    rintro ps ⟨a, b, rfl, -, ⟨x, hx, rfl⟩, c, d, rfl, -, ⟨n, hn, rfl⟩, f, g, rfl, -, ⟨s, hs, rfl⟩, k, q, rfl, -, ⟨l, hl, hq, rfl⟩, rfl⟩
    exact ⟨⟨x, n, s, l⟩, ⟨hx, hn, hs, hl, hq⟩, rfl⟩)
set_option maxRecDepth 100000 in
theorem argInt {b0 : Nat} {v : Value} {d : DataW H} {p : List MemPlace} (hv : Value.okWide Tryz.prog w .any b0 3 v) (h : DataW.Trod enc Tryz.prog w 0 sp held 3 v d p) (hw : ∀ k ∈ d.weights Tryz.prog 3, k ≤ reachBytes) : ∃ n, I64 n ∧ Arg w (.int .i64 n) v := by
  obtain ⟨m, rfl⟩ := okWide_int undInt' hv
  obtain ⟨q, ⟨n, hn, hq⟩, h2⟩ := open_cell opInt (by simp) h hw
  simp at hq; subst hq
  exact ⟨n, hn, .of h2⟩
set_option maxRecDepth 100000 in
theorem argStr {b0 : Nat} {v : Value} {d : DataW H} {p : List MemPlace} (hv : Value.okWide Tryz.prog w .any b0 9 v) (h : DataW.Trod enc Tryz.prog w 0 sp held 9 v d p) (hw : ∀ k ∈ d.weights Tryz.prog 9, k ≤ reachBytes) : ∃ s : ByteArray, s.size ≤ reachBytes ∧ Arg w (.str s) v := by
  obtain ⟨m, rfl⟩ := okWide_string (by kernel_rfl) hv
  obtain ⟨q, ⟨n, hn, hq⟩, h2⟩ := open_cell opStr (by simp) h hw
  simp at hq; subst hq
  exact ⟨n, hn, .of h2⟩
end
end Go.Proofs.YtfdolehffjmdmaaGreatDoor
/- Arguments of laws, opened: lists of entries, of ids. -/
namespace Go.Proofs.YtfdolehffjmdmaaGreatDoor
open Go.RowKit Go.ChangeShapes Go.WideShapes Go.ChangeAt
section
variable {H : Type} {enc : TypeId × Value → H} {w : World} {sp : Nat → Bool} {held : Bool}
theorem opEntries : Opens enc Tryz.prog w sp held 22 1 fun ps => ∃ l : List Entry, l.length ≤ reachBytes ∧ (∀ e ∈ l, wfE e) ∧ ps = [.list (l.map cE)] :=
  (opens_slice (by kernel_rfl) (by kernel_rfl) (by omega) opEntry).mono (by
    rintro ps ⟨rows, hm, hr, rfl⟩
    obtain ⟨l, h1, rfl⟩ := rows_map hr
    have hb : 1 ≤ Tryz.prog.bytesOf 46 := by decide +kernel
    refine ⟨l, ?_, h1, rfl⟩
    have h2 : (l.map cE).length * 1 ≤ (l.map cE).length * Tryz.prog.bytesOf 46 := Nat.mul_le_mul_left _ hb
    rw [List.length_map] at h2 hm
    omega)
end
end Go.Proofs.YtfdolehffjmdmaaGreatDoor
/- Arguments of laws, opened: sites. -/
namespace Go.Proofs.YtfdolehffjmdmaaGreatDoor
open Go.RowKit Go.ChangeShapes Go.WideShapes Go.ChangeAt
section
variable {H : Type} {enc : TypeId × Value → H} {w : World} {sp : Nat → Bool} {held : Bool}
theorem undSite : Tryz.prog.underlying 49 = some (.struct (Tryz.prog.fieldsOf 49)) := by kernel_rfl
theorem opSite : Opens enc Tryz.prog w sp held 49 3 fun ps => ∃ (r : Int) (lg ws : List Entry), (I64 r ∧ lg.length ≤ reachBytes ∧ ws.length ≤ reachBytes ∧ (∀ e ∈ lg, wfE e) ∧ ∀ e ∈ ws, wfE e) ∧ ps = cSi r lg ws :=
  (opens_struct [(3, 1, _), (22, 1, _), (22, 1, _)] undSite (by kernel_rfl) (by kernel_rfl) rfl ⟨opInt, opEntries, opEntries, trivial⟩).mono (by
    rintro ps ⟨a, b, rfl, -, ⟨x, hx, rfl⟩, c, d, rfl, -, ⟨y, hy, hy2, rfl⟩, k, q, rfl, -, ⟨l, hl, hl2, rfl⟩, rfl⟩
    exact ⟨x, y, l, ⟨hx, hy, hl, hy2, hl2⟩, rfl⟩)
set_option maxRecDepth 100000 in
theorem argSite {b0 : Nat} {v : Value} {d : DataW H} {p : List MemPlace} (hv : Value.okWide Tryz.prog w .any b0 49 v) (h : DataW.Trod enc Tryz.prog w 0 sp held 49 v d p) (hw : ∀ k ∈ d.weights Tryz.prog 49, k ≤ reachBytes) :
    ∃ (r : Int) (lg ws : List Entry), (I64 r ∧ lg.length ≤ 1000000000000000 ∧ ws.length ≤ 1000000000000000 ∧ (∀ e ∈ lg, wfE e) ∧ ∀ e ∈ ws, wfE e) ∧ Arg w (.agg (cSi r lg ws)) v := by
  obtain ⟨cs, rfl, -⟩ := okWide_struct undSite hv
  obtain ⟨ps, ⟨r, lg, ws, ⟨a, b, c, d, e⟩, rfl⟩, h4⟩ := open_agg opSite ⟨_, rfl⟩ h hw (Stab (lawCx w) (lawCx w).C0 [] w) (fun _ _ h => lawStab h) _
  simp only [reachBytes] at b c
  exact ⟨r, lg, ws, ⟨a, by omega, by omega, d, e⟩, h4⟩
end
end Go.Proofs.YtfdolehffjmdmaaGreatDoor
/- Rows that list variables: a start that fits, and the way from a contract to the row, with a condition of the specification's own. -/
namespace Go.Proofs.YtfdolehffjmdmaaGreatDoor
open Go.RowKit Go.ChangeShapes Go.WideShapes Go.ChangeAt
section
variable {H : Type} {enc : TypeId × Value → H}
end
end Go.Proofs.YtfdolehffjmdmaaGreatDoor
