/- Joined texts of this claim: G4 G5 D16 S4 S5 S6 S7 T1 T2 T3 T4 T5 T6 T7 PE R1 R2 L7 L8 L10 T8 T9 T10 T11 V1 V2 R3 R4 L22. -/
import Derived.Test.YtkibfciheifphaaKD
import Derived.Deep.RegionLaw
import Derived.Lib.SlicesDelete
import Derived.Shelf.Spec.SlicesInsert
import Derived.ArgAppend
import Derived.Shelf.Spec.SlicesInsertGrow
import Derived.Test.YtkibfciheifphaaKB
import Derived.Test.YtkibfciheifphaaKC
set_option linter.unusedSimpArgs false
set_option linter.unusedVariables false
set_option linter.unusedSectionVars false
/- Plain laws of orders: what is begun, and how it goes on. No program in sight. -/
namespace Go.Proofs.Ytkibfciheifphaa
structure Good (l : List Entry) (c : Int) (out : List Id) : Prop where
  once : out.Nodup
  col : ∀ x ∈ out, ∃ k, k < l.length ∧ (nth l k).id = x ∧ meetB (nth l k).c c = true
  may : ∀ x ∈ out, mayB l c out x = true
  ord : ∀ i k, i < k → k < out.length → hasI (pastAt (pasts l) l (nth out i)) (nth out k) = false
theorem Good.there {l : List Entry} (h : LogOk l) {c : Int} {out : List Id} (g : Good l c out) : ∀ x ∈ out, 0 ≤ findE l x := fun x hx => by
  obtain ⟨k, k1, rfl, -⟩ := g.col x hx
  rw [h.find k1]; omega
end Go.Proofs.Ytkibfciheifphaa
/- Plain laws of what a vector has of a log. No program in sight. -/
namespace Go.Proofs.Ytkibfciheifphaa
def vAt (v0 v1 r : Int) : Int := if r = 0 then v0 else v1
def inB (v0 v1 : Int) (x : Id) : Bool := decide (x.n ≤ vAt v0 v1 x.r)
end Go.Proofs.Ytkibfciheifphaa
/- Vectors, readers of a log: contracts. -/
namespace Go.Proofs.Ytkibfciheifphaa
set_option linter.unusedSimpArgs false
set_option linter.unusedVariables false
open Go.RowKit
def vErr (v0 v1 : Int) : Int := if wthn v0 0 20 = true ∧ wthn v1 0 20 = true then 0 else 3
theorem vErr_ok {v0 v1 : Int} : vErr v0 v1 = 0 ↔ wthn v0 0 20 = true ∧ wthn v1 0 20 = true := by
  unfold vErr; split <;> simp_all
theorem vecCheck_meets (v0 v1 : Int) : Meets Try.prog 29 [.agg [.int .i64 v0, .int .i64 v1]] [] (.int .i64 (vErr v0 v1)) [] := by
  refine Meets.of_walk Try.func29 Try.ntmps29 low29 res29 (by simp) fun x hx => ?_
  simp only [go_sem, Nat.reduceLT, Nat.reduceAdd, Nat.reduceEqDiff, Nat.reduceLeDiff, Nat.reduceSub, Nat.reduceMul, Int.reduceEq, eq_self, reduceIte, L29, R29]
  refine loop_inv [5, 6] 0 (fun n st => ∃ k : Int, ((n = 2 ∧ k = 0) ∨ (n = 1 ∧ k = 1 ∧ wthn v0 0 20 = true) ∨ (n = 0 ∧ k = 2 ∧ wthn v0 0 20 = true ∧ wthn v1 0 20 = true)) ∧
    st = ⟨mkE .top [(5, .agg [.int .i64 v0, .int .i64 v1]), (6, .int .i64 k)], []⟩) 2 (by simp [hx]) (by simp) ?_ ?_
  · refine ⟨0, .inl ⟨rfl, rfl⟩, ?_⟩
    simp [trim_mk, go_sem, Nat.reduceLT, Nat.reduceAdd, Nat.reduceEqDiff, Nat.reduceLeDiff, Nat.reduceSub, Nat.reduceMul, Int.reduceEq, eq_self, reduceIte, subHeap, renObj, pos]
  · have wr : ∀ k : Int, 0 ≤ k → k ≤ 5 → IntKind.i64.wrap (k + 1) = k + 1 := fun k h1 h2 => IntWalk.i64_in _ (by omega)
    rintro n st ⟨k, hk, rfl⟩
    rcases hk with ⟨rfl, rfl⟩ | ⟨rfl, rfl, h0⟩ | ⟨rfl, rfl, h0, h1⟩
    · by_cases a : v0 < 0
      · simp only [go_sem, Nat.reduceLT, Nat.reduceAdd, Nat.reduceEqDiff, Nat.reduceLeDiff, Nat.reduceSub, Nat.reduceMul, Int.reduceEq, eq_self, reduceIte, a, Int.reduceLT, Int.reduceLE, Int.reduceToNat, Int.toNat_zero, Int.cast_ofNat_Int, Int.le_refl]
        refine ret_pure hx ?_
        have : vErr v0 v1 = 3 := by unfold vErr; rw [if_neg (by rw [wthn_iff]; omega)]
        simp [go_sem, Nat.reduceLT, Nat.reduceAdd, Nat.reduceEqDiff, Nat.reduceLeDiff, Nat.reduceSub, Nat.reduceMul, Int.reduceEq, eq_self, reduceIte, L29, R29, this]
      · by_cases b : 20 < v0
        · simp only [go_sem, Nat.reduceLT, Nat.reduceAdd, Nat.reduceEqDiff, Nat.reduceLeDiff, Nat.reduceSub, Nat.reduceMul, Int.reduceEq, eq_self, reduceIte, a, b, Int.reduceLT, Int.reduceLE, Int.reduceToNat, Int.toNat_zero, Int.cast_ofNat_Int, Int.le_refl]
          refine ret_pure hx ?_
          have : vErr v0 v1 = 3 := by unfold vErr; rw [if_neg (by rw [wthn_iff]; omega)]
          simp [go_sem, Nat.reduceLT, Nat.reduceAdd, Nat.reduceEqDiff, Nat.reduceLeDiff, Nat.reduceSub, Nat.reduceMul, Int.reduceEq, eq_self, reduceIte, L29, R29, this]
        · have w1 := wr 0 (by omega) (by omega)
          simp only [go_sem, Nat.reduceLT, Nat.reduceAdd, Nat.reduceEqDiff, Nat.reduceLeDiff, Nat.reduceSub, Nat.reduceMul, Int.reduceEq, eq_self, reduceIte, a, b, w1, Int.reduceLT, Int.reduceLE, Int.reduceToNat, Int.toNat_zero, Int.cast_ofNat_Int, Int.le_refl]
          refine ⟨by simp, 1, by omega, 1, .inr (.inl ⟨rfl, rfl, by rw [wthn_iff]; omega⟩), ?_⟩
          simp [trim_mk, go_sem, Nat.reduceLT, Nat.reduceAdd, Nat.reduceEqDiff, Nat.reduceLeDiff, Nat.reduceSub, Nat.reduceMul, Int.reduceEq, eq_self, reduceIte, subHeap, renObj, pos]
    · by_cases a : v1 < 0
      · simp only [go_sem, Nat.reduceLT, Nat.reduceAdd, Nat.reduceEqDiff, Nat.reduceLeDiff, Nat.reduceSub, Nat.reduceMul, Int.reduceEq, eq_self, reduceIte, a, Int.reduceLT, Int.reduceLE, Int.reduceToNat, Int.toNat_one, Int.cast_ofNat_Int, Int.le_refl]
        refine ret_pure hx ?_
        have : vErr v0 v1 = 3 := by unfold vErr; rw [if_neg (by rw [wthn_iff, wthn_iff]; omega)]
        simp [go_sem, Nat.reduceLT, Nat.reduceAdd, Nat.reduceEqDiff, Nat.reduceLeDiff, Nat.reduceSub, Nat.reduceMul, Int.reduceEq, eq_self, reduceIte, L29, R29, this]
      · by_cases b : 20 < v1
        · simp only [go_sem, Nat.reduceLT, Nat.reduceAdd, Nat.reduceEqDiff, Nat.reduceLeDiff, Nat.reduceSub, Nat.reduceMul, Int.reduceEq, eq_self, reduceIte, a, b, Int.reduceLT, Int.reduceLE, Int.reduceToNat, Int.toNat_one, Int.cast_ofNat_Int, Int.le_refl]
          refine ret_pure hx ?_
          have : vErr v0 v1 = 3 := by unfold vErr; rw [if_neg (by rw [wthn_iff, wthn_iff]; omega)]
          simp [go_sem, Nat.reduceLT, Nat.reduceAdd, Nat.reduceEqDiff, Nat.reduceLeDiff, Nat.reduceSub, Nat.reduceMul, Int.reduceEq, eq_self, reduceIte, L29, R29, this]
        · have w1 := wr 1 (by omega) (by omega)
          simp only [go_sem, Nat.reduceLT, Nat.reduceAdd, Nat.reduceEqDiff, Nat.reduceLeDiff, Nat.reduceSub, Nat.reduceMul, Int.reduceEq, eq_self, reduceIte, a, b, w1, Int.reduceLT, Int.reduceLE, Int.reduceToNat, Int.toNat_one, Int.cast_ofNat_Int, Int.le_refl]
          refine ⟨by simp, 0, by omega, 2, .inr (.inr ⟨rfl, rfl, h0, by rw [wthn_iff]; omega⟩), ?_⟩
          simp [trim_mk, go_sem, Nat.reduceLT, Nat.reduceAdd, Nat.reduceEqDiff, Nat.reduceLeDiff, Nat.reduceSub, Nat.reduceMul, Int.reduceEq, eq_self, reduceIte, subHeap, renObj, pos]
    · simp only [go_sem, Nat.reduceLT, Nat.reduceAdd, Nat.reduceEqDiff, Nat.reduceLeDiff, Nat.reduceSub, Nat.reduceMul, Int.reduceEq, eq_self, reduceIte, Int.reduceLT]
      refine ret_pure hx ?_
      simp [go_sem, Nat.reduceLT, Nat.reduceAdd, Nat.reduceEqDiff, Nat.reduceLeDiff, Nat.reduceSub, Nat.reduceMul, Int.reduceEq, eq_self, reduceIte, L29, R29, vErr_ok.2 ⟨h0, h1⟩]
theorem holds_meets (v0 v1 : Int) (y : Id) (hr : y.r = 0 ∨ y.r = 1) : Meets Try.prog 55 [.agg [.int .i64 v0, .int .i64 v1], .agg (cId y)] [] (.bool (inB v0 v1 y)) [] := by
  refine Meets.of_walk Try.func55 Try.ntmps55 low55 res55 (by simp) fun x hx => ?_
  rcases hr with hr | hr
  all_goals
    simp only [go_sem, Nat.reduceLT, Nat.reduceAdd, Nat.reduceEqDiff, Nat.reduceLeDiff, Nat.reduceSub, Nat.reduceMul, Int.reduceEq, eq_self, reduceIte, L55, R55, cId, hr, Int.reduceLT, Int.reduceLE, Int.reduceToNat, Int.toNat_zero, Int.toNat_one, Int.cast_ofNat_Int, Int.le_refl]
    refine ret_pure hx ?_
    simp [go_sem, Nat.reduceLT, Nat.reduceAdd, Nat.reduceEqDiff, Nat.reduceLeDiff, Nat.reduceSub, Nat.reduceMul, Int.reduceEq, eq_self, reduceIte, L55, R55, inB, vAt, hr]
/-! method values asked by a function -/
end Go.Proofs.Ytkibfciheifphaa
/- slices.Delete of one element of k cells: in memory, and as a contract. -/
namespace Go.Proofs.Ytkibfciheifphaa
open Go.RowKit Go.Lib Go.Sort
open Go.Shelf
def DelF (k n i : Nat) (cs F : Array Value) : Prop := F.size = cs.size ∧ ∀ t, t < (n - 1) * k → F[t]! = if t < i * k then cs[t]! else cs[t + k]!
def DelOut (k n i : Nat) (w : World) (blk : Nat) (cs : Array Value) (w' : World) : Prop := ∃ (q : Nat) (F : Array Value), DelF k n i cs F ∧ w' = putRow id (Sort.ahead w q) blk 0 F
theorem delF_of {k n i : Nat} {cs : Array Value} (hz : n * k ≤ cs.size) (hi : i < n) (news zs : List Value) (hn : news.length = (n - (i + 1)) * k) (hnew : ∀ t, t < news.length → news[t]! = cs[(i + 1) * k + t]!) :
    DelF k n i cs (setMany (setMany cs (i * k) news) ((n - 1) * k) zs) := by
  refine ⟨by simp, fun t ht => ?_⟩
  obtain ⟨m, rfl⟩ : ∃ m, n = i + 1 + m := ⟨n - (i + 1), by omega⟩
  have e1 : i + 1 + m - (i + 1) = m := by omega
  have e2 : i + 1 + m - 1 = i + m := by omega
  rw [e1] at hn
  rw [e2] at ht ⊢
  have e3 : (i + 1 + m) * k = i * k + k + m * k := by rw [Nat.add_mul, Nat.add_mul, Nat.one_mul]
  have e4 : (i + m) * k = i * k + m * k := Nat.add_mul _ _ _
  have e5 : (i + 1) * k = i * k + k := by rw [Nat.add_mul, Nat.one_mul]
  rw [e3] at hz
  rw [e4] at ht ⊢
  rw [e5] at hnew
  rw [get_setMany _ _ _ t (by simp; omega), if_neg (by omega), get_setMany _ _ _ t (by omega)]
  by_cases h : t < i * k
  · rw [if_neg (by omega), if_pos h]
  · rw [if_pos (by omega), if_neg h, hnew _ (by omega), show i * k + k + (t - i * k) = t + k by omega]
theorem three_args {vs : Array Value} (h : vs.toList.length = 3) : ∃ a b c, vs = #[a, b, c] ∧ vs.toList[0]? = some a ∧ vs.toList[1]? = some b ∧ vs.toList[2]? = some c := by
  obtain ⟨l⟩ := vs
  match l, h with
  | [a, b, c], _ => exact ⟨a, b, c, rfl, rfl, rfl, rfl⟩
theorem del_rep {S : Nat → Nat → Prop} {w : World} {rows : List (List PV)} {cur cur' F : Array Value} {sz n i : Nat} (hn : rows.length = n) (hi : i < n) (hz : ∀ row ∈ rows, row.length = sz) (hcs : n * sz ≤ cur.size) (hF : DelF sz n i cur F)
    (hc' : ∀ t y, t < F.size → cur'[t]? = some y → y = F[t]!)
    (hrow : ∀ (k : Nat) row (j : Nat) p, rows[k]? = some row → row[j]? = some p → ∃ y, cur[k * sz + j]? = some y ∧ y.oneCell' = true ∧ RepP S w p y) :
    ∀ (k : Nat) row (j : Nat) p u, (rows.eraseIdx i)[k]? = some row → row[j]? = some p → cur'[k * sz + j]? = some u → u.oneCell' = true ∧ RepP S w p u := by
  intro k row j p u a b c
  have hk : k < n - 1 := by
    have := (List.getElem?_eq_some_iff.1 a).1
    rw [List.length_eraseIdx, if_pos (by omega)] at this; omega
  have hj : j < sz := by rw [← hz row (List.mem_of_mem_eraseIdx (List.mem_of_getElem? a))]; exact (List.getElem?_eq_some_iff.1 b).1
  have hle : (k + 1) * sz ≤ (n - 1) * sz := Nat.mul_le_mul_right _ (by omega)
  have hle2 : (n - 1) * sz ≤ n * sz := Nat.mul_le_mul_right _ (by omega)
  rw [Nat.add_mul, Nat.one_mul] at hle
  have hu := hc' _ _ (by rw [hF.1]; omega) c
  rw [hF.2 _ (by omega)] at hu
  rw [List.getElem?_eraseIdx] at a
  by_cases hki : k < i
  · rw [if_pos hki] at a
    have : (k + 1) * sz ≤ i * sz := Nat.mul_le_mul_right _ (by omega)
    rw [Nat.add_mul, Nat.one_mul] at this
    rw [if_pos (by omega)] at hu
    obtain ⟨y, y1, y2, y3⟩ := hrow k row j p a b
    obtain ⟨y4, y5⟩ := Array.getElem?_eq_some_iff.1 y1
    rw [getElem!_pos cur _ y4, y5] at hu
    subst hu
    exact ⟨y2, y3⟩
  · rw [if_neg hki] at a
    have : i * sz ≤ k * sz := Nat.mul_le_mul_right _ (by omega)
    rw [if_neg (by omega)] at hu
    obtain ⟨y, y1, y2, y3⟩ := hrow (k + 1) row j p a b
    rw [show (k + 1) * sz + j = k * sz + j + sz by rw [Nat.add_mul, Nat.one_mul]; omega] at y1
    obtain ⟨y4, y5⟩ := Array.getElem?_eq_some_iff.1 y1
    rw [getElem!_pos cur _ y4, y5] at hu
    subst hu
    exact ⟨y2, y3⟩
theorem holds_cur {w : World} {g T : Nat} {cur : Array Value} (hc : w.heap[g]? = some (.cells cur T (0, 0))) : Holds id w g 0 cur := by
  intro t ht
  refine ⟨?_, ?_⟩
  · simp [World.cell?, hc, getElem!_pos cur t ht, ht]
  · simp [World.frozen?, hc]
set_option maxHeartbeats 4000000 in
set_option maxRecDepth 1000000 in
theorem delE_calls (blk off cap n i j : Nat) (cs : Array Value) (w : World) (h0 : off = 0) (hj : j = i + 1) (hH : Holds id w blk off cs) (hz : cs.size = cap * 5) (h1 : ∀ t, t < n * 5 → (cs[t]!).oneCell' = true) (hn : n ≤ cap) (hm : cap ≤ 9223372036854775807) (hi : i < n) :
    Calls Try.prog 89 #[.slice (some ⟨blk, off, none⟩) n cap, .int .i64 i, .int .i64 j] w fun e w' => e = .returned (.slice (some ⟨blk, off, none⟩) (n - 1) cap) ∧ DelOut 5 n i w blk cs w' := by
  have mixed : Try.prog.follows Departure.mixedOrders = true := rfl
  have hcz : n * 5 ≤ cs.size := by rw [hz]; exact Nat.mul_le_mul_right _ hn
  obtain ⟨news, hnews⟩ : ∃ news : List Value, news = (List.range ((n - j) * 5)).map fun t => cs[j * 5 + t]! := ⟨_, rfl⟩
  have hlen : news.length = (n - j) * 5 := by rw [hnews]; simp
  have hget : ∀ t u, news[t]? = some u → t < (n - j) * 5 ∧ u = cs[j * 5 + t]! := by
    intro t u hu
    have ht : t < news.length := (List.getElem?_eq_some_iff.1 hu).1
    rw [hlen] at ht
    rw [hnews, List.getElem?_map, List.getElem?_range ht] at hu
    exact ⟨ht, (Option.some.inj hu).symm⟩
  obtain ⟨A, hA, hsrc⟩ : ∃ A : Addr, (if cap = j then some (⟨blk, off, none⟩ : Addr) else some ⟨blk, off + j * 5, none⟩) = some A ∧ Hid (∀ t u, news[t]? = some u → w.drew.cell? (A.add t) = some u) := by
    by_cases h : cap = j
    · refine ⟨⟨blk, off, none⟩, by simp [h], fun t u hu => ?_⟩
      have := (hget t u hu).1
      have e : n - j = 0 := by omega
      rw [e] at this; omega
    · refine ⟨⟨blk, off + j * 5, none⟩, by simp [h], fun t u hu => ?_⟩
      obtain ⟨ht, rfl⟩ := hget t u hu
      rw [Addr.add_lit, Nat.add_assoc]
      exact (hH _ (by omega)).1
  have s1 : Hid (news.length = (n - j) * 5) := hlen
  have s2 : Hid (∀ u ∈ news, u.oneCell' = true) := by
    intro u hu
    obtain ⟨t, ht, rfl⟩ := List.getElem_of_mem hu
    obtain ⟨h2, h3⟩ := hget t _ (List.getElem?_eq_getElem ht)
    rw [h3]
    exact h1 _ (by omega)
  have s3 : Hid (∀ t, t < news.length → (w.drew.cell? ⟨blk, off + i * 5 + t, none⟩).isSome = true ∧ w.drew.frozen? ⟨blk, off + i * 5 + t, none⟩ = false) := by
    intro t ht
    rw [hlen] at ht
    rw [Nat.add_assoc]
    exact ⟨by show (w.cell? _).isSome = true; rw [(hH (i * 5 + t) (by omega)).1]; rfl, (hH (i * 5 + t) (by omega)).2⟩
  obtain ⟨W1, hW1⟩ : ∃ W1, W1 = w.drew.setCells blk (off + i * 5) news := ⟨_, rfl⟩
  have hput : W1 = putRow id (Sort.ahead w 1) blk off (setMany cs (i * 5) news) := by
    rw [hW1, ← setCells_putRow _ _ _ _ _ _ (by omega), putRow_self id (Sort.ahead w 1) blk off cs (holds_ahead id w 1 blk off cs hH)]
    rfl
  have hH1 : Holds id W1 blk off (setMany cs (i * 5) news) := by rw [hput]; exact holds_putRow id _ blk off cs _ (holds_ahead id w 1 blk off cs hH) (by simp)
  obtain ⟨zs, hzl, hcl⟩ : ∃ zs : List Value, zs.length = (n - (i + (n - j))) * 5 ∧ ∀ ty, (Builtin.clear_ #[22] ty #[.slice (some ⟨blk, off + (i + (n - j)) * 5, none⟩) (n - (i + (n - j))) (cap - (i + (n - j)))]).run Try.prog W1 = .ok (.tuple #[]) (W1.setCells blk (off + (i + (n - j)) * 5) zs) := by
    obtain ⟨zs, e1, e2⟩ := run_clear_cells (P := Try.prog) W1 22 44 0 (.agg #[.int .i64 0, .int .i64 0, .int .i64 0, .string ⟨#[]⟩, .slice none 0 0]) rfl (fun _ => by kernel_rfl) (by intro v hv; simp [Value.cells] at hv; first | (rcases hv with rfl | rfl | rfl <;> rfl) | (rcases hv with rfl | rfl | rfl | rfl | rfl <;> rfl)) blk (off + (i + (n - j)) * 5) (n - (i + (n - j))) (cap - (i + (n - j))) (by omega)
      (fun s hs => by
        have hs' : s < (n - (i + (n - j))) * 5 := hs
        have := (hH1 ((i + (n - j)) * 5 + s) (by rw [size_setMany]; omega)).1
        rw [← Nat.add_assoc] at this
        rw [this]; rfl) (fun s hs => by
        have hs' : s < (n - (i + (n - j))) * 5 := hs
        have := (hH1 ((i + (n - j)) * 5 + s) (by rw [size_setMany]; omega)).2
        rwa [← Nat.add_assoc] at this)
    exact ⟨zs, e1, fun ty => e2⟩
  have fin : Aside (DelOut 5 n i w blk cs (W1.setCells blk (off + (i + (n - j)) * 5) zs)) := by
    subst h0 hj
    refine ⟨1, _, delF_of hcz hi news zs hlen (fun t ht => ?_), ?_⟩
    · rw [getElem!_pos news t ht]
      exact (hget t _ (List.getElem?_eq_getElem ht)).2
    · rw [hput, setCells_putRow _ _ _ _ _ _ (by rw [size_setMany, hzl]; omega), show i + (n - (i + 1)) = n - 1 by omega]
  have hW : Hid (W1 = w.drew.setCells blk (off + i * 5) news) := hW1
  have hic : i ≤ cap := by omega
  have hjc : j ≤ cap := by omega
  obtain ⟨i0, hi0, hz0, hz1, hz2⟩ := info_parts (P := Try.prog) (e := 44) (z := .agg #[.int .i64 0, .int .i64 0, .int .i64 0, .string ⟨#[]⟩, .slice none 0 0]) (size := 5) (bytes := 64) (by kernel_rfl)
  clear hput hW1 hH1 hH hget hnews hlen h1 hz hcz h0
  have hij : ¬ i = j := by omega
  have hijle : i ≤ j := by omega
  have hjn : j ≤ n := by omega
  have hA' : Hid (j = i + 1) := hj
  clear hj
  go_enter Try.func89, Try.ntmps89
  go_wp2_with fail
  go_region_law_o (refine step_append_room rfl (.tmp 22) (.tmp 25) 22 rfl 44 i0 5 rfl hi0 hz1 blk off i cap (by simp [Act.eval, Act.put]) A (n - j) (cap - j) news (by simp [Act.eval, Act.put]) s1.out hsrc.out s2.out (by omega) s3.out ?_; rw [← hW.out])
  go_wp2
  go_ret
  have hj := hA'.out
  exact ⟨by rw [show n - 1 = i + (n - j) by omega]; rfl, fin.out⟩
theorem delE_meets (rows : List (List PV)) (v T i : Nat) (hi : i < rows.length) :
    Meets Try.prog 89 [.arr 0 v, .int .i64 i, .int .i64 ((i + 1 : Nat) : Int)] [.arr v true false T 5 rows] (.arr 0 (v + 1)) [.arr (v + 1) true false T 5 (rows.eraseIdx i)] := by
  intro x vs hx h0 hp
  obtain ⟨a, b, c, rfl, p1, p2, p3⟩ := three_args hp.1
  have ha := hp.2 0 _ _ rfl p1
  obtain rfl := (hp.2 1 _ _ rfl p2).int_inv
  obtain rfl := (hp.2 2 _ _ rfl p3).int_inv
  obtain ⟨e1, e2, e3⟩ := h0.row (id := 0) rfl ha
  rcases e3 with ⟨rfl, hnil⟩ | ⟨g, cap, cur, rfl, hc, hcap, hm, hz, hrow⟩
  · subst hnil; simp at hi
  · have hH := holds_cur hc
    have hcs : rows.length * 5 ≤ cur.size := by rw [hz]; exact Nat.mul_le_mul_right _ hcap
    have key := delE_calls g 0 cap rows.length i (i + 1) cur x.w0 rfl rfl hH hz (fun t ht => by
      have hk : t / 5 < rows.length := Nat.div_lt_of_lt_mul (by omega)
      have hj : t % 5 < (rows[t / 5]'hk).length := by rw [e2 _ (List.getElem_mem hk)]; exact Nat.mod_lt _ (by omega)
      obtain ⟨y, y1, y2, -⟩ := hrow (t / 5) _ (t % 5) _ (List.getElem?_eq_getElem hk) (List.getElem?_eq_getElem hj)
      rw [show t / 5 * 5 + t % 5 = t by omega] at y1
      obtain ⟨y4, y5⟩ := Array.getElem?_eq_some_iff.1 y1
      rw [getElem!_pos cur _ y4, y5]; exact y2) hcap (by simp [maxLen] at hm; omega) hi
    refine key.mono ?_
    rintro e w' ⟨rfl, q, F, hF, rfl⟩
    obtain ⟨cur', c1, c2, c3, c4⟩ := row_worldF x.w0 g q F hc
    have hown : (x.C0.sv 0).ownBlock = some g := by rw [← e1]; rfl
    have hlen : (rows.eraseIdx i).length = rows.length - 1 := by rw [List.length_eraseIdx, if_pos hi]
    obtain ⟨C', k1, k2, k3⟩ := h0.rerow (id := 0) (v' := v + 1) (g' := g) (cap' := cap) (rows' := rows.eraseIdx i) (cur' := cur') rfl (by
      refine ⟨c4.size, c4.os, c4.tape, c4.output, fun b hb hne => c4.blk b hb fun e => hne (by rw [hown, e])⟩) (.inl hown) (.inr (by omega)) c1 (by rw [hlen]; omega) hm (by rw [c2, hz])
      (fun row hr => e2 row (List.mem_of_mem_eraseIdx hr)) (del_rep rfl hi e2 hcs hF c3 hrow)
    rw [hlen] at k3
    exact ⟨_, C', rfl, k1, k3⟩
end Go.Proofs.Ytkibfciheifphaa
/- slices.Insert of one element of k cells: in memory. -/
namespace Go.Proofs.Ytkibfciheifphaa
open Go.RowKit Go.Lib Go.Sort
open Go.Shelf
def InsF (k n i : Nat) (cs : Array Value) (vs : List Value) (F : Array Value) : Prop := ∀ t, t < (n + 1) * k → F[t]! = if t < i * k then cs[t]! else if t < i * k + k then vs[t - i * k]! else cs[t - k]!
theorem run_overlaps_own {P : Program} (w : World) (tS tR e : TypeId) (ht : P.underlying tS = some (.slice e)) (size : Nat) (hz : ∀ w, (Go.sizeOf e).run P w = .ok size w)
    (a b : Addr) (la ca lb cb : Nat) (hne : a.block ≠ b.block) (tA tB : TypeId) (kA kB : Nat)
    (hsa : w.shape? a.block = some (tA, kA)) (hsb : w.shape? b.block = some (tB, kB)) (hkB : kB ≠ 0) (hkA : kA ≠ 0)
    (hfa : w.frozen? b = false) (hfe : w.frozen? { block := b.block, off := kB } = false) :
    (Extern.SlicesOverlaps.overlaps #[tS, tS] #[tR] #[.slice (some a) la ca, .slice (some b) lb cb]).run P w = .ok (.bool false) w := by
  have hnb : (a.block != b.block) = true := by simpa using hne
  have hnb' : (a.block == b.block) = false := by simpa using hne
  change Sem.run P (α := Value) (do
    let some t := (#[tS, tS] : Array TypeId)[0]? | stuck "slices.overlaps: no parameter types"
    let .slice elem ← underlying t | stuck "slices.overlaps: slice type expected"
    let size ← sizeOf elem
    match (some a : Option Addr), (some b : Option Addr) with
    | some a, some b =>
      if la = 0 ∨ lb = 0 ∨ size = 0 then pure (Value.bool false)
      else if a.block != b.block && (← frozen a) && (← frozen b) then unsupported .addressObserved
      else do
        if a.block != b.block then do
          noView a; noView b
          if ← mayBeOne a b then return Value.bool ((← choose (.extern "sameAddr.stringBytes" 2)) == 1)
        pure (Value.bool (a.block == b.block && a.off < b.off + lb * size && b.off < a.off + la * size))
    | _, _ => pure (Value.bool false)) w = _
  by_cases h0 : la = 0 ∨ lb = 0 ∨ size = 0
  · simp [run_underlying ht, hz, h0]
  · cases kB with
    | zero => exact absurd rfl hkB
    | succ kB =>
     cases kA with
     | zero => exact absurd rfl hkA
     | succ kA =>
      cases h1 : w.frozen? a <;> cases h2 : w.frozen? { block := a.block, off := kA + 1 } <;>
        simp [run_underlying ht, hz, h0, hnb, hnb', frozen, noView, viewAt, mayBeOne, stringish, shape, Sem.run, hsa, hsb, hfa, hfe, h1, h2]
theorem run_copy_cellsK {P : Program} (w : World) (dT sT ty elem : TypeId) (k : Nat) (b o dLen dCap : Nat) (a : Addr) (sLen sCap m : Nat) (cs : List Value)
    (hu : P.underlying dT = some (.slice elem)) (hs : (P.info? elem).map (·.size) = some k) (hm : m = Nat.min sLen dLen) (hn : cs.length = m * k)
    (hsrc : ∀ j v, cs[j]? = some v → w.cell? (a.add j) = some v) (hc : ∀ j, j < cs.length → (w.cell? ⟨b, o + j, none⟩).isSome = true) (hf : ∀ j, j < cs.length → w.frozen? ⟨b, o + j, none⟩ = false) (h1 : ∀ v ∈ cs, v.oneCell' = true) :
    (Builtin.copy_ #[dT, sT] ty #[.slice (some ⟨b, o, none⟩) dLen dCap, .slice (some a) sLen sCap]).run P w = .ok (goInt m) (w.setCells b o cs) := by
  have hl := run_loadCells_list (P := P) w a cs hsrc
  have hst := run_storeCells_cells (P := P) b o cs 0 w (by simpa using hc) (by simpa using hf) h1
  cases hq : P.info? elem with
  | none => simp [hq] at hs
  | some i =>
    have hi : i.size = k := by simpa [hq] using hs
    rw [hn] at hl
    simp [Builtin.copy_, run_underlying hu, Builtin.lenOf, Builtin.firstCells, sizeOf, typeInfo, hq, hi, ← hm, hl, hst]
def seg (cs : Array Value) (s m : Nat) : List Value := (List.range m).map fun t => cs[s + t]!
theorem seg_len (cs : Array Value) (s m : Nat) : (seg cs s m).length = m := by simp [seg]
theorem seg_get {cs : Array Value} {s m t : Nat} {u : Value} (h : (seg cs s m)[t]? = some u) : t < m ∧ u = cs[s + t]! := by
  have ht : t < (seg cs s m).length := (List.getElem?_eq_some_iff.1 h).1
  rw [seg_len] at ht
  rw [seg, List.getElem?_map, List.getElem?_range ht] at h
  exact ⟨ht, (Option.some.inj h).symm⟩
theorem seg_get! {cs : Array Value} {s m t : Nat} (h : t < m) : (seg cs s m)[t]! = cs[s + t]! := by
  rw [getElem!_pos _ t (by rw [seg_len]; exact h)]
  simp [seg]
theorem seg_one {cs : Array Value} {s m e : Nat} (h1 : ∀ t, t < e → (cs[t]!).oneCell' = true) (he : s + m ≤ e) : ∀ v ∈ seg cs s m, v.oneCell' = true := by
  intro v hv
  obtain ⟨t, ht, rfl⟩ := List.getElem_of_mem hv
  obtain ⟨h2, h3⟩ := seg_get (List.getElem?_eq_getElem ht)
  rw [h3]; exact h1 _ (by omega)
theorem insF_of {k n i : Nat} {cs : Array Value} {vs : List Value} (hz : (n + 1) * k ≤ cs.size) (hi : i ≤ n) (hv : vs.length = k) :
    InsF k n i cs vs (setMany (setMany cs ((i + 1) * k) (seg cs (i * k) ((n - i) * k))) (i * k) vs) := by
  intro t ht
  obtain ⟨m, rfl⟩ : ∃ m, n = i + m := ⟨n - i, by omega⟩
  have e1 : (i + m + 1) * k = i * k + m * k + k := by rw [Nat.add_mul, Nat.add_mul, Nat.one_mul]
  have e2 : (i + 1) * k = i * k + k := by rw [Nat.add_mul, Nat.one_mul]
  have e3 : i + m - i = m := by omega
  rw [e1] at hz ht
  rw [e2, e3, get_setMany _ _ _ t (by simp; omega), hv]
  by_cases h1 : t < i * k
  · rw [if_neg (by omega), if_pos h1, get_setMany _ _ _ t (by omega), if_neg (by omega)]
  · by_cases h2 : t < i * k + k
    · rw [if_pos (by omega), if_neg h1, if_pos h2]
    · rw [if_neg (by omega), if_neg h1, if_neg h2, get_setMany _ _ _ t (by omega), seg_len, if_pos (by omega), seg_get! (by omega), show i * k + (t - (i * k + k)) = t - k by omega]
theorem wpList_append_room_k {P : Program} (w : World) {ops : Array Oper} {rest : List Oper} {o : Oper} {a : Act} {Q : Exit → Act → World → Prop}
    (hg : o.guard = none) (s x : Operand) (t : TypeId) (hop : o.op = Op.call { callee := Callee.builtin Builtin.append, args := #[s, x], argTypes := #[t, t] })
    (e : TypeId) (i : TypeInfo) (size : Nat) (h1 : P.underlying t = some (.slice e)) (h2 : P.info? e = some i) (h4 : i.size = size)
    (b off n cap : Nat) (hs : a.eval s = .slice (some ⟨b, off, none⟩) n cap) (ad : Addr) (m c : Nat) (news : List Value) (hx : a.eval x = .slice (some ad) m c) (hn : news.length = m * size)
    (hc : ∀ j u, news[j]? = some u → w.cell? (ad.add j) = some u) (h1c : ∀ u ∈ news, u.oneCell' = true) (hroom : n + m ≤ cap)
    (hspare : ∀ j, j < news.length → (w.cell? ⟨b, off + n * size + j, none⟩).isSome = true ∧ w.frozen? ⟨b, off + n * size + j, none⟩ = false)
    (hK : wpList P ops Q rest (a.put o.dst (.slice (some ⟨b, off, none⟩) (n + m) cap)) (w.setCells b (off + n * size) news)) :
    wpList P ops Q (o :: rest) a w := by
  refine wpList_plain hg fun K hK' => ?_
  subst h4
  have hrun := run_append_room_cells (P := P) w t o.type e i h1 h2 b off n cap ad m c news hn hc h1c hroom (fun j hj => (hspare j hj).1) (fun j hj => (hspare j hj).2)
  unfold Oper.wp
  simp [execOp, hop, resolve, invoke, builtin, hs, hx, hrun, Result.andThen]
  exact hK' _ _ hK
set_option maxHeartbeats 4000000 in
set_option maxRecDepth 1000000 in
theorem insE_shift (blk off cap n i m vb voff vc tA kA : Nat) (cs : Array Value) (vs : List Value) (w : World) (h0 : off = 0) (hm1 : m = 1) (hH : Holds id w blk off cs) (hz : cs.size = cap * 5) (h1 : ∀ t, t < n * 5 → (cs[t]!).oneCell' = true)
    (hvl : vs.length = 5) (hvs : ∀ j v, vs[j]? = some v → w.cell? ⟨vb, voff + j, none⟩ = some v) (h1v : ∀ v ∈ vs, v.oneCell' = true) (hvb : vb ≠ blk) (hsa : w.shape? vb = some (tA, kA)) (hkA : kA ≠ 0) (tB : TypeId) (hsb : w.shape? blk = some (tB, cap * 5)) (hfb : ∀ o, w.frozen? ⟨blk, o, none⟩ = false)
    (hm : cap ≤ 9223372036854775807) (hi : i < n) (hroom : n + m ≤ cap) :
    Calls Try.prog 72 #[.slice (some ⟨blk, off, none⟩) n cap, .int .i64 i, .slice (some ⟨vb, voff, none⟩) m vc] w fun e w' => e = .returned (.slice (some ⟨blk, off, none⟩) (n + m) cap) ∧ ∃ (q : Nat) (F : Array Value), F.size = cs.size ∧ InsF 5 n i cs vs F ∧ w' = putRow id (Sort.ahead w q) blk 0 F := by
  have mixed : Try.prog.follows Departure.mixedOrders = true := rfl
  have hz1 : ¬ ((m : Int) = 0) := by omega
  have hz2 : ¬ ((i : Int) = (n : Int)) := by omega
  have hsz : (Try.prog.info? 44).map (·.size) = some 5 := by kernel_rfl
  have hov : ∀ lb cb, (callFunc 86 #[.slice (some ⟨vb, voff, none⟩) m vc, .slice (some ⟨blk, off + (i + m) * 5, none⟩) lb cb]).run Try.prog w = .ok (.value (.bool false)) w := fun lb cb => by
    rw [run_callFunc_extern Try.func86 (by kernel_rfl) (by kernel_rfl) (by kernel_rfl) (e := Extern.SlicesOverlaps.overlaps #[22, 22] #[4]) (by kernel_rfl),
      run_overlaps_own w 22 4 44 rfl 5 (fun _ => by kernel_rfl) ⟨vb, voff, none⟩ ⟨blk, off + (i + m) * 5, none⟩ m vc lb cb hvb tA tB kA (cap * 5) hsa hsb (by omega) hkA (hfb _) (hfb _)]
    rfl
  have hw1 : IntKind.i64.wrap ((i : Int) + (m : Int)) = (i : Int) + (m : Int) := by rw [IntKind.wrap_i64]; omega
  have hb1 : (0 : Int) ≤ (i : Int) + (m : Int) := by omega
  have hin : i ≤ n := by omega
  have htn : ((i : Int) + (m : Int)).toNat = i + m := by omega
  have hb2 : ¬ (cap = i + m) := by omega
  have hb3 : (i : Int) ≤ (n : Int) + (m : Int) := by omega
  have hb4 : ¬ (cap = i) := by omega
  have hcz : n * 5 ≤ cs.size := by rw [hz]; exact Nat.mul_le_mul_right _ (by omega)
  have hcz1 : (n + m) * 5 ≤ cs.size := by rw [hz]; exact Nat.mul_le_mul_right _ hroom
  obtain ⟨news, hnews⟩ : ∃ news, news = seg cs (i * 5) ((n - i) * 5) := ⟨_, rfl⟩
  have hnl : news.length = (n - i) * 5 := by rw [hnews, seg_len]
  have hcp1 : ∀ ty dc sc, (Builtin.copy_ #[22, 22] ty #[.slice (some ⟨blk, off + (i + m) * 5, none⟩) (n + m - (i + m)) dc, .slice (some ⟨blk, off + i * 5, none⟩) (n + m - i) sc]).run Try.prog w.drew = .ok (goInt ((n - i : Nat) : Int)) (w.drew.setCells blk (off + (i + m) * 5) news) := fun ty dc sc =>
    run_copy_cellsK w.drew _ _ ty 44 5 blk (off + (i + m) * 5) (n + m - (i + m)) dc ⟨blk, off + i * 5, none⟩ (n + m - i) sc (n - i) news rfl hsz (by simp only [Nat.min_def]; split <;> omega) hnl
      (fun j v hj => by
        rw [hnews] at hj
        obtain ⟨ht, rfl⟩ := seg_get hj
        rw [Addr.add_lit, Nat.add_assoc]; exact (hH _ (by omega)).1)
      (fun j hj => by rw [hnl] at hj; rw [Nat.add_assoc]; show (w.cell? _).isSome = true; rw [(hH _ (by omega)).1]; rfl) (fun j hj => by exact hfb _)
      (by rw [hnews]; exact seg_one h1 (by omega))
  obtain ⟨W1, hW1⟩ : ∃ W1, W1 = w.drew.setCells blk (off + (i + m) * 5) news := ⟨_, rfl⟩
  have hput : W1 = putRow id (Sort.ahead w 1) blk off (setMany cs ((i + m) * 5) news) := by
    rw [hW1, ← setCells_putRow _ _ _ _ _ _ (by omega), putRow_self id (Sort.ahead w 1) blk off cs (holds_ahead id w 1 blk off cs hH)]
    rfl
  have hH1 : Holds id W1 blk off (setMany cs ((i + m) * 5) news) := by rw [hput]; exact holds_putRow id _ blk off cs _ (holds_ahead id w 1 blk off cs hH) (by simp)
  have hcp2 : ∀ (W : World), W = W1 → ∀ ty dc, (Builtin.copy_ #[22, 22] ty #[.slice (some ⟨blk, off + i * 5, none⟩) (n + m - i) dc, .slice (some ⟨vb, voff, none⟩) m vc]).run Try.prog W = .ok (goInt m) (W.setCells blk (off + i * 5) vs) := fun W hWc ty dc => by
    subst hWc
    refine run_copy_cellsK W _ _ ty 44 5 blk (off + i * 5) (n + m - i) dc ⟨vb, voff, none⟩ m vc m vs rfl hsz (by simp only [Nat.min_def]; split <;> omega) (by omega)
      (fun j v hj => by
        rw [Addr.add_lit, hW1, World.cell?_setCells_out blk _ _ _ _ (fun h _ => absurd h hvb)]
        exact hvs j v hj)
      (fun j hj => by rw [Nat.add_assoc, (hH1 _ (by rw [size_setMany]; omega)).1]; rfl) (fun j hj => by rw [Nat.add_assoc]; exact (hH1 _ (by rw [size_setMany]; omega)).2) h1v
  have fin : Aside (∃ (q : Nat) (F : Array Value), F.size = cs.size ∧ InsF 5 n i cs vs F ∧ W1.setCells blk (off + i * 5) vs = putRow id (Sort.ahead w q) blk 0 F) := by
    subst h0 hm1
    refine ⟨1, _, ?_, insF_of hcz1 (by omega) hvl, ?_⟩
    · simp
    · rw [hput, setCells_putRow _ _ _ _ _ _ (by rw [size_setMany]; omega), hnews]
  rw [← hW1] at hcp1
  clear hkA hput hH hH1 hnews hnl hz hcz hcz1 h1 hvs h1v hsa hsb hfb hvl h0 hm1 hvb
  go_enter Try.func72, Try.ntmps72
  go_wp2_with (simp only [hov])
  go_region_law_o (refine step_copy_runI rfl _ _ 22 22 rfl _ _ (by simp [Act.eval, Act.put]) (by simp [Act.eval, Act.put]) (hcp1 _ _ _) ?_)
  go_wp2_with (at_builtin; refine wpList_copy_runI _ rfl _ _ 22 22 rfl _ _ rfl rfl (hcp2 _ rfl _ _) ?_)
  go_ret
  exact ⟨rfl, by rw [← hW1]; exact fin.out⟩
set_option maxHeartbeats 4000000 in
set_option maxRecDepth 1000000 in
theorem insE_end_room (blk off cap n m vb voff vc : Nat) (cs : Array Value) (vs : List Value) (w : World) (h0 : off = 0) (hm1 : m = 1) (hH : Holds id w blk off cs) (hz : cs.size = cap * 5)
    (hvl : vs.length = 5) (hvs : ∀ j v, vs[j]? = some v → w.cell? ⟨vb, voff + j, none⟩ = some v) (h1v : ∀ v ∈ vs, v.oneCell' = true)
    (hm : cap ≤ 9223372036854775807) (hroom : n + m ≤ cap) :
    Calls Try.prog 72 #[.slice (some ⟨blk, off, none⟩) n cap, .int .i64 n, .slice (some ⟨vb, voff, none⟩) m vc] w fun e w' => e = .returned (.slice (some ⟨blk, off, none⟩) (n + m) cap) ∧ ∃ (q : Nat) (F : Array Value), F.size = cs.size ∧ InsF 5 n n cs vs F ∧ w' = putRow id (Sort.ahead w q) blk 0 F := by
  have mixed : Try.prog.follows Departure.mixedOrders = true := rfl
  have hz1 : ¬ ((m : Int) = 0) := by omega
  have hcz1 : (n + m) * 5 ≤ cs.size := by rw [hz]; exact Nat.mul_le_mul_right _ hroom
  obtain ⟨i0, hi0, hz0, hzs, hzb⟩ := info_parts (P := Try.prog) (e := 44) (z := .agg #[.int .i64 0, .int .i64 0, .int .i64 0, .string ⟨#[]⟩, .slice none 0 0]) (size := 5) (bytes := 64) (by kernel_rfl)
  have s1 : Hid (∀ j u, vs[j]? = some u → w.cell? (Addr.add ⟨vb, voff, none⟩ j) = some u) := fun j u hj => by rw [Addr.add_lit]; exact hvs j u hj
  have s2 : Hid (∀ u ∈ vs, u.oneCell' = true) := h1v
  have s3 : Hid (∀ j, j < vs.length → (w.cell? ⟨blk, off + n * 5 + j, none⟩).isSome = true ∧ w.frozen? ⟨blk, off + n * 5 + j, none⟩ = false) := fun j hj => by
    rw [Nat.add_assoc]; exact ⟨by rw [(hH _ (by omega)).1]; rfl, (hH _ (by omega)).2⟩
  have s5 : Hid (vs.length = m * 5) := by show vs.length = m * 5; omega
  have s6 : Hid (∀ j u, (seg cs 0 (n * 5))[j]? = some u → w.cell? ⟨blk, off + j, none⟩ = some u) := fun j u hj => by
    obtain ⟨ht, rfl⟩ := seg_get hj
    rw [Nat.zero_add]; exact (hH _ (by omega)).1
  have fin : Aside (∃ (q : Nat) (F : Array Value), F.size = cs.size ∧ InsF 5 n n cs vs F ∧ w.setCells blk (off + n * 5) vs = putRow id (Sort.ahead w q) blk 0 F) := by
    subst h0 hm1
    refine ⟨0, setMany cs (n * 5) vs, by simp, fun t ht => ?_, ?_⟩
    · rw [get_setMany _ _ _ t (by omega), hvl]
      by_cases h1 : t < n * 5
      · rw [if_neg (by omega), if_pos h1]
      · rw [if_pos (by omega), if_neg h1, if_pos (by omega)]
    · rw [← setCells_putRow _ _ _ _ _ _ (by omega), putRow_self id (Sort.ahead w 0) blk 0 cs (holds_ahead id w 0 blk 0 cs hH)]
      rfl
  have hml : n + m ≤ maxLen := by unfold maxLen; omega
  clear hH hz hcz1 hvs h1v hvl h0 hm1
  go_enter Try.func72, Try.ntmps72
  go_wp2_with (at_builtin; refine wpList_append_room_k _ rfl _ _ 22 rfl 44 i0 5 rfl hi0 hzs blk off n cap rfl ⟨vb, voff, none⟩ m vc vs rfl s5.out s1.out s2.out hroom s3.out ?_)
  go_ret
  exact ⟨rfl, fin.out⟩
set_option maxHeartbeats 4000000 in
set_option maxRecDepth 1000000 in
theorem insE_end_grow (ao : Option Addr) (cap n m vb voff vc : Nat) (olds vs : List Value) (w : World) (hm1 : m = 1) (hnone : ao = none → n = 0 ∧ cap = 0) (hlo : olds.length = n * 5) (holds : ∀ b, ao = some b → ∀ j u, olds[j]? = some u → w.cell? (b.add j) = some u)
    (hvl : vs.length = 5) (hvs : ∀ j v, vs[j]? = some v → w.cell? ⟨vb, voff + j, none⟩ = some v) (h1v : ∀ v ∈ vs, v.oneCell' = true)
    (hnc : n ≤ cap) (hfull : cap < n + m) (hbig : (n + m) * 64 ≤ 140737488355328) :
    Calls Try.prog 72 #[.slice ao n cap, .int .i64 n, .slice (some ⟨vb, voff, none⟩) m vc] w fun e w' => ∃ v', e = .returned v' ∧ w'.ownsRow w.heap.size 44 5 v' (n + m) (olds ++ vs) ∧ w.grownBy w' none := by
  have mixed : Try.prog.follows Departure.mixedOrders = true := rfl
  have hz1 : ¬ ((m : Int) = 0) := by omega
  obtain ⟨i0, hi0, hz0, hzs, hzb⟩ := info_parts (P := Try.prog) (e := 44) (z := .agg #[.int .i64 0, .int .i64 0, .int .i64 0, .string ⟨#[]⟩, .slice none 0 0]) (size := 5) (bytes := 64) (by kernel_rfl)
  have s1 : Hid (∀ j u, vs[j]? = some u → w.cell? (Addr.add ⟨vb, voff, none⟩ j) = some u) := fun j u hj => by rw [Addr.add_lit]; exact hvs j u hj
  have s2 : Hid (∀ u ∈ vs, u.oneCell' = true) := h1v
  have s5 : Hid (vs.length = m * 5) := by show vs.length = m * 5; omega
  have s6 : Hid (∀ b, ao = some b → ∀ j u, olds[j]? = some u → w.cell? (b.add j) = some u) := holds
  have s7 : Hid (ao = none → n = 0 ∧ cap = 0) := hnone
  have hml : n + m ≤ maxLen := by unfold maxLen; omega
  clear hvs h1v hvl hm1 holds hnone
  go_enter Try.func72, Try.ntmps72
  go_wp2_with (at_builtin; refine wpList_append_grows _ rfl _ _ 22 rfl 44 i0 (.agg #[.int .i64 0, .int .i64 0, .int .i64 0, .string ⟨#[]⟩, .slice none 0 0]) 5 64 rfl hi0 hz0 hzs hzb rfl (by omega) ao n cap olds rfl s7.out hlo s6.out ⟨vb, voff, none⟩ m vc vs rfl s5.out s1.out s2.out hfull hml hbig (fun v' w' r1 r2 => ?_))
  all_goals
    go_ret
    exact ⟨_, rfl, by assumption, by assumption⟩
end Go.Proofs.Ytkibfciheifphaa
/- slices.Insert of one element of k cells where there is no room: in memory. -/
namespace Go.Proofs.Ytkibfciheifphaa
open Go.RowKit Go.Lib Go.Sort
open Go.Shelf
theorem insF_grow {k n i : Nat} {cs ROW : Array Value} {vs : List Value} (hz : (n + 1) * k ≤ ROW.size) (hi : i ≤ n) (hv : vs.length = k) (hrow : ∀ t, t < i * k → ROW[t]! = cs[t]!) :
    InsF k n i cs vs (setMany (setMany ROW (i * k) vs) ((i + 1) * k) (seg cs (i * k) ((n - i) * k))) := by
  intro t ht
  obtain ⟨m, rfl⟩ : ∃ m, n = i + m := ⟨n - i, by omega⟩
  have e1 : (i + m + 1) * k = i * k + m * k + k := by rw [Nat.add_mul, Nat.add_mul, Nat.one_mul]
  have e2 : (i + 1) * k = i * k + k := by rw [Nat.add_mul, Nat.one_mul]
  have e3 : i + m - i = m := by omega
  rw [e1] at hz ht
  rw [e2, e3, get_setMany _ _ _ t (by simp; omega), seg_len]
  by_cases h1 : t < i * k
  · rw [if_neg (by omega), if_pos h1, get_setMany _ _ _ t (by omega), if_neg (by omega), hrow t h1]
  · by_cases h2 : t < i * k + k
    · rw [if_neg (by omega), if_neg h1, if_pos h2, get_setMany _ _ _ t (by omega), hv, if_pos (by omega)]
    · rw [if_pos (by omega), if_neg h1, if_neg h2, seg_get! (by omega), show i * k + (t - (i * k + k)) = t - k by omega]
set_option maxHeartbeats 4000000 in
set_option maxRecDepth 1000000 in
theorem insE_grow (blk off cap n i m vb voff vc : Nat) (cs : Array Value) (vs : List Value) (w : World) (h0 : off = 0) (hm1 : m = 1) (hH : Holds id w blk off cs) (hz : cs.size = cap * 5) (h1 : ∀ t, t < n * 5 → (cs[t]!).oneCell' = true)
    (hvl : vs.length = 5) (hvs : ∀ j v, vs[j]? = some v → w.cell? ⟨vb, voff + j, none⟩ = some v) (h1v : ∀ v ∈ vs, v.oneCell' = true)
    (hi : i < n) (hnc : n ≤ cap) (hroom : cap < n + m) (hbig : (n + m) * 64 ≤ 140737488355328) :
    Calls Try.prog 72 #[.slice (some ⟨blk, off, none⟩) n cap, .int .i64 i, .slice (some ⟨vb, voff, none⟩) m vc] w fun e w' => ∃ (q G : Nat) (ROW F : Array Value), e = .returned (.slice (some ⟨w.heap.size, 0, none⟩) (n + m) G) ∧ n + m ≤ G ∧ G ≤ maxLen ∧ ROW.size = G * 5 ∧ F.size = ROW.size ∧ InsF 5 n i cs vs F ∧ w' = putRow id (Sort.ahead (w.alloc (.cells ROW 44)) q) w.heap.size 0 F := by
  have mixed : Try.prog.follows Departure.mixedOrders = true := rfl
  have hz1 : ¬ ((m : Int) = 0) := by omega
  have hz2 : ¬ ((i : Int) = (n : Int)) := by omega
  have hz3 : (cap : Int) < (n : Int) + (m : Int) := by omega
  have hsz : (Try.prog.info? 44).map (·.size) = some 5 := by kernel_rfl
  obtain ⟨i0, hi0, hz0, hzs, hzb⟩ := info_parts (P := Try.prog) (e := 44) (z := .agg #[.int .i64 0, .int .i64 0, .int .i64 0, .string ⟨#[]⟩, .slice none 0 0]) (size := 5) (bytes := 64) (by kernel_rfl)
  have hcz : n * 5 ≤ cs.size := by rw [hz]; exact Nat.mul_le_mul_right _ hnc
  have hbw : blk < w.heap.size := block_lt_of_cell (hH 0 (by omega)).1
  have hvw : vb < w.heap.size := block_lt_of_cell (hvs 0 _ (List.getElem?_eq_getElem (by omega)))
  have hkk : (n : Int) + (m : Int) - (i : Int) = ((n + m - i : Nat) : Int) := by omega
  have hik : i + (n + m - i) = n + m := by omega
  have hold : (Builtin.firstCells i0.size i (.slice (some ⟨blk, off, none⟩) i cap)).run Try.prog w.drew = .ok (seg cs 0 (i * 5)).toArray w.drew := by
    rw [hzs]
    exact run_firstCells_some w.drew 5 i ⟨blk, off, none⟩ i cap (seg cs 0 (i * 5)) (seg_len _ _ _) (fun j v hj => by
      obtain ⟨ht, rfl⟩ := seg_get hj
      rw [Addr.add_lit, Nat.zero_add]
      exact (hH _ (by omega)).1)
  obtain ⟨G, hG⟩ : ∃ G, G = grownCap w (n + m) cap 44 := ⟨_, rfl⟩
  obtain ⟨ROW, hROW⟩ : ∃ ROW : Array Value, ROW = (seg cs 0 (i * 5)).toArray ++ Builtin.zeroCells (Value.cells (.agg #[.int .i64 0, .int .i64 0, .int .i64 0, .string ⟨#[]⟩, .slice none 0 0])) (n + m - i) ++ Builtin.zeroCells (Value.cells (.agg #[.int .i64 0, .int .i64 0, .int .i64 0, .string ⟨#[]⟩, .slice none 0 0])) (G - (n + m)) := ⟨_, rfl⟩
  have hrz : ∀ ty, (Builtin.append_ #[22, 3] ty #[.slice (some ⟨blk, off, none⟩) i cap, .int .i64 ((n : Int) + (m : Int) - (i : Int))]).run Try.prog w =
      .ok (.slice (some ⟨w.heap.size, 0, none⟩) (n + m) G) (w.drew.alloc (.cells ROW 44)) := fun ty => by
    have h := Lib.run_append_grow_zeros w 22 3 ty 44 i0 _ .i64 .i64 rfl rfl hi0 hz0 (some ⟨blk, off, none⟩) i cap (seg cs 0 (i * 5)) hold (n + m - i) (by omega) (by omega) (by omega) (by omega) (by rw [hzb]; omega) (by rw [hzb, hik]; exact growslice_fits hroom hbig)
    rw [hik, ← hG, ← hROW] at h
    rw [hkk]
    exact h
  have hGn : n + m ≤ G := by rw [hG]; exact grownCap_ge w _ _ _
  have hGm : G ≤ maxLen := by rw [hG]; exact grownCap_le_maxLen w (n + m) cap 44 (by unfold maxLen; omega)
  have hG63 : G ≤ 9223372036854775807 := by have := hGm; unfold maxLen at this; omega
  have hRs : ROW.size = G * 5 := by
    rw [hROW]
    simp [Builtin.zeroCells, Value.cells, seg_len]
    omega
  have hRow : ∀ t, t < i * 5 → ROW[t]! = cs[t]! := fun t ht => by
    rw [getElem!_pos ROW t (by omega)]
    simp only [hROW]
    rw [Array.getElem_append_left (by simp [seg_len]; omega), Array.getElem_append_left (by simp [seg_len]; omega)]
    have := seg_get! (cs := cs) (s := 0) ht
    rw [getElem!_pos _ t (by rw [seg_len]; exact ht), Nat.zero_add] at this
    simpa using this
  obtain ⟨W1, hW1⟩ : ∃ W1, W1 = w.drew.alloc (.cells ROW 44) := ⟨_, rfl⟩
  have hN : Holds id W1 w.heap.size 0 ROW := fun j hj => by
    rw [Nat.zero_add, hW1]
    refine ⟨?_, World.frozen?_alloc_at (w := w.drew) ROW _ w.heap.size j rfl⟩
    rw [World.cell?_alloc_at (w := w.drew) ROW _ w.heap.size j rfl, Array.getElem?_eq_getElem hj, getElem!_pos ROW j hj]; rfl
  have hOb : ∀ j v, w.cell? ⟨blk, j, none⟩ = some v → W1.cell? ⟨blk, j, none⟩ = some v := fun j v h => by rw [hW1, World.cell?_alloc_past (w := w.drew) _ blk j hbw]; exact h
  have hOv : ∀ j v, w.cell? ⟨vb, j, none⟩ = some v → W1.cell? ⟨vb, j, none⟩ = some v := fun j v h => by rw [hW1, World.cell?_alloc_past (w := w.drew) _ vb j hvw]; exact h
  have hRn : (n + m) * 5 ≤ ROW.size := by rw [hRs]; exact Nat.mul_le_mul_right _ hGn
  have hcpA : ∀ ty dc, (Builtin.copy_ #[22, 22] ty #[.slice (some ⟨w.heap.size, i * 5, none⟩) (n + m - i) dc, .slice (some ⟨vb, voff, none⟩) m vc]).run Try.prog W1 = .ok (goInt m) (W1.setCells w.heap.size (i * 5) vs) := fun ty dc =>
    run_copy_cellsK W1 _ _ ty 44 5 w.heap.size (i * 5) (n + m - i) dc ⟨vb, voff, none⟩ m vc m vs rfl hsz (by simp only [Nat.min_def]; split <;> omega) (by omega)
      (fun j v hj => by rw [Addr.add_lit]; exact hOv _ v (hvs j v hj))
      (fun j hj => by have := (hN (i * 5 + j) (by omega)).1; rw [Nat.zero_add] at this; rw [this]; rfl) (fun j hj => by have := (hN (i * 5 + j) (by omega)).2; rwa [Nat.zero_add] at this) h1v
  obtain ⟨news, hnews⟩ : ∃ news, news = seg cs (i * 5) ((n - i) * 5) := ⟨_, rfl⟩
  have hnl : news.length = (n - i) * 5 := by rw [hnews, seg_len]
  obtain ⟨W2, hW2⟩ : ∃ W2, W2 = W1.setCells w.heap.size (i * 5) vs := ⟨_, rfl⟩
  have hself : putRow id W1 w.heap.size 0 ROW = W1 := putRow_self id W1 w.heap.size 0 ROW hN
  have hput : W2 = putRow id W1 w.heap.size 0 (setMany ROW (i * 5) vs) := by
    rw [← setCells_putRow _ _ _ _ _ _ (by omega), hself, hW2, Nat.zero_add]
  have hN2 : Holds id W2 w.heap.size 0 (setMany ROW (i * 5) vs) := by rw [hput]; exact holds_putRow id _ _ _ ROW _ hN (by simp)
  have hbN : blk ≠ w.heap.size := by omega
  have hcpB : ∀ ty dc sc, (Builtin.copy_ #[22, 22] ty #[.slice (some ⟨w.heap.size, (i + m) * 5, none⟩) (n + m - (i + m)) dc, .slice (some ⟨blk, off + i * 5, none⟩) (n - i) sc]).run Try.prog W2.drew = .ok (goInt ((n - i : Nat) : Int)) (W2.drew.setCells w.heap.size ((i + m) * 5) news) := fun ty dc sc =>
    run_copy_cellsK W2.drew _ _ ty 44 5 w.heap.size ((i + m) * 5) (n + m - (i + m)) dc ⟨blk, off + i * 5, none⟩ (n - i) sc (n - i) news rfl hsz (by simp only [Nat.min_def]; split <;> omega) hnl
      (fun j v hj => by
        rw [hnews] at hj
        obtain ⟨ht, rfl⟩ := seg_get hj
        rw [Addr.add_lit, Nat.add_assoc]
        show W2.cell? _ = _
        rw [hW2, World.cell?_setCells_out _ _ _ _ _ (fun h _ => absurd h hbN)]
        exact hOb _ _ (hH _ (by omega)).1)
      (fun j hj => by have := (hN2 ((i + m) * 5 + j) (by rw [size_setMany]; omega)).1; rw [Nat.zero_add] at this; show (W2.cell? _).isSome = true; rw [this]; rfl)
      (fun j hj => by have := (hN2 ((i + m) * 5 + j) (by rw [size_setMany]; omega)).2; rw [Nat.zero_add] at this; exact this) (by rw [hnews]; exact seg_one h1 (by omega))
  have fin : Aside (∃ (q : Nat) (F : Array Value), F.size = ROW.size ∧ InsF 5 n i cs vs F ∧ W2.drew.setCells w.heap.size ((i + m) * 5) news = putRow id (Sort.ahead (w.alloc (.cells ROW 44)) q) w.heap.size 0 F) := by
    subst h0 hm1
    refine ⟨2, _, ?_, insF_grow hRn (by omega) hvl hRow, ?_⟩
    · simp
    · have e : W2.drew = putRow id (Sort.ahead (w.alloc (.cells ROW 44)) 2) w.heap.size 0 (setMany ROW (i * 5) vs) := by rw [hput, hW1]; rfl
      rw [← setCells_putRow _ _ _ _ _ _ (by rw [size_setMany, seg_len]; omega), ← e, hnews, Nat.zero_add]
  rw [← hW1] at hrz
  rw [← hW2] at hcpA
  have B : Aside (ROW.size = G * 5 ∧ G ≤ maxLen) := ⟨hRs, hGm⟩
  have hGi : ¬ (G = i) := by omega
  have hGim : ¬ (G = i + m) := by omega
  have hci : ¬ (cap = i) := by omega
  have hw1 : IntKind.i64.wrap ((i : Int) + (m : Int)) = (i : Int) + (m : Int) := by rw [IntKind.wrap_i64]; omega
  have hb1 : (0 : Int) ≤ (i : Int) + (m : Int) := by omega
  have hin : i ≤ n := by omega
  have htn : ((i : Int) + (m : Int)).toNat = i + m := by omega
  have hb3 : (i : Int) ≤ (n : Int) := by omega
  clear hself hput hN2 hW1 hW2 hnews hnl hOb hOv hN hRow hRn hRs hROW hG hold hH hz hcz h1 hvs h1v hvl h0 hm1 hkk hik hGm hbig hzb hzs hz0 hi0
  go_enter Try.func72, Try.ntmps72
  go_wp2_with (first
    | (at_builtin; refine Lib.wpList_append_run _ rfl _ _ _ _ rfl _ _ rfl rfl _ _ (hrz _) ?_)
    | (at_builtin; refine wpList_copy_runI _ rfl _ _ 22 22 rfl _ _ rfl rfl (hcpA _ _) ?_))
  go_region_law_o (refine step_copy_runI rfl _ _ 22 22 rfl (.slice (some ⟨w.heap.size, (i + m) * 5, none⟩) (n + m - (i + m)) (G - (i + m))) (.slice (some ⟨blk, off + i * 5, none⟩) (n - i) (cap - i)) (by simp [Act.eval, Act.put]) (by simp [Act.eval, Act.put]) (hcpB _ _ _) ?_)
  go_wp2
  go_ret
  obtain ⟨q, F, f1, f2, f3⟩ := fin.out
  exact ⟨q, G, ROW, F, rfl, hGn, B.out.2, B.out.1, f1, f2, f3⟩
end Go.Proofs.Ytkibfciheifphaa
/- slices.Insert of one element of k cells, as a contract. -/
namespace Go.Proofs.Ytkibfciheifphaa
open Go.RowKit Go.Lib Go.Sort
open Go.Shelf
theorem ins_rep {S : Nat → Nat → Prop} {w : World} {rows : List (List PV)} {row0 : List PV} {cs cur' : Array Value} {vs : List Value} {sz n i : Nat} (hn : rows.length = n) (hi : i ≤ n) (hz : ∀ row ∈ rows, row.length = sz) (hz0 : row0.length = sz)
    (hget : ∀ t y, t < (n + 1) * sz → cur'[t]? = some y → y = if t < i * sz then cs[t]! else if t < i * sz + sz then vs[t - i * sz]! else cs[t - sz]!)
    (hrow : ∀ (k : Nat) row (j : Nat) p, rows[k]? = some row → row[j]? = some p → ∃ y, cs[k * sz + j]? = some y ∧ y.oneCell' = true ∧ RepP S w p y)
    (hnew : ∀ (j : Nat) p, row0[j]? = some p → ∃ y, vs[j]? = some y ∧ y.oneCell' = true ∧ RepP S w p y) :
    ∀ (k : Nat) row (j : Nat) p u, (rows.insertIdx i row0)[k]? = some row → row[j]? = some p → cur'[k * sz + j]? = some u → u.oneCell' = true ∧ RepP S w p u := by
  intro k row j p u a b c
  have hk : k < n + 1 := by
    have := (List.getElem?_eq_some_iff.1 a).1
    rw [List.length_insertIdx, if_pos (by omega)] at this; omega
  have hrl : row.length = sz := by
    rw [List.getElem?_insertIdx] at a
    split at a
    · exact hz _ (List.mem_of_getElem? a)
    · split at a
      · split at a
        · cases a; exact hz0
        · cases a
      · exact hz _ (List.mem_of_getElem? a)
  have hj : j < sz := by rw [← hrl]; exact (List.getElem?_eq_some_iff.1 b).1
  have hle : (k + 1) * sz ≤ (n + 1) * sz := Nat.mul_le_mul_right _ (by omega)
  rw [Nat.add_mul, Nat.one_mul] at hle
  have hu := hget _ _ (by omega) c
  rw [List.getElem?_insertIdx] at a
  by_cases h1 : k < i
  · rw [if_pos h1] at a
    have : (k + 1) * sz ≤ i * sz := Nat.mul_le_mul_right _ (by omega)
    rw [Nat.add_mul, Nat.one_mul] at this
    rw [if_pos (by omega)] at hu
    obtain ⟨y, y1, y2, y3⟩ := hrow k row j p a b
    obtain ⟨y4, y5⟩ := Array.getElem?_eq_some_iff.1 y1
    rw [getElem!_pos cs _ y4, y5] at hu
    subst hu
    exact ⟨y2, y3⟩
  · rw [if_neg h1] at a
    have hik : i * sz ≤ k * sz := Nat.mul_le_mul_right _ (by omega)
    by_cases h2 : k = i
    · subst h2
      rw [if_pos rfl, if_pos (by omega)] at a
      cases a
      rw [if_neg (by omega), if_pos (by omega), show k * sz + j - k * sz = j by omega] at hu
      obtain ⟨y, y1, y2, y3⟩ := hnew j p b
      obtain ⟨y4, y5⟩ := List.getElem?_eq_some_iff.1 y1
      rw [getElem!_pos vs _ y4, y5] at hu
      subst hu
      exact ⟨y2, y3⟩
    · rw [if_neg h2] at a
      have h3 : (i + 1) * sz ≤ k * sz := Nat.mul_le_mul_right _ (by omega)
      rw [Nat.add_mul, Nat.one_mul] at h3
      rw [if_neg (by omega), if_neg (by omega)] at hu
      obtain ⟨y, y1, y2, y3⟩ := hrow (k - 1) row j p a b
      obtain ⟨k', rfl⟩ : ∃ k', k = k' + 1 := ⟨k - 1, by omega⟩
      rw [Nat.add_sub_cancel] at y1
      rw [show (k' + 1) * sz + j - sz = k' * sz + j by rw [Nat.add_mul, Nat.one_mul]; omega] at hu
      obtain ⟨y4, y5⟩ := Array.getElem?_eq_some_iff.1 y1
      rw [getElem!_pos cs _ y4, y5] at hu
      subst hu
      exact ⟨y2, y3⟩
theorem RepV.list_one {S : Nat → Nat → Prop} {w : World} {C : Conc} {row : List PV} {v : Value} (h : RepV S w C (.list [row]) v) (h0 : 0 < row.length) :
    ∃ (b o c : Nat) (x : Nat → Value), v = .slice (some ⟨b, o, none⟩) 1 c ∧ ∀ (j : Nat) p, row[j]? = some p → S b (o + j) ∧ w.cell? ⟨b, o + j, none⟩ = some (x j) ∧ RepP S w p (x j) := by
  cases h.list_inv with
  | list _ a c sz x hc hm hsz hz hl hr =>
    obtain ⟨b, o, ha, -, -⟩ := hl 0 row 0 row[0] rfl (List.getElem?_eq_getElem h0)
    refine ⟨b, o, c, x 0, by rw [ha]; rfl, fun j p hp => ?_⟩
    obtain ⟨b', o', ha', h1, h2⟩ := hl 0 row j p rfl hp
    rw [ha] at ha'
    cases ha'
    rw [Nat.zero_mul, Nat.add_zero] at h1 h2
    exact ⟨h1, h2, hr 0 row j p rfl hp⟩
theorem insE_meets (rows : List (List PV)) (row0 : List PV) (v i : Nat) (hi : i ≤ rows.length) (hr0 : row0.length = 5) (hbig : (rows.length + 1) * 64 ≤ 140737488355328) :
    Meets Try.prog 72 [.arr 0 v, .int .i64 i, .list [row0]] [.arr v true false 44 5 rows] (.arr 0 (v + 1)) [.arr (v + 1) true false 44 5 (rows.insertIdx i row0)] := by
  intro x vs hx h0 hp
  obtain ⟨a, b, c, rfl, p1, p2, p3⟩ := three_args hp.1
  have ha := hp.2 0 _ _ rfl p1
  obtain rfl := (hp.2 1 _ _ rfl p2).int_inv
  obtain ⟨vb, vo, vc, xv, rfl, hxv⟩ := (hp.2 2 _ _ rfl p3).list_one (by omega)
  obtain ⟨e1, e2, e3⟩ := h0.row (id := 0) rfl ha
  have hlen : (rows.insertIdx i row0).length = rows.length + 1 := by rw [List.length_insertIdx, if_pos hi]
  have hrl : ∀ row ∈ rows.insertIdx i row0, row.length = 5 := fun row hr => by
    rcases (List.mem_insertIdx hi).1 hr with rfl | hr
    · exact hr0
    · exact e2 row hr
  obtain ⟨ws, hws⟩ : ∃ ws : List Value, ws = (List.range 5).map xv := ⟨_, rfl⟩
  have hwl : ws.length = 5 := by rw [hws]; simp
  have hwg : ∀ j u, ws[j]? = some u → ∃ p, row0[j]? = some p ∧ u = xv j := fun j u hu => by
    have hj : j < 5 := by rw [← hwl]; exact (List.getElem?_eq_some_iff.1 hu).1
    rw [hws, List.getElem?_map, List.getElem?_range hj] at hu
    exact ⟨_, List.getElem?_eq_getElem (by omega), (Option.some.inj hu).symm⟩
  have hwc : ∀ j u, ws[j]? = some u → x.w0.cell? ⟨vb, vo + j, none⟩ = some u := fun j u hu => by
    obtain ⟨p, hp, rfl⟩ := hwg j u hu
    exact (hxv j p hp).2.1
  have hw1 : ∀ u ∈ ws, u.oneCell' = true := fun u hu => by
    obtain ⟨j, hj, rfl⟩ := List.getElem_of_mem hu
    obtain ⟨p, hp, e⟩ := hwg j _ (List.getElem?_eq_getElem hj)
    rw [e]; exact (hxv j p hp).2.2.one
  have hnew : ∀ (j : Nat) p, row0[j]? = some p → ∃ y, ws[j]? = some y ∧ y.oneCell' = true ∧ RepP (Stab x x.C0 _ x.w0) x.w0 p y := fun j p hp => by
    have hj : j < 5 := by rw [← hr0]; exact (List.getElem?_eq_some_iff.1 hp).1
    refine ⟨xv j, by rw [hws, List.getElem?_map, List.getElem?_range hj]; rfl, (hxv j p hp).2.2.one, (hxv j p hp).2.2⟩
  rcases e3 with ⟨rfl, hnil⟩ | ⟨g, cap, cur, rfl, hc, hcap, hm, hz, hrow⟩
  · subst hnil
    obtain rfl : i = 0 := by simpa using hi
    refine (insE_end_grow none 0 0 1 vb vo vc [] ws x.w0 rfl (fun _ => ⟨rfl, rfl⟩) rfl (fun b h => by cases h) hwl hwc hw1 (by omega) (by omega) (by omega)).mono ?_
    rintro e w' ⟨v', rfl, hown, hgr⟩
    obtain ⟨o1, ⟨-, o2⟩ | ⟨g', cap', cur', rfl, o3, o4, o5, o6, o7, o8⟩⟩ := hown
    · simp at o2
    · obtain ⟨C', k1, k2, k3⟩ := h0.rerow (id := 0) (v' := v + 1) (g' := g') (cap' := cap') (rows' := [row0]) (cur' := cur') rfl
        ⟨hgr.size, hgr.os, hgr.tape, hgr.output, fun b hb _ => hgr.block b hb (by simp)⟩ (.inr o3) (.inr (by omega)) o4 o5 o6 o7 (fun row hr => by simp at hr; subst hr; exact hr0)
        (ins_rep (rows := []) (row0 := row0) (cs := #[]) (vs := ws) (n := 0) (i := 0) rfl (by omega) (fun row hr => by simp at hr) hr0 (fun t y ht hy => by
          rw [if_neg (by omega), if_pos (by omega), Nat.zero_mul, Nat.sub_zero]
          have := congrArg (fun l => l[t]?) o8
          simp only [List.nil_append] at this
          rw [List.getElem?_take, if_pos (by omega), Array.getElem?_toList, hy] at this
          obtain ⟨h1, h2⟩ := List.getElem?_eq_some_iff.1 this.symm
          rw [getElem!_pos ws t h1, h2]) (fun k row j p h => by simp at h) hnew)
      exact ⟨_, C', rfl, k1, k3⟩
  · have hH := holds_cur hc
    have hown : (x.C0.sv 0).ownBlock = some g := by rw [← e1]; rfl
    have hcs : rows.length * 5 ≤ cur.size := by rw [hz]; exact Nat.mul_le_mul_right _ hcap
    have hcap63 : cap ≤ 9223372036854775807 := by simp [maxLen] at hm; omega
    have hone : ∀ t, t < rows.length * 5 → (cur[t]!).oneCell' = true := fun t ht => by
      have hk : t / 5 < rows.length := Nat.div_lt_of_lt_mul (by omega)
      have hj : t % 5 < (rows[t / 5]'hk).length := by rw [e2 _ (List.getElem_mem hk)]; exact Nat.mod_lt _ (by omega)
      obtain ⟨y, y1, y2, -⟩ := hrow (t / 5) _ (t % 5) _ (List.getElem?_eq_getElem hk) (List.getElem?_eq_getElem hj)
      rw [show t / 5 * 5 + t % 5 = t by omega] at y1
      obtain ⟨y4, y5⟩ := Array.getElem?_eq_some_iff.1 y1
      rw [getElem!_pos cur _ y4, y5]; exact y2
    have hcell0 := hwc 0 _ (List.getElem?_eq_getElem (by omega))
    have hvb : vb ≠ g := fun e => by
      have := ((hxv 0 _ (List.getElem?_eq_getElem (by omega))).1.2.2 0 _ rfl) (by rw [hown, e])
      exact absurd this.1 (by decide)
    have hfb : ∀ o, x.w0.frozen? ⟨g, o, none⟩ = false := fun o => by simp [World.frozen?, hc]
    have hsb : x.w0.shape? g = some (44, cap * 5) := by simp [World.shape?, hc, hz]
    obtain ⟨tA, kA, hsa, hkA⟩ : ∃ tA kA, x.w0.shape? vb = some (tA, kA) ∧ kA ≠ 0 := by
      unfold World.cell? at hcell0
      unfold World.shape?
      split at hcell0
      · rename_i cc ee ff hh
        refine ⟨ee, cc.size, by rw [hh], fun e => ?_⟩
        simp at hcell0
        obtain ⟨h1, -⟩ := Array.getElem?_eq_some_iff.1 hcell0
        omega
      · cases hcell0
    -- in place
    have inplace : ∀ (q : Nat) (F : Array Value), F.size = cur.size → InsF 5 rows.length i cur ws F → rows.length + 1 ≤ cap →
        ∃ C', HR x C' [.arr (v + 1) true false 44 5 (rows.insertIdx i row0)] (putRow id (Sort.ahead x.w0 q) g 0 F) ∧ RepV (Stab x C' [.arr (v + 1) true false 44 5 (rows.insertIdx i row0)] (putRow id (Sort.ahead x.w0 q) g 0 F)) (putRow id (Sort.ahead x.w0 q) g 0 F) C' (.arr 0 (v + 1)) (.slice (some ⟨g, 0, none⟩) (rows.length + 1) cap) := fun q F hFs hF hr => by
      obtain ⟨cur', c1, c2, c3, c4⟩ := row_worldF x.w0 g q F hc
      have hcs1 : (rows.length + 1) * 5 ≤ cur.size := by rw [hz]; exact Nat.mul_le_mul_right _ hr
      obtain ⟨C', k1, k2, k3⟩ := h0.rerow (id := 0) (v' := v + 1) (g' := g) (cap' := cap) (rows' := rows.insertIdx i row0) (cur' := cur') rfl
        ⟨c4.size, c4.os, c4.tape, c4.output, fun b hb hne => c4.blk b hb fun e => hne (by rw [hown, e])⟩ (.inl hown) (.inr (by omega)) c1 (by rw [hlen]; omega) hm (by rw [c2, hz]) hrl
        (ins_rep rfl hi e2 hr0 (fun t y ht hy => (c3 t y (by omega) hy).trans (hF t ht)) hrow hnew)
      rw [hlen] at k3
      exact ⟨C', k1, k3⟩
    by_cases hroom : rows.length + 1 ≤ cap
    · by_cases hin : i = rows.length
      · subst hin
        refine Calls.mono (insE_end_room g 0 cap rows.length 1 vb vo vc cur ws x.w0 rfl rfl hH hz hwl hwc hw1 hcap63 hroom) ?_
        rintro e w' ⟨rfl, q, F, f1, f2, rfl⟩
        obtain ⟨C', k1, k3⟩ := inplace q F f1 f2 hroom
        exact ⟨_, C', rfl, k1, k3⟩
      · refine Calls.mono (insE_shift g 0 cap rows.length i 1 vb vo vc tA kA cur ws x.w0 rfl rfl hH hz hone hwl hwc hw1 hvb hsa hkA _ hsb hfb hcap63 (by omega) hroom) ?_
        rintro e w' ⟨rfl, q, F, f1, f2, rfl⟩
        obtain ⟨C', k1, k3⟩ := inplace q F f1 f2 hroom
        exact ⟨_, C', rfl, k1, k3⟩
    · by_cases hin : i = rows.length
      · subst hin
        refine Calls.mono (insE_end_grow (some ⟨g, 0, none⟩) cap rows.length 1 vb vo vc (seg cur 0 (rows.length * 5)) ws x.w0 rfl (fun h => by cases h) (seg_len _ _ _) (fun b hb j u hu => by
          cases hb
          obtain ⟨ht, rfl⟩ := seg_get hu
          rw [Addr.add_lit]
          have := (hH j (by omega)).1
          simp only [Nat.zero_add] at this ⊢
          exact this) hwl hwc hw1 hcap (by omega) hbig) ?_
        rintro e w' ⟨v', rfl, how, hgr⟩
        obtain ⟨o1, ⟨-, o2⟩ | ⟨g', cap', cur', rfl, o3, o4, o5, o6, o7, o8⟩⟩ := how
        · omega
        · obtain ⟨C', k1, k2, k3⟩ := h0.rerow (id := 0) (v' := v + 1) (g' := g') (cap' := cap') (rows' := rows.insertIdx rows.length row0) (cur' := cur') rfl
            ⟨hgr.size, hgr.os, hgr.tape, hgr.output, fun b hb _ => hgr.block b hb (by simp)⟩ (.inr o3) (.inr (by omega)) o4 (by rw [hlen]; exact o5) o6 o7 hrl
            (ins_rep rfl hi e2 hr0 (cs := cur) (vs := ws) (fun t y ht hy => by
              have := congrArg (fun l => l[t]?) o8
              rw [List.getElem?_take, if_pos (by omega), Array.getElem?_toList, hy] at this
              by_cases h1 : t < rows.length * 5
              · rw [if_pos h1]
                rw [List.getElem?_append_left (by rw [seg_len]; exact h1)] at this
                obtain ⟨-, h2⟩ := seg_get this.symm
                rw [h2, Nat.zero_add]
              · rw [if_neg h1, if_pos (by omega)]
                rw [List.getElem?_append_right (by rw [seg_len]; omega), seg_len] at this
                obtain ⟨h3, h2⟩ := List.getElem?_eq_some_iff.1 this.symm
                rw [getElem!_pos ws _ h3, h2]) hrow hnew)
          rw [hlen] at k3
          exact ⟨_, C', rfl, k1, k3⟩
      · refine Calls.mono (insE_grow g 0 cap rows.length i 1 vb vo vc cur ws x.w0 rfl rfl hH hz hone hwl hwc hw1 (by omega) hcap (by omega) hbig) ?_
        rintro e w' ⟨q, G, ROW, F, rfl, f1, f2, f3, f4, f5, rfl⟩
        have hcA : (x.w0.alloc (.cells ROW 44)).heap[x.w0.heap.size]? = some (.cells ROW 44 (0, 0)) := heap_alloc_new _ _
        obtain ⟨cur', c1, c2, c3, c4⟩ := row_worldF (x.w0.alloc (.cells ROW 44)) x.w0.heap.size q F hcA
        have hg1 := World.grownBy_alloc x.w0 (.cells ROW 44) none
        have hFs : (rows.length + 1) * 5 ≤ F.size := by rw [f4, f3]; exact Nat.mul_le_mul_right _ f1
        obtain ⟨C', k1, k2, k3⟩ := h0.rerow (id := 0) (v' := v + 1) (g' := x.w0.heap.size) (cap' := G) (rows' := rows.insertIdx i row0) (cur' := cur') rfl
          ⟨Nat.le_trans hg1.size c4.size, c4.os.trans hg1.os, c4.tape.trans hg1.tape, c4.output.trans hg1.output, fun b hb _ => (c4.blk b (Nat.lt_of_lt_of_le hb hg1.size) (by omega)).trans (hg1.block b hb (by simp))⟩ (.inr (Nat.le_refl _)) (.inr (by omega)) c1 (by rw [hlen]; exact f1) f2 (by rw [c2, f3]) hrl
          (ins_rep rfl hi e2 hr0 (fun t y ht hy => (c3 t y (by omega) hy).trans (f5 t ht)) hrow hnew)
        rw [hlen] at k3
        exact ⟨_, C', rfl, k1, k3⟩
end Go.Proofs.Ytkibfciheifphaa
/- Sites: copies of one's own, those that wait and are ready: contracts. -/
namespace Go.Proofs.Ytkibfciheifphaa
set_option linter.unusedSimpArgs false
set_option linter.unusedVariables false
open Go.RowKit
def cSi (r : Int) (lg ws : List Entry) : List PV := [.int .i64 r, .list (lg.map cE), .list (ws.map cE)]
def fitE (l : List Entry) : Prop := ∀ e ∈ l, (e.id.r = 0 ∨ e.id.r = 1) ∧ e.ls.length ≤ 1000000
theorem fit_reg {l : List Entry} (h : fitE l) : okReg l := fun e he => (h e he).1
theorem insIdx_mapE {α β : Type} (f : α → β) (w : α) : ∀ (ws : List α) (i : Nat), (ws.map f).insertIdx i (f w) = (ws.insertIdx i w).map f
  | [], 0 => rfl
  | [], _ + 1 => rfl
  | _ :: _, 0 => rfl
  | y :: ws, i + 1 => by
    simp only [List.map_cons, List.insertIdx_succ_cons]
    rw [insIdx_mapE f w ws i]
theorem eraseIdx_mapE {α β : Type} (f : α → β) : ∀ (ws : List α) (i : Nat), (ws.map f).eraseIdx i = (ws.eraseIdx i).map f
  | [], _ => rfl
  | _ :: _, 0 => rfl
  | y :: ws, i + 1 => by
    simp only [List.map_cons, List.eraseIdx_cons_succ]
    rw [eraseIdx_mapE f ws i]
theorem entOwn_meets (e : Entry) (hb : e.ls.length ≤ 1000000) : Meets Try.prog 56 [.agg (cE e)] [] (.agg (cE e)) [] := by
  refine Meets.of_walk Try.func56 Try.ntmps56 low56 res56 (by simp) fun x hx => ?_
  simp only [go_sem, Nat.reduceLT, Nat.reduceAdd, Nat.reduceEqDiff, Nat.reduceLeDiff, Nat.reduceSub, Nat.reduceMul, Int.reduceEq, eq_self, reduceIte, L56, R56, cE]
  refine ops_call (.pureE (cloneI_meets e.ls (by omega)) (by simp [go_sem, Nat.reduceLT, Nat.reduceAdd, Nat.reduceEqDiff, Nat.reduceLeDiff, Nat.reduceSub, Nat.reduceMul, Int.reduceEq, eq_self, reduceIte])) ?_
  simp only [go_sem, Nat.reduceLT, Nat.reduceAdd, Nat.reduceEqDiff, Nat.reduceLeDiff, Nat.reduceSub, Nat.reduceMul, Int.reduceEq, eq_self, reduceIte, cE]
  refine ret_pure hx ?_
  simp [go_sem, Nat.reduceLT, Nat.reduceAdd, Nat.reduceEqDiff, Nat.reduceLeDiff, Nat.reduceSub, Nat.reduceMul, Int.reduceEq, eq_self, reduceIte, L56, R56, cE]
theorem siEntries_meets (l : List Entry) (hl : l.length ≤ 1000000) (hf : fitE l) : Meets Try.prog 85 [.list (l.map cE)] [] (.arr 0 l.length) [.arr l.length true false 44 5 (l.map cE)] := by
  refine Meets.of_walk Try.func85 Try.ntmps85 low85 res85 (by simp) fun x hx => ?_
  simp only [go_sem, Nat.reduceLT, Nat.reduceAdd, Nat.reduceEqDiff, Nat.reduceLeDiff, Nat.reduceSub, Nat.reduceMul, Int.reduceEq, eq_self, reduceIte, L85, R85]
  refine W_weak (weak_own 3 0 44 5 true false rfl (by omega)) ?_
  rw [put_mk]
  refine loop_inv [3, 6, 7, 8] 1 (fun m st => ∃ k : Nat, k + m = l.length ∧
    st = ⟨mkE .top [(3, .arr 0 k), (6, .list (l.map cE)), (7, .int .i64 l.length), (8, .int .i64 k)], [.arr k true false 44 5 ((l.take k).map cE)]⟩) l.length (by simp [hx]) (by simp) ?_ ?_
  · refine ⟨0, by omega, ?_⟩
    simp [trim_mk, go_sem, Nat.reduceLT, Nat.reduceAdd, Nat.reduceEqDiff, Nat.reduceLeDiff, Nat.reduceSub, Nat.reduceMul, Int.reduceEq, eq_self, reduceIte, subHeap, renObj, pos, List.range_succ]
  · rintro m st ⟨k, hk, rfl⟩
    by_cases hlt : k < l.length
    · have hg : l[k]? = some (nth l k) := nth_get? _ _ hlt
      have wk := i64_up (k := k) (by omega)
      simp only [go_sem, Nat.reduceLT, Nat.reduceAdd, Nat.reduceEqDiff, Nat.reduceLeDiff, Nat.reduceSub, Nat.reduceMul, Int.reduceEq, eq_self, reduceIte, hlt, hg, cE]
      refine ops_call (.pureE (entOwn_meets (nth l k) (hf _ (nthM hlt)).2) (by simp [go_sem, Nat.reduceLT, Nat.reduceAdd, Nat.reduceEqDiff, Nat.reduceLeDiff, Nat.reduceSub, Nat.reduceMul, Int.reduceEq, eq_self, reduceIte, cE])) ?_
      simp only [go_sem, Nat.reduceLT, Nat.reduceAdd, Nat.reduceEqDiff, Nat.reduceLeDiff, Nat.reduceSub, Nat.reduceMul, Int.reduceEq, eq_self, reduceIte, cE]
      rw [app_arr rfl rfl (by simp) (by simp; omega)]
      simp only [go_sem, Nat.reduceLT, Nat.reduceAdd, Nat.reduceEqDiff, Nat.reduceLeDiff, Nat.reduceSub, Nat.reduceMul, Int.reduceEq, eq_self, reduceIte, wk]
      have htk : l.take (k + 1) = l.take k ++ [nth l k] := by rw [List.take_succ_eq_append_getElem hlt, nth_eq _ _ hlt]
      refine ⟨by simp, m - 1, by omega, k + 1, by omega, ?_⟩
      simp [trim_mk, go_sem, Nat.reduceLT, Nat.reduceAdd, Nat.reduceEqDiff, Nat.reduceLeDiff, Nat.reduceSub, Nat.reduceMul, Int.reduceEq, eq_self, reduceIte, subHeap, renObj, pos, List.range_succ, htk, cE]
    · obtain rfl : k = l.length := by omega
      rw [List.take_length]
      simp only [go_sem, Nat.reduceLT, Nat.reduceAdd, Nat.reduceEqDiff, Nat.reduceLeDiff, Nat.reduceSub, Nat.reduceMul, Int.reduceEq, eq_self, reduceIte, hlt]
      refine ret_keep [0] (by simp) (by simp [hx]) (by simp [hx]) ?_ ?_
      · simp [go_sem, Nat.reduceLT, Nat.reduceAdd, Nat.reduceEqDiff, Nat.reduceLeDiff, Nat.reduceSub, Nat.reduceMul, Int.reduceEq, eq_self, reduceIte, L85, R85, hx, pos]
      · simp [subHeap, renObj, hx, pos]
theorem siOwn_meets (r : Int) (lg ws : List Entry) (h1 : lg.length ≤ 1000000) (h2 : ws.length ≤ 1000000) (hf1 : fitE lg) (hf2 : fitE ws) : Meets Try.prog 69 [.agg (cSi r lg ws)] [] (.agg [.int .i64 r, .arr 0 lg.length, .arr 1 ws.length])
    [.arr lg.length true false 44 5 (lg.map cE), .arr ws.length true false 44 5 (ws.map cE)] := by
  refine Meets.of_walk Try.func69 Try.ntmps69 low69 res69 (by simp) fun x hx => ?_
  simp only [go_sem, Nat.reduceLT, Nat.reduceAdd, Nat.reduceEqDiff, Nat.reduceLeDiff, Nat.reduceSub, Nat.reduceMul, Int.reduceEq, eq_self, reduceIte, L69, R69, cSi]
  refine ops_call2 (r := .arr 2 lg.length) (siEntries_meets lg h1 hf1) rfl rfl (by simp [go_sem, Nat.reduceLT, Nat.reduceAdd, Nat.reduceEqDiff, Nat.reduceLeDiff, Nat.reduceSub, Nat.reduceMul, Int.reduceEq, eq_self, reduceIte]) rfl ?_
  simp only [go_sem, Nat.reduceLT, Nat.reduceAdd, Nat.reduceEqDiff, Nat.reduceLeDiff, Nat.reduceSub, Nat.reduceMul, Int.reduceEq, eq_self, reduceIte, cSi]
  refine ops_call2 (r := .arr 3 ws.length) (siEntries_meets ws h2 hf2) rfl rfl (by simp [go_sem, Nat.reduceLT, Nat.reduceAdd, Nat.reduceEqDiff, Nat.reduceLeDiff, Nat.reduceSub, Nat.reduceMul, Int.reduceEq, eq_self, reduceIte]) rfl ?_
  simp only [go_sem, Nat.reduceLT, Nat.reduceAdd, Nat.reduceEqDiff, Nat.reduceLeDiff, Nat.reduceSub, Nat.reduceMul, Int.reduceEq, eq_self, reduceIte, cSi]
  repeat refine ⟨rfl, ?_⟩
  refine ret_keep [2, 3] (by simp) (by simp [hx]) (by simp [hx]) ?_ ?_
  · simp [go_sem, Nat.reduceLT, Nat.reduceAdd, Nat.reduceEqDiff, Nat.reduceLeDiff, Nat.reduceSub, Nat.reduceMul, Int.reduceEq, eq_self, reduceIte, L69, R69, hx, pos]
  · simp [subHeap, renObj, hx, pos, go_sem, Nat.reduceLT, Nat.reduceAdd, Nat.reduceEqDiff, Nat.reduceLeDiff, Nat.reduceSub, Nat.reduceMul, Int.reduceEq, eq_self, reduceIte]
def hSi (a b : Nat) (r : Int) (lg ws : List Entry) : List AObj := [.box [.int .i64 r, .arr 1 a, .arr 2 b], .arr a true false 44 5 (lg.map cE), .arr b true false 44 5 (ws.map cE)]
def rdyI (lg ws : List Entry) : Int := idxF (readyB lg) ws 0
def settleN : Nat → List Entry → List Entry → List Entry × List Entry
  | 0, lg, ws => (lg, ws)
  | k + 1, lg, ws => if 0 ≤ rdyI lg ws then settleN k (lg ++ [nth ws (rdyI lg ws).toNat]) (ws.eraseIdx (rdyI lg ws).toNat) else (lg, ws)
def settled (lg ws : List Entry) : List Entry × List Entry := settleN ws.length lg ws
theorem rdyI_lt {lg ws : List Entry} (h : 0 ≤ rdyI lg ws) : (rdyI lg ws).toNat < ws.length := by
  have h2 : ∀ (l : List Entry) (k : Nat), (k : Int) ≤ idxF (readyB lg) l k → idxF (readyB lg) l k < (k + l.length : Nat) := by
    intro l
    induction l with
    | nil => intro k hk; simp [idxF] at hk; omega
    | cons e l ih =>
      intro k hk
      rw [idxF] at hk ⊢
      split
      · simp; omega
      · rename_i h0
        rw [if_neg h0] at hk
        rcases idxF_ge (readyB lg) l (k + 1) with ⟨a, -⟩ | ⟨a, -⟩
        · rw [a] at hk; omega
        · have := ih (k + 1) a
          simp only [List.length_cons]
          omega
  have := h2 ws 0 (by simpa [rdyI] using h)
  simp only [Nat.zero_add] at this
  unfold rdyI at h ⊢
  omega
theorem settled_step {lg ws : List Entry} (h : 0 ≤ rdyI lg ws) : settled lg ws = settled (lg ++ [nth ws (rdyI lg ws).toNat]) (ws.eraseIdx (rdyI lg ws).toNat) := by
  have hl := rdyI_lt h
  unfold settled
  rw [List.length_eraseIdx, if_pos hl]
  obtain ⟨m, hm⟩ : ∃ m, ws.length = m + 1 := ⟨ws.length - 1, by omega⟩
  rw [hm, settleN, if_pos h, Nat.add_sub_cancel]
theorem settled_end {lg ws : List Entry} (h : ¬ 0 ≤ rdyI lg ws) : settled lg ws = (lg, ws) := by
  unfold settled
  cases hl : ws.length with
  | zero => rfl
  | succ m => rw [settleN, if_neg h]
theorem settleN_sum : ∀ (k : Nat) (lg ws : List Entry), (settleN k lg ws).1.length + (settleN k lg ws).2.length = lg.length + ws.length ∧ (settleN k lg ws).2.length ≤ ws.length
  | 0, lg, ws => ⟨rfl, Nat.le_refl _⟩
  | k + 1, lg, ws => by
    rw [settleN]
    split
    · rename_i h
      have hl := rdyI_lt h
      obtain ⟨a, b⟩ := settleN_sum k (lg ++ [nth ws (rdyI lg ws).toNat]) (ws.eraseIdx (rdyI lg ws).toNat)
      rw [List.length_eraseIdx, if_pos hl] at a b
      simp only [List.length_append, List.length_cons, List.length_nil] at a
      omega
    · exact ⟨rfl, Nat.le_refl _⟩
theorem settled_sum (lg ws : List Entry) : (settled lg ws).1.length + (settled lg ws).2.length = lg.length + ws.length ∧ (settled lg ws).2.length ≤ ws.length := settleN_sum _ _ _
theorem fit_app {lg : List Entry} {e : Entry} (h : fitE lg) (he : (e.id.r = 0 ∨ e.id.r = 1) ∧ e.ls.length ≤ 1000000) : fitE (lg ++ [e]) := fun x hx => by
  rcases List.mem_append.1 hx with h1 | h1
  · exact h x h1
  · simp at h1; subst h1; exact he
theorem fit_erase {ws : List Entry} (h : fitE ws) (i : Nat) : fitE (ws.eraseIdx i) := fun x hx => h x (List.mem_of_mem_eraseIdx hx)
theorem end_keep {x : Cx} {nt : Nat} {lrs : List LRes} {r : PV} {Hs' : List AObj} {st : St} (keep : List Nat) (hnd : keep.Nodup) (hlt : ∀ k ∈ keep, x.H0.length ≤ k ∧ k < st.heap.length) (hle : x.H0.length ≤ st.heap.length)
    (h : (evalRes st lrs).map (fun ps => renT true (pos (List.range x.H0.length ++ keep)) (frzAt true st.heap) (tupOf ps)) = some r)
    (h2 : subHeap (pos (List.range x.H0.length ++ keep)) (frzAt true st.heap) st.heap (List.range x.H0.length ++ keep) = Hs') : retQ x nt lrs r Hs' .normal st := by
  obtain ⟨ps, g1, g2⟩ := Option.map_eq_some_iff.1 h
  exact ⟨st, keep, Weak.refl _ _ _, ps, g1, hnd, hlt, hle, g2.symm, h2.symm⟩
theorem settle1_meets (r : Int) (lg ws : List Entry) (e : Entry) (hl : lg.length ≤ 1000000) (hf : fitE lg) (he : e.id.r = 0 ∨ e.id.r = 1) (hls : e.ls.length ≤ 1000000) : Meets Try.prog 88 [.agg (cE e), .rptr [.rptr (cSi r lg ws)]] [] (.bool (readyB lg e)) [] := by
  refine Meets.of_walk Try.func88 Try.ntmps88 low88 res88 (by simp) fun x hx => ?_
  simp only [go_sem, Nat.reduceLT, Nat.reduceAdd, Nat.reduceEqDiff, Nat.reduceLeDiff, Nat.reduceSub, Nat.reduceMul, Int.reduceEq, eq_self, reduceIte, L88, R88, cE, cSi]
  refine ops_call (.pureE (ready_meets lg e (fit_reg hf) (by omega) he (by omega)) (by simp [go_sem, Nat.reduceLT, Nat.reduceAdd, Nat.reduceEqDiff, Nat.reduceLeDiff, Nat.reduceSub, Nat.reduceMul, Int.reduceEq, eq_self, reduceIte, cE])) ?_
  simp only [go_sem, Nat.reduceLT, Nat.reduceAdd, Nat.reduceEqDiff, Nat.reduceLeDiff, Nat.reduceSub, Nat.reduceMul, Int.reduceEq, eq_self, reduceIte]
  repeat refine ⟨rfl, ?_⟩
  refine end_pure hx ?_
  simp [go_sem, Nat.reduceLT, Nat.reduceAdd, Nat.reduceEqDiff, Nat.reduceLeDiff, Nat.reduceSub, Nat.reduceMul, Int.reduceEq, eq_self, reduceIte, L88, R88]
theorem rdyI_meets (r : Int) (lg ws : List Entry) (hl : lg.length ≤ 1000000) (hw : ws.length ≤ 1000000) (hf : fitE lg) (hf2 : fitE ws) :
    Meets Try.prog 65 [.list (ws.map cE), .clo 88 [.rptr [.rptr (cSi r lg ws)]]] [] (.int .i64 (rdyI lg ws)) [] :=
  indexE_meets ws 88 [.rptr [.rptr (cSi r lg ws)]] [] (readyB lg) (by kernel_rfl) (by omega) ⟨by simp [renLeaf], by simp [ren, renCell, renLeaf], by simp [subHeap], by simp [merge], by simp [subHeap]⟩
    fun e he => settle1_meets r lg ws e hl hf (hf2 e he).1 (hf2 e he).2
set_option maxHeartbeats 2000000 in
theorem settle_meets (a b : Nat) (r : Int) (lg ws : List Entry) (h1 : lg.length + ws.length ≤ 1000000) (hf1 : fitE lg) (hf2 : fitE ws) :
    Meets Try.prog 73 [.ptr 0 0] (hSi a b r lg ws) (.tup []) (hSi (a + (ws.length - (settled lg ws).2.length)) (b + (ws.length - (settled lg ws).2.length)) r (settled lg ws).1 (settled lg ws).2) := by
  refine Meets.of_walk Try.func73 Try.ntmps73 low73 res73 (by simp) fun x hx => ?_
  simp only [go_sem, Nat.reduceLT, Nat.reduceAdd, Nat.reduceEqDiff, Nat.reduceLeDiff, Nat.reduceSub, Nat.reduceMul, Int.reduceEq, eq_self, reduceIte, L73, R73, hSi]
  refine ops_call (.lookE (rdyI_meets r lg ws (by omega) (by omega) hf1 hf2) rfl (by simp [lookF, lookN, go_sem, Nat.reduceLT, Nat.reduceAdd, Nat.reduceEqDiff, Nat.reduceLeDiff, Nat.reduceSub, Nat.reduceMul, Int.reduceEq, eq_self, reduceIte, frzAt, pos, cSi])) ?_
  simp only [go_sem, Nat.reduceLT, Nat.reduceAdd, Nat.reduceEqDiff, Nat.reduceLeDiff, Nat.reduceSub, Nat.reduceMul, Int.reduceEq, eq_self, reduceIte]
  refine loop_inv [1, 2, 3] 4 (fun m st => ∃ (k : Nat) (us vs : List Entry), vs.length = m ∧ m + k = ws.length ∧ us.length = lg.length + k ∧ fitE us ∧ fitE vs ∧ settled us vs = settled lg ws ∧
    st = ⟨mkE .top [(1, .ptr 3 0), (2, .clo 88 [.ptr 3 0]), (3, .int .i64 (rdyI us vs))], hSi (a + k) (b + k) r us vs ++ [.box [.ptr 0 0]]⟩) ws.length (by simp [hx, hSi]) (by simp) ?_ ?_
  · refine ⟨0, lg, ws, rfl, rfl, rfl, hf1, hf2, rfl, ?_⟩
    simp [trim_mk, go_sem, Nat.reduceLT, Nat.reduceAdd, Nat.reduceEqDiff, Nat.reduceLeDiff, Nat.reduceSub, Nat.reduceMul, Int.reduceEq, eq_self, reduceIte, subHeap, renObj, renCell, renLeaf, pos, List.range_succ, hSi]
  · rintro m st ⟨k, us, vs, hm, hmk, hul, hfu, hfv, hse, rfl⟩
    by_cases hf : 0 ≤ rdyI us vs
    · have hql := rdyI_lt hf
      rw [settled_step hf] at hse
      obtain ⟨q, hq⟩ : ∃ q : Nat, rdyI us vs = q := ⟨(rdyI us vs).toNat, by omega⟩
      rw [hq, Int.toNat_natCast] at hql hse
      have hgq : vs[q]? = some (nth vs q) := nth_get? _ _ hql
      have wq := i64_up (k := q) (by omega)
      have hfe := hfv _ (nthM hql)
      simp only [go_sem, Nat.reduceLT, Nat.reduceAdd, Nat.reduceEqDiff, Nat.reduceLeDiff, Nat.reduceSub, Nat.reduceMul, Int.reduceEq, eq_self, reduceIte, hSi, hq, hql, hgq, cE]
      rw [app_arr rfl rfl (by simp) (by simp; omega)]
      have hce : List.map cE us ++ [[PV.int .i64 (nth vs q).id.r, .int .i64 (nth vs q).id.n, .int .i64 (nth vs q).c, .str (nth vs q).t, .list ((nth vs q).ls.map cId)]] = (us ++ [nth vs q]).map cE := by simp [cE]
      simp only [go_sem, Nat.reduceLT, Nat.reduceAdd, Nat.reduceEqDiff, Nat.reduceLeDiff, Nat.reduceSub, Nat.reduceMul, Int.reduceEq, eq_self, reduceIte, hce]
      repeat refine ⟨rfl, ?_⟩
      simp only [go_sem, Nat.reduceLT, Nat.reduceAdd, Nat.reduceEqDiff, Nat.reduceLeDiff, Nat.reduceSub, Nat.reduceMul, Int.reduceEq, eq_self, reduceIte, wq]
      refine ops_call1 2 (delE_meets (vs.map cE) (b + k) 44 q (by simpa using hql)) rfl rfl rfl rfl (by simp [go_sem, Nat.reduceLT, Nat.reduceAdd, Nat.reduceEqDiff, Nat.reduceLeDiff, Nat.reduceSub, Nat.reduceMul, Int.reduceEq, eq_self, reduceIte]) (by simp [go_sem, Nat.reduceLT, Nat.reduceAdd, Nat.reduceEqDiff, Nat.reduceLeDiff, Nat.reduceSub, Nat.reduceMul, Int.reduceEq, eq_self, reduceIte, pos]) rfl ?_
      rw [eraseIdx_mapE]
      have hle : (vs.eraseIdx q).length = vs.length - 1 := by rw [List.length_eraseIdx, if_pos hql]
      simp only [go_sem, Nat.reduceLT, Nat.reduceAdd, Nat.reduceEqDiff, Nat.reduceLeDiff, Nat.reduceSub, Nat.reduceMul, Int.reduceEq, eq_self, reduceIte]
      repeat refine ⟨rfl, ?_⟩
      refine ops_call (.lookE (rdyI_meets r (us ++ [nth vs q]) (vs.eraseIdx q) (by simp; omega) (by omega) (fit_app hfu hfe) (fit_erase hfv q)) rfl (by simp [lookF, lookN, go_sem, Nat.reduceLT, Nat.reduceAdd, Nat.reduceEqDiff, Nat.reduceLeDiff, Nat.reduceSub, Nat.reduceMul, Int.reduceEq, eq_self, reduceIte, frzAt, pos, cSi])) ?_
      simp only [go_sem, Nat.reduceLT, Nat.reduceAdd, Nat.reduceEqDiff, Nat.reduceLeDiff, Nat.reduceSub, Nat.reduceMul, Int.reduceEq, eq_self, reduceIte]
      refine ⟨by simp, m - 1, by omega, k + 1, us ++ [nth vs q], vs.eraseIdx q, by omega, by omega, by simp; omega, fit_app hfu hfe, fit_erase hfv q, hse, ?_⟩
      simp [trim_mk, go_sem, Nat.reduceLT, Nat.reduceAdd, Nat.reduceEqDiff, Nat.reduceLeDiff, Nat.reduceSub, Nat.reduceMul, Int.reduceEq, eq_self, reduceIte, subHeap, renObj, renCell, renLeaf, pos, List.range_succ, hSi, Nat.add_assoc]
    · rw [settled_end hf] at hse
      rw [← hse]
      have hk1 : ws.length - vs.length = k := by omega
      simp only [go_sem, Nat.reduceLT, Nat.reduceAdd, Nat.reduceEqDiff, Nat.reduceLeDiff, Nat.reduceSub, Nat.reduceMul, Int.reduceEq, eq_self, reduceIte, hSi, hf, hk1]
      refine end_keep [] (by simp) (by simp) (by simp [hx, hSi]) ?_ ?_
      · simp [go_sem, Nat.reduceLT, Nat.reduceAdd, Nat.reduceEqDiff, Nat.reduceLeDiff, Nat.reduceSub, Nat.reduceMul, Int.reduceEq, eq_self, reduceIte, L73, R73, hx, pos, hSi]
      · simp [subHeap, renObj, hx, pos, go_sem, Nat.reduceLT, Nat.reduceAdd, Nat.reduceEqDiff, Nat.reduceLeDiff, Nat.reduceSub, Nat.reduceMul, Int.reduceEq, eq_self, reduceIte, hSi, List.range_succ]
end Go.Proofs.Ytkibfciheifphaa
/- Sites: New, Check: contracts. -/
namespace Go.Proofs.Ytkibfciheifphaa
set_option linter.unusedSimpArgs false
set_option linter.unusedVariables false
open Go.RowKit
def siBad (r : Int) (lg ws : List Entry) (k : Nat) : Bool := (decide (0 < k) && !lessB (nth ws (k - 1)).id (nth ws k).id) || decide ((nth ws k).id.r = r) || decide (0 ≤ findE lg (nth ws k).id) || readyB lg (nth ws k)
def siWait (r : Int) (lg ws : List Entry) (k : Nat) : Int := if checkEntry (nth ws k) ≠ 0 then checkEntry (nth ws k) else if siBad r lg ws k = true then 4 else 0
def siErr (r : Int) (lg ws : List Entry) : Int := if ¬ (r = 0 ∨ r = 1) then 3 else if checkLog lg ≠ 0 then checkLog lg else if 20 < ws.length then 2 else firstNZ (siWait r lg ws) ws.length
theorem siErr_ok {r : Int} {lg ws : List Entry} (h : siErr r lg ws = 0) : (r = 0 ∨ r = 1) ∧ LogOk lg ∧ ws.length ≤ 20 ∧ ∀ k, k < ws.length → checkEntry (nth ws k) = 0 ∧ siBad r lg ws k = false := by
  unfold siErr at h
  split at h
  · cases h
  · rename_i h1
    split at h
    · rename_i h2; exact (h2 h).elim
    · rename_i h2
      split at h
      · cases h
      · rename_i h3
        refine ⟨by omega, log_ok.1 (by simpa using h2), by omega, fun k hk => ?_⟩
        have := firstNZ_zero.1 h k hk
        unfold siWait at this
        split at this
        · rename_i h4; exact (h4 this).elim
        · rename_i h4
          split at this
          · cases this
          · rename_i h5
            exact ⟨by simpa using h4, by simpa using h5⟩
theorem check_fit {e : Entry} (h : checkEntry e = 0) : (e.id.r = 0 ∨ e.id.r = 1) ∧ e.ls.length ≤ 1000000 := by
  have := (check_ok_bounds h).2.2.2.1
  exact ⟨reg_of_check h, by omega⟩
theorem log_fit {lg : List Entry} (h : LogOk lg) : fitE lg := fun e he => by
  obtain ⟨k, hk, rfl⟩ := List.getElem_of_mem he
  rw [← nth_eq _ _ hk]
  exact check_fit (h.chk k hk)
theorem waits_fit {ws : List Entry} (h : ∀ k, k < ws.length → checkEntry (nth ws k) = 0) : fitE ws := fun e he => by
  obtain ⟨k, hk, rfl⟩ := List.getElem_of_mem he
  rw [← nth_eq _ _ hk]
  exact check_fit (h k hk)
theorem siNew_meets (r : Int) : Meets Try.prog 24 [.int .i64 r] [] (.tup [.agg (if r = 0 ∨ r = 1 then cSi r [] [] else cSi 0 [] []), .int .i64 (if r = 0 ∨ r = 1 then 0 else 3)]) [] := by
  refine Meets.of_walk Try.func24 Try.ntmps24 low24 res24 (by simp) fun x hx => ?_
  by_cases h0 : r = 0
  · subst h0
    simp only [go_sem, Nat.reduceLT, Nat.reduceAdd, Nat.reduceEqDiff, Nat.reduceLeDiff, Nat.reduceSub, Nat.reduceMul, Int.reduceEq, eq_self, reduceIte, L24, R24]
    refine ret_pure hx ?_
    simp [go_sem, Nat.reduceLT, Nat.reduceAdd, Nat.reduceEqDiff, Nat.reduceLeDiff, Nat.reduceSub, Nat.reduceMul, Int.reduceEq, eq_self, reduceIte, L24, R24, cSi]
  · by_cases h1 : r = 1
    · subst h1
      simp only [go_sem, Nat.reduceLT, Nat.reduceAdd, Nat.reduceEqDiff, Nat.reduceLeDiff, Nat.reduceSub, Nat.reduceMul, Int.reduceEq, eq_self, reduceIte, L24, R24, Int.ofNat_zero, Int.natCast_one, Int.cast_ofNat_Int, Int.reduceLT, Int.reduceLE, Int.reduceToNat, Nat.reduceLT, Int.toNat_zero, Int.natCast_zero, Int.le_refl, Int.lt_irrefl, Int.reduceAdd, frz, false_or, or_true]
      refine ret_pure hx ?_
      simp [go_sem, Nat.reduceLT, Nat.reduceAdd, Nat.reduceEqDiff, Nat.reduceLeDiff, Nat.reduceSub, Nat.reduceMul, Int.reduceEq, eq_self, reduceIte, L24, R24, cSi]
    · simp only [go_sem, Nat.reduceLT, Nat.reduceAdd, Nat.reduceEqDiff, Nat.reduceLeDiff, Nat.reduceSub, Nat.reduceMul, Int.reduceEq, eq_self, reduceIte, L24, R24, h0, h1]
      refine ret_pure hx ?_
      simp [go_sem, Nat.reduceLT, Nat.reduceAdd, Nat.reduceEqDiff, Nat.reduceLeDiff, Nat.reduceSub, Nat.reduceMul, Int.reduceEq, eq_self, reduceIte, L24, R24, cSi, h0, h1]
set_option maxHeartbeats 4000000 in
theorem siCheck_meets (r : Int) (lg ws : List Entry) (hl : lg.length ≤ 9223372036854775806) (hw : ws.length ≤ 9223372036854775806) : Meets Try.prog 44 [.agg (cSi r lg ws)] [] (.int .i64 (siErr r lg ws)) [] := by
  refine Meets.of_walk Try.func44 Try.ntmps44 low44 res44 (by simp) fun x hx => ?_
  simp only [go_sem, Nat.reduceLT, Nat.reduceAdd, Nat.reduceEqDiff, Nat.reduceLeDiff, Nat.reduceSub, Nat.reduceMul, Int.reduceEq, eq_self, reduceIte, L44, R44, cSi]
  by_cases h0 : r = 0
  · have hr : r = 0 ∨ r = 1 := .inl h0
    have hd0 : decide (r = 0) = true := by simp [h0]
    have hd1 : True := trivial
    clear h0
    simp only [go_sem, Nat.reduceLT, Nat.reduceAdd, Nat.reduceEqDiff, Nat.reduceLeDiff, Nat.reduceSub, Nat.reduceMul, Int.reduceEq, eq_self, reduceIte, hd0, hd1, cSi]
    refine ops_call (.pureE (dagCheck_meets lg hl) (by simp [go_sem, Nat.reduceLT, Nat.reduceAdd, Nat.reduceEqDiff, Nat.reduceLeDiff, Nat.reduceSub, Nat.reduceMul, Int.reduceEq, eq_self, reduceIte])) ?_
    by_cases hlog : checkLog lg = 0
    · have hok := log_ok.1 hlog
      have hlen := hok.len
      by_cases h20 : (20 : Int) < (ws.length : Int)
      · have e : siErr r lg ws = 2 := by rw [siErr, if_neg (by simp [hr]), if_neg (by simp [hlog]), if_pos (by omega)]
        simp only [go_sem, Nat.reduceLT, Nat.reduceAdd, Nat.reduceEqDiff, Nat.reduceLeDiff, Nat.reduceSub, Nat.reduceMul, Int.reduceEq, eq_self, reduceIte, hlog, h20, cSi]
        refine ret_pure hx ?_
        simp [go_sem, Nat.reduceLT, Nat.reduceAdd, Nat.reduceEqDiff, Nat.reduceLeDiff, Nat.reduceSub, Nat.reduceMul, Int.reduceEq, eq_self, reduceIte, L44, R44, e]
      · have e : siErr r lg ws = firstNZ (siWait r lg ws) ws.length := by rw [siErr, if_neg (by simp [hr]), if_neg (by simp [hlog]), if_neg (by omega)]
        simp only [go_sem, Nat.reduceLT, Nat.reduceAdd, Nat.reduceEqDiff, Nat.reduceLeDiff, Nat.reduceSub, Nat.reduceMul, Int.reduceEq, eq_self, reduceIte, hlog, h20, cSi, e]
        refine loop_inv [1, 26, 27, 28] 1 (fun m st => ∃ k : Nat, k + m = ws.length ∧ firstNZ (siWait r lg ws) k = 0 ∧
          st = ⟨mkE .top [(1, .ptr 0 0), (26, .list (ws.map cE)), (27, .int .i64 ws.length), (28, .int .i64 k)], [.box (cSi r lg ws)]⟩) ws.length (by simp [hx]) (by simp) ?_ ?_
        · refine ⟨0, by omega, rfl, ?_⟩
          simp [trim_mk, go_sem, Nat.reduceLT, Nat.reduceAdd, Nat.reduceEqDiff, Nat.reduceLeDiff, Nat.reduceSub, Nat.reduceMul, Int.reduceEq, eq_self, reduceIte, subHeap, renObj, pos, List.range_succ, cSi]
        · rintro m st ⟨k, hk, hz, rfl⟩
          by_cases hlt : k < ws.length
          · have hg : ws[k]? = some (nth ws k) := nth_get? _ _ hlt
            have wk := i64_up (k := k) (by omega)
            have fin : ∀ q : Int, siWait r lg ws k = q → q ≠ 0 → firstNZ (siWait r lg ws) ws.length = q := fun q h1 h2 => by rw [firstNZ_hit hz (by rw [h1]; exact h2) hlt, h1]
            simp only [go_sem, Nat.reduceLT, Nat.reduceAdd, Nat.reduceEqDiff, Nat.reduceLeDiff, Nat.reduceSub, Nat.reduceMul, Int.reduceEq, eq_self, reduceIte, hlt, hg, cE, cSi]
            refine ops_call (.pureE (check_meets (nth ws k)) (by simp [go_sem, Nat.reduceLT, Nat.reduceAdd, Nat.reduceEqDiff, Nat.reduceLeDiff, Nat.reduceSub, Nat.reduceMul, Int.reduceEq, eq_self, reduceIte, cE])) ?_
            by_cases h1 : checkEntry (nth ws k) = 0
            · have hfit := check_fit h1
              have hw1 : siWait r lg ws k = if siBad r lg ws k = true then 4 else 0 := by rw [siWait, if_neg (by simp [h1])]
              simp only [go_sem, Nat.reduceLT, Nat.reduceAdd, Nat.reduceEqDiff, Nat.reduceLeDiff, Nat.reduceSub, Nat.reduceMul, Int.reduceEq, eq_self, reduceIte, h1, cE, cSi]
              by_cases hk0 : (0 : Int) < (k : Int)
              · obtain ⟨k', rfl⟩ : ∃ k', k = k' + 1 := ⟨k - 1, by omega⟩
                have hwd : IntKind.i64.wrap (((k' + 1 : Nat) : Int) - 1) = (k' : Int) := by rw [IntKind.wrap_i64]; omega
                have hkl : k' < ws.length := by omega
                have hg' : ws[k']? = some (nth ws k') := nth_get? _ _ hkl
                simp only [go_sem, Nat.reduceLT, Nat.reduceAdd, Nat.reduceEqDiff, Nat.reduceLeDiff, Nat.reduceSub, Nat.reduceMul, Int.reduceEq, eq_self, reduceIte, hk0, hwd, hkl, hg', cE, cSi]
                refine ops_call (.pureE (less_meets (nth ws k').id (nth ws (k' + 1)).id) (by simp [go_sem, Nat.reduceLT, Nat.reduceAdd, Nat.reduceEqDiff, Nat.reduceLeDiff, Nat.reduceSub, Nat.reduceMul, Int.reduceEq, eq_self, reduceIte, cId])) ?_
                cases hle : lessB (nth ws k').id (nth ws (k' + 1)).id
                · have hw2 : siWait r lg ws (k' + 1) = 4 := by rw [hw1, if_pos (by simp [siBad, hle])]
                  simp only [go_sem, Nat.reduceLT, Nat.reduceAdd, Nat.reduceEqDiff, Nat.reduceLeDiff, Nat.reduceSub, Nat.reduceMul, Int.reduceEq, eq_self, reduceIte]
                  repeat refine ⟨rfl, ?_⟩
                  refine ret_pure hx ?_
                  simp [go_sem, Nat.reduceLT, Nat.reduceAdd, Nat.reduceEqDiff, Nat.reduceLeDiff, Nat.reduceSub, Nat.reduceMul, Int.reduceEq, eq_self, reduceIte, L44, R44, fin 4 hw2 (by decide)]
                · have hb1 : (decide (0 < k' + 1) && !lessB (nth ws (k' + 1 - 1)).id (nth ws (k' + 1)).id) = false := by simp [hle]
                  cases hd2 : decide ((nth ws (k' + 1)).id.r = r)
                  · simp only [go_sem, Nat.reduceLT, Nat.reduceAdd, Nat.reduceEqDiff, Nat.reduceLeDiff, Nat.reduceSub, Nat.reduceMul, Int.reduceEq, eq_self, reduceIte, hd2, cE, cSi]
                    refine ops_call (.pureE (find_meets lg (nth ws (k' + 1)).id hl) (by simp [go_sem, Nat.reduceLT, Nat.reduceAdd, Nat.reduceEqDiff, Nat.reduceLeDiff, Nat.reduceSub, Nat.reduceMul, Int.reduceEq, eq_self, reduceIte, cId])) ?_
                    by_cases h3 : 0 ≤ findE lg (nth ws (k' + 1)).id
                    · have hw2 : siWait r lg ws (k' + 1) = 4 := by rw [hw1, if_pos (by simp [siBad, h3])]
                      simp only [go_sem, Nat.reduceLT, Nat.reduceAdd, Nat.reduceEqDiff, Nat.reduceLeDiff, Nat.reduceSub, Nat.reduceMul, Int.reduceEq, eq_self, reduceIte, h3]
                      repeat refine ⟨rfl, ?_⟩
                      refine ret_pure hx ?_
                      simp [go_sem, Nat.reduceLT, Nat.reduceAdd, Nat.reduceEqDiff, Nat.reduceLeDiff, Nat.reduceSub, Nat.reduceMul, Int.reduceEq, eq_self, reduceIte, L44, R44, fin 4 hw2 (by decide)]
                    · simp only [go_sem, Nat.reduceLT, Nat.reduceAdd, Nat.reduceEqDiff, Nat.reduceLeDiff, Nat.reduceSub, Nat.reduceMul, Int.reduceEq, eq_self, reduceIte, h3, cE, cSi]
                      refine ops_call (.pureE (ready_meets lg (nth ws (k' + 1)) hok.reg (by omega) hfit.1 (by have := hfit.2; omega)) (by simp [go_sem, Nat.reduceLT, Nat.reduceAdd, Nat.reduceEqDiff, Nat.reduceLeDiff, Nat.reduceSub, Nat.reduceMul, Int.reduceEq, eq_self, reduceIte, cE])) ?_
                      cases h4 : readyB lg (nth ws (k' + 1))
                      · have hw2 : siWait r lg ws (k' + 1) = 0 := by rw [hw1, if_neg (by rw [siBad, hb1, hd2, h4]; simp [h3])]
                        simp only [go_sem, Nat.reduceLT, Nat.reduceAdd, Nat.reduceEqDiff, Nat.reduceLeDiff, Nat.reduceSub, Nat.reduceMul, Int.reduceEq, eq_self, reduceIte, wk]
                        repeat refine ⟨rfl, ?_⟩
                        refine ⟨by simp, m - 1, by omega, k' + 1 + 1, by omega, firstNZ_succ hz hw2, ?_⟩
                        simp [trim_mk, go_sem, Nat.reduceLT, Nat.reduceAdd, Nat.reduceEqDiff, Nat.reduceLeDiff, Nat.reduceSub, Nat.reduceMul, Int.reduceEq, eq_self, reduceIte, subHeap, renObj, pos, List.range_succ, cSi]
                      · have hw2 : siWait r lg ws (k' + 1) = 4 := by rw [hw1, if_pos (by simp [siBad, h4])]
                        simp only [go_sem, Nat.reduceLT, Nat.reduceAdd, Nat.reduceEqDiff, Nat.reduceLeDiff, Nat.reduceSub, Nat.reduceMul, Int.reduceEq, eq_self, reduceIte]
                        repeat refine ⟨rfl, ?_⟩
                        refine ret_pure hx ?_
                        simp [go_sem, Nat.reduceLT, Nat.reduceAdd, Nat.reduceEqDiff, Nat.reduceLeDiff, Nat.reduceSub, Nat.reduceMul, Int.reduceEq, eq_self, reduceIte, L44, R44, fin 4 hw2 (by decide)]
                  · have hw2 : siWait r lg ws (k' + 1) = 4 := by rw [hw1, if_pos (by simp [siBad, hd2])]
                    simp only [go_sem, Nat.reduceLT, Nat.reduceAdd, Nat.reduceEqDiff, Nat.reduceLeDiff, Nat.reduceSub, Nat.reduceMul, Int.reduceEq, eq_self, reduceIte, hd2]
                    repeat refine ⟨rfl, ?_⟩
                    refine ret_pure hx ?_
                    simp [go_sem, Nat.reduceLT, Nat.reduceAdd, Nat.reduceEqDiff, Nat.reduceLeDiff, Nat.reduceSub, Nat.reduceMul, Int.reduceEq, eq_self, reduceIte, L44, R44, fin 4 hw2 (by decide)]
              · have hkz : k = 0 := by omega
                have hb1 : (decide (0 < k) && !lessB (nth ws (k - 1)).id (nth ws k).id) = false := by simp [hkz]
                simp only [go_sem, Nat.reduceLT, Nat.reduceAdd, Nat.reduceEqDiff, Nat.reduceLeDiff, Nat.reduceSub, Nat.reduceMul, Int.reduceEq, eq_self, reduceIte, hk0, cE, cSi]
                cases hd2 : decide ((nth ws (k)).id.r = r)
                · simp only [go_sem, Nat.reduceLT, Nat.reduceAdd, Nat.reduceEqDiff, Nat.reduceLeDiff, Nat.reduceSub, Nat.reduceMul, Int.reduceEq, eq_self, reduceIte, hd2, cE, cSi]
                  refine ops_call (.pureE (find_meets lg (nth ws (k)).id hl) (by simp [go_sem, Nat.reduceLT, Nat.reduceAdd, Nat.reduceEqDiff, Nat.reduceLeDiff, Nat.reduceSub, Nat.reduceMul, Int.reduceEq, eq_self, reduceIte, cId])) ?_
                  by_cases h3 : 0 ≤ findE lg (nth ws (k)).id
                  · have hw2 : siWait r lg ws (k) = 4 := by rw [hw1, if_pos (by simp [siBad, h3])]
                    simp only [go_sem, Nat.reduceLT, Nat.reduceAdd, Nat.reduceEqDiff, Nat.reduceLeDiff, Nat.reduceSub, Nat.reduceMul, Int.reduceEq, eq_self, reduceIte, h3]
                    repeat refine ⟨rfl, ?_⟩
                    refine ret_pure hx ?_
                    simp [go_sem, Nat.reduceLT, Nat.reduceAdd, Nat.reduceEqDiff, Nat.reduceLeDiff, Nat.reduceSub, Nat.reduceMul, Int.reduceEq, eq_self, reduceIte, L44, R44, fin 4 hw2 (by decide)]
                  · simp only [go_sem, Nat.reduceLT, Nat.reduceAdd, Nat.reduceEqDiff, Nat.reduceLeDiff, Nat.reduceSub, Nat.reduceMul, Int.reduceEq, eq_self, reduceIte, h3, cE, cSi]
                    refine ops_call (.pureE (ready_meets lg (nth ws (k)) hok.reg (by omega) hfit.1 (by have := hfit.2; omega)) (by simp [go_sem, Nat.reduceLT, Nat.reduceAdd, Nat.reduceEqDiff, Nat.reduceLeDiff, Nat.reduceSub, Nat.reduceMul, Int.reduceEq, eq_self, reduceIte, cE])) ?_
                    cases h4 : readyB lg (nth ws (k))
                    · have hw2 : siWait r lg ws (k) = 0 := by rw [hw1, if_neg (by rw [siBad, hb1, hd2, h4]; simp [h3])]
                      simp only [go_sem, Nat.reduceLT, Nat.reduceAdd, Nat.reduceEqDiff, Nat.reduceLeDiff, Nat.reduceSub, Nat.reduceMul, Int.reduceEq, eq_self, reduceIte, wk]
                      repeat refine ⟨rfl, ?_⟩
                      refine ⟨by simp, m - 1, by omega, k + 1, by omega, firstNZ_succ hz hw2, ?_⟩
                      simp [trim_mk, go_sem, Nat.reduceLT, Nat.reduceAdd, Nat.reduceEqDiff, Nat.reduceLeDiff, Nat.reduceSub, Nat.reduceMul, Int.reduceEq, eq_self, reduceIte, subHeap, renObj, pos, List.range_succ, cSi]
                    · have hw2 : siWait r lg ws (k) = 4 := by rw [hw1, if_pos (by simp [siBad, h4])]
                      simp only [go_sem, Nat.reduceLT, Nat.reduceAdd, Nat.reduceEqDiff, Nat.reduceLeDiff, Nat.reduceSub, Nat.reduceMul, Int.reduceEq, eq_self, reduceIte]
                      repeat refine ⟨rfl, ?_⟩
                      refine ret_pure hx ?_
                      simp [go_sem, Nat.reduceLT, Nat.reduceAdd, Nat.reduceEqDiff, Nat.reduceLeDiff, Nat.reduceSub, Nat.reduceMul, Int.reduceEq, eq_self, reduceIte, L44, R44, fin 4 hw2 (by decide)]
                · have hw2 : siWait r lg ws (k) = 4 := by rw [hw1, if_pos (by simp [siBad, hd2])]
                  simp only [go_sem, Nat.reduceLT, Nat.reduceAdd, Nat.reduceEqDiff, Nat.reduceLeDiff, Nat.reduceSub, Nat.reduceMul, Int.reduceEq, eq_self, reduceIte, hd2]
                  repeat refine ⟨rfl, ?_⟩
                  refine ret_pure hx ?_
                  simp [go_sem, Nat.reduceLT, Nat.reduceAdd, Nat.reduceEqDiff, Nat.reduceLeDiff, Nat.reduceSub, Nat.reduceMul, Int.reduceEq, eq_self, reduceIte, L44, R44, fin 4 hw2 (by decide)]
            · have hw1 : siWait r lg ws k = checkEntry (nth ws k) := by rw [siWait, if_pos h1]
              simp only [go_sem, Nat.reduceLT, Nat.reduceAdd, Nat.reduceEqDiff, Nat.reduceLeDiff, Nat.reduceSub, Nat.reduceMul, Int.reduceEq, eq_self, reduceIte, h1, cE, cSi]
              refine ret_pure hx ?_
              simp [go_sem, Nat.reduceLT, Nat.reduceAdd, Nat.reduceEqDiff, Nat.reduceLeDiff, Nat.reduceSub, Nat.reduceMul, Int.reduceEq, eq_self, reduceIte, L44, R44, fin _ hw1 h1]
          · obtain rfl : k = ws.length := by omega
            simp only [go_sem, Nat.reduceLT, Nat.reduceAdd, Nat.reduceEqDiff, Nat.reduceLeDiff, Nat.reduceSub, Nat.reduceMul, Int.reduceEq, eq_self, reduceIte, hlt]
            refine ret_pure hx ?_
            simp [go_sem, Nat.reduceLT, Nat.reduceAdd, Nat.reduceEqDiff, Nat.reduceLeDiff, Nat.reduceSub, Nat.reduceMul, Int.reduceEq, eq_self, reduceIte, L44, R44, hz]
    · have e : siErr r lg ws = checkLog lg := by rw [siErr, if_neg (by simp [hr]), if_pos hlog]
      simp only [go_sem, Nat.reduceLT, Nat.reduceAdd, Nat.reduceEqDiff, Nat.reduceLeDiff, Nat.reduceSub, Nat.reduceMul, Int.reduceEq, eq_self, reduceIte, hlog]
      refine ret_pure hx ?_
      simp [go_sem, Nat.reduceLT, Nat.reduceAdd, Nat.reduceEqDiff, Nat.reduceLeDiff, Nat.reduceSub, Nat.reduceMul, Int.reduceEq, eq_self, reduceIte, L44, R44, e]
  · have hd0 : decide (r = 0) = false := by simp [h0]
    by_cases h1 : r = 1
    · have hr : r = 0 ∨ r = 1 := .inr h1
      have hd1 : decide (r = 1) = true := by simp [h1]
      clear h0 h1
      simp only [go_sem, Nat.reduceLT, Nat.reduceAdd, Nat.reduceEqDiff, Nat.reduceLeDiff, Nat.reduceSub, Nat.reduceMul, Int.reduceEq, eq_self, reduceIte, hd0, hd1, cSi]
      refine ops_call (.pureE (dagCheck_meets lg hl) (by simp [go_sem, Nat.reduceLT, Nat.reduceAdd, Nat.reduceEqDiff, Nat.reduceLeDiff, Nat.reduceSub, Nat.reduceMul, Int.reduceEq, eq_self, reduceIte])) ?_
      by_cases hlog : checkLog lg = 0
      · have hok := log_ok.1 hlog
        have hlen := hok.len
        by_cases h20 : (20 : Int) < (ws.length : Int)
        · have e : siErr r lg ws = 2 := by rw [siErr, if_neg (by simp [hr]), if_neg (by simp [hlog]), if_pos (by omega)]
          simp only [go_sem, Nat.reduceLT, Nat.reduceAdd, Nat.reduceEqDiff, Nat.reduceLeDiff, Nat.reduceSub, Nat.reduceMul, Int.reduceEq, eq_self, reduceIte, hlog, h20, cSi]
          refine ret_pure hx ?_
          simp [go_sem, Nat.reduceLT, Nat.reduceAdd, Nat.reduceEqDiff, Nat.reduceLeDiff, Nat.reduceSub, Nat.reduceMul, Int.reduceEq, eq_self, reduceIte, L44, R44, e]
        · have e : siErr r lg ws = firstNZ (siWait r lg ws) ws.length := by rw [siErr, if_neg (by simp [hr]), if_neg (by simp [hlog]), if_neg (by omega)]
          simp only [go_sem, Nat.reduceLT, Nat.reduceAdd, Nat.reduceEqDiff, Nat.reduceLeDiff, Nat.reduceSub, Nat.reduceMul, Int.reduceEq, eq_self, reduceIte, hlog, h20, cSi, e]
          refine loop_inv [1, 26, 27, 28] 1 (fun m st => ∃ k : Nat, k + m = ws.length ∧ firstNZ (siWait r lg ws) k = 0 ∧
            st = ⟨mkE .top [(1, .ptr 0 0), (26, .list (ws.map cE)), (27, .int .i64 ws.length), (28, .int .i64 k)], [.box (cSi r lg ws)]⟩) ws.length (by simp [hx]) (by simp) ?_ ?_
          · refine ⟨0, by omega, rfl, ?_⟩
            simp [trim_mk, go_sem, Nat.reduceLT, Nat.reduceAdd, Nat.reduceEqDiff, Nat.reduceLeDiff, Nat.reduceSub, Nat.reduceMul, Int.reduceEq, eq_self, reduceIte, subHeap, renObj, pos, List.range_succ, cSi]
          · rintro m st ⟨k, hk, hz, rfl⟩
            by_cases hlt : k < ws.length
            · have hg : ws[k]? = some (nth ws k) := nth_get? _ _ hlt
              have wk := i64_up (k := k) (by omega)
              have fin : ∀ q : Int, siWait r lg ws k = q → q ≠ 0 → firstNZ (siWait r lg ws) ws.length = q := fun q h1 h2 => by rw [firstNZ_hit hz (by rw [h1]; exact h2) hlt, h1]
              simp only [go_sem, Nat.reduceLT, Nat.reduceAdd, Nat.reduceEqDiff, Nat.reduceLeDiff, Nat.reduceSub, Nat.reduceMul, Int.reduceEq, eq_self, reduceIte, hlt, hg, cE, cSi]
              refine ops_call (.pureE (check_meets (nth ws k)) (by simp [go_sem, Nat.reduceLT, Nat.reduceAdd, Nat.reduceEqDiff, Nat.reduceLeDiff, Nat.reduceSub, Nat.reduceMul, Int.reduceEq, eq_self, reduceIte, cE])) ?_
              by_cases h1 : checkEntry (nth ws k) = 0
              · have hfit := check_fit h1
                have hw1 : siWait r lg ws k = if siBad r lg ws k = true then 4 else 0 := by rw [siWait, if_neg (by simp [h1])]
                simp only [go_sem, Nat.reduceLT, Nat.reduceAdd, Nat.reduceEqDiff, Nat.reduceLeDiff, Nat.reduceSub, Nat.reduceMul, Int.reduceEq, eq_self, reduceIte, h1, cE, cSi]
                by_cases hk0 : (0 : Int) < (k : Int)
                · obtain ⟨k', rfl⟩ : ∃ k', k = k' + 1 := ⟨k - 1, by omega⟩
                  have hwd : IntKind.i64.wrap (((k' + 1 : Nat) : Int) - 1) = (k' : Int) := by rw [IntKind.wrap_i64]; omega
                  have hkl : k' < ws.length := by omega
                  have hg' : ws[k']? = some (nth ws k') := nth_get? _ _ hkl
                  simp only [go_sem, Nat.reduceLT, Nat.reduceAdd, Nat.reduceEqDiff, Nat.reduceLeDiff, Nat.reduceSub, Nat.reduceMul, Int.reduceEq, eq_self, reduceIte, hk0, hwd, hkl, hg', cE, cSi]
                  refine ops_call (.pureE (less_meets (nth ws k').id (nth ws (k' + 1)).id) (by simp [go_sem, Nat.reduceLT, Nat.reduceAdd, Nat.reduceEqDiff, Nat.reduceLeDiff, Nat.reduceSub, Nat.reduceMul, Int.reduceEq, eq_self, reduceIte, cId])) ?_
                  cases hle : lessB (nth ws k').id (nth ws (k' + 1)).id
                  · have hw2 : siWait r lg ws (k' + 1) = 4 := by rw [hw1, if_pos (by simp [siBad, hle])]
                    simp only [go_sem, Nat.reduceLT, Nat.reduceAdd, Nat.reduceEqDiff, Nat.reduceLeDiff, Nat.reduceSub, Nat.reduceMul, Int.reduceEq, eq_self, reduceIte]
                    repeat refine ⟨rfl, ?_⟩
                    refine ret_pure hx ?_
                    simp [go_sem, Nat.reduceLT, Nat.reduceAdd, Nat.reduceEqDiff, Nat.reduceLeDiff, Nat.reduceSub, Nat.reduceMul, Int.reduceEq, eq_self, reduceIte, L44, R44, fin 4 hw2 (by decide)]
                  · have hb1 : (decide (0 < k' + 1) && !lessB (nth ws (k' + 1 - 1)).id (nth ws (k' + 1)).id) = false := by simp [hle]
                    cases hd2 : decide ((nth ws (k' + 1)).id.r = r)
                    · simp only [go_sem, Nat.reduceLT, Nat.reduceAdd, Nat.reduceEqDiff, Nat.reduceLeDiff, Nat.reduceSub, Nat.reduceMul, Int.reduceEq, eq_self, reduceIte, hd2, cE, cSi]
                      refine ops_call (.pureE (find_meets lg (nth ws (k' + 1)).id hl) (by simp [go_sem, Nat.reduceLT, Nat.reduceAdd, Nat.reduceEqDiff, Nat.reduceLeDiff, Nat.reduceSub, Nat.reduceMul, Int.reduceEq, eq_self, reduceIte, cId])) ?_
                      by_cases h3 : 0 ≤ findE lg (nth ws (k' + 1)).id
                      · have hw2 : siWait r lg ws (k' + 1) = 4 := by rw [hw1, if_pos (by simp [siBad, h3])]
                        simp only [go_sem, Nat.reduceLT, Nat.reduceAdd, Nat.reduceEqDiff, Nat.reduceLeDiff, Nat.reduceSub, Nat.reduceMul, Int.reduceEq, eq_self, reduceIte, h3]
                        repeat refine ⟨rfl, ?_⟩
                        refine ret_pure hx ?_
                        simp [go_sem, Nat.reduceLT, Nat.reduceAdd, Nat.reduceEqDiff, Nat.reduceLeDiff, Nat.reduceSub, Nat.reduceMul, Int.reduceEq, eq_self, reduceIte, L44, R44, fin 4 hw2 (by decide)]
                      · simp only [go_sem, Nat.reduceLT, Nat.reduceAdd, Nat.reduceEqDiff, Nat.reduceLeDiff, Nat.reduceSub, Nat.reduceMul, Int.reduceEq, eq_self, reduceIte, h3, cE, cSi]
                        refine ops_call (.pureE (ready_meets lg (nth ws (k' + 1)) hok.reg (by omega) hfit.1 (by have := hfit.2; omega)) (by simp [go_sem, Nat.reduceLT, Nat.reduceAdd, Nat.reduceEqDiff, Nat.reduceLeDiff, Nat.reduceSub, Nat.reduceMul, Int.reduceEq, eq_self, reduceIte, cE])) ?_
                        cases h4 : readyB lg (nth ws (k' + 1))
                        · have hw2 : siWait r lg ws (k' + 1) = 0 := by rw [hw1, if_neg (by rw [siBad, hb1, hd2, h4]; simp [h3])]
                          simp only [go_sem, Nat.reduceLT, Nat.reduceAdd, Nat.reduceEqDiff, Nat.reduceLeDiff, Nat.reduceSub, Nat.reduceMul, Int.reduceEq, eq_self, reduceIte, wk]
                          repeat refine ⟨rfl, ?_⟩
                          refine ⟨by simp, m - 1, by omega, k' + 1 + 1, by omega, firstNZ_succ hz hw2, ?_⟩
                          simp [trim_mk, go_sem, Nat.reduceLT, Nat.reduceAdd, Nat.reduceEqDiff, Nat.reduceLeDiff, Nat.reduceSub, Nat.reduceMul, Int.reduceEq, eq_self, reduceIte, subHeap, renObj, pos, List.range_succ, cSi]
                        · have hw2 : siWait r lg ws (k' + 1) = 4 := by rw [hw1, if_pos (by simp [siBad, h4])]
                          simp only [go_sem, Nat.reduceLT, Nat.reduceAdd, Nat.reduceEqDiff, Nat.reduceLeDiff, Nat.reduceSub, Nat.reduceMul, Int.reduceEq, eq_self, reduceIte]
                          repeat refine ⟨rfl, ?_⟩
                          refine ret_pure hx ?_
                          simp [go_sem, Nat.reduceLT, Nat.reduceAdd, Nat.reduceEqDiff, Nat.reduceLeDiff, Nat.reduceSub, Nat.reduceMul, Int.reduceEq, eq_self, reduceIte, L44, R44, fin 4 hw2 (by decide)]
                    · have hw2 : siWait r lg ws (k' + 1) = 4 := by rw [hw1, if_pos (by simp [siBad, hd2])]
                      simp only [go_sem, Nat.reduceLT, Nat.reduceAdd, Nat.reduceEqDiff, Nat.reduceLeDiff, Nat.reduceSub, Nat.reduceMul, Int.reduceEq, eq_self, reduceIte, hd2]
                      repeat refine ⟨rfl, ?_⟩
                      refine ret_pure hx ?_
                      simp [go_sem, Nat.reduceLT, Nat.reduceAdd, Nat.reduceEqDiff, Nat.reduceLeDiff, Nat.reduceSub, Nat.reduceMul, Int.reduceEq, eq_self, reduceIte, L44, R44, fin 4 hw2 (by decide)]
                · have hkz : k = 0 := by omega
                  have hb1 : (decide (0 < k) && !lessB (nth ws (k - 1)).id (nth ws k).id) = false := by simp [hkz]
                  simp only [go_sem, Nat.reduceLT, Nat.reduceAdd, Nat.reduceEqDiff, Nat.reduceLeDiff, Nat.reduceSub, Nat.reduceMul, Int.reduceEq, eq_self, reduceIte, hk0, cE, cSi]
                  cases hd2 : decide ((nth ws (k)).id.r = r)
                  · simp only [go_sem, Nat.reduceLT, Nat.reduceAdd, Nat.reduceEqDiff, Nat.reduceLeDiff, Nat.reduceSub, Nat.reduceMul, Int.reduceEq, eq_self, reduceIte, hd2, cE, cSi]
                    refine ops_call (.pureE (find_meets lg (nth ws (k)).id hl) (by simp [go_sem, Nat.reduceLT, Nat.reduceAdd, Nat.reduceEqDiff, Nat.reduceLeDiff, Nat.reduceSub, Nat.reduceMul, Int.reduceEq, eq_self, reduceIte, cId])) ?_
                    by_cases h3 : 0 ≤ findE lg (nth ws (k)).id
                    · have hw2 : siWait r lg ws (k) = 4 := by rw [hw1, if_pos (by simp [siBad, h3])]
                      simp only [go_sem, Nat.reduceLT, Nat.reduceAdd, Nat.reduceEqDiff, Nat.reduceLeDiff, Nat.reduceSub, Nat.reduceMul, Int.reduceEq, eq_self, reduceIte, h3]
                      repeat refine ⟨rfl, ?_⟩
                      refine ret_pure hx ?_
                      simp [go_sem, Nat.reduceLT, Nat.reduceAdd, Nat.reduceEqDiff, Nat.reduceLeDiff, Nat.reduceSub, Nat.reduceMul, Int.reduceEq, eq_self, reduceIte, L44, R44, fin 4 hw2 (by decide)]
                    · simp only [go_sem, Nat.reduceLT, Nat.reduceAdd, Nat.reduceEqDiff, Nat.reduceLeDiff, Nat.reduceSub, Nat.reduceMul, Int.reduceEq, eq_self, reduceIte, h3, cE, cSi]
                      refine ops_call (.pureE (ready_meets lg (nth ws (k)) hok.reg (by omega) hfit.1 (by have := hfit.2; omega)) (by simp [go_sem, Nat.reduceLT, Nat.reduceAdd, Nat.reduceEqDiff, Nat.reduceLeDiff, Nat.reduceSub, Nat.reduceMul, Int.reduceEq, eq_self, reduceIte, cE])) ?_
                      cases h4 : readyB lg (nth ws (k))
                      · have hw2 : siWait r lg ws (k) = 0 := by rw [hw1, if_neg (by rw [siBad, hb1, hd2, h4]; simp [h3])]
                        simp only [go_sem, Nat.reduceLT, Nat.reduceAdd, Nat.reduceEqDiff, Nat.reduceLeDiff, Nat.reduceSub, Nat.reduceMul, Int.reduceEq, eq_self, reduceIte, wk]
                        repeat refine ⟨rfl, ?_⟩
                        refine ⟨by simp, m - 1, by omega, k + 1, by omega, firstNZ_succ hz hw2, ?_⟩
                        simp [trim_mk, go_sem, Nat.reduceLT, Nat.reduceAdd, Nat.reduceEqDiff, Nat.reduceLeDiff, Nat.reduceSub, Nat.reduceMul, Int.reduceEq, eq_self, reduceIte, subHeap, renObj, pos, List.range_succ, cSi]
                      · have hw2 : siWait r lg ws (k) = 4 := by rw [hw1, if_pos (by simp [siBad, h4])]
                        simp only [go_sem, Nat.reduceLT, Nat.reduceAdd, Nat.reduceEqDiff, Nat.reduceLeDiff, Nat.reduceSub, Nat.reduceMul, Int.reduceEq, eq_self, reduceIte]
                        repeat refine ⟨rfl, ?_⟩
                        refine ret_pure hx ?_
                        simp [go_sem, Nat.reduceLT, Nat.reduceAdd, Nat.reduceEqDiff, Nat.reduceLeDiff, Nat.reduceSub, Nat.reduceMul, Int.reduceEq, eq_self, reduceIte, L44, R44, fin 4 hw2 (by decide)]
                  · have hw2 : siWait r lg ws (k) = 4 := by rw [hw1, if_pos (by simp [siBad, hd2])]
                    simp only [go_sem, Nat.reduceLT, Nat.reduceAdd, Nat.reduceEqDiff, Nat.reduceLeDiff, Nat.reduceSub, Nat.reduceMul, Int.reduceEq, eq_self, reduceIte, hd2]
                    repeat refine ⟨rfl, ?_⟩
                    refine ret_pure hx ?_
                    simp [go_sem, Nat.reduceLT, Nat.reduceAdd, Nat.reduceEqDiff, Nat.reduceLeDiff, Nat.reduceSub, Nat.reduceMul, Int.reduceEq, eq_self, reduceIte, L44, R44, fin 4 hw2 (by decide)]
              · have hw1 : siWait r lg ws k = checkEntry (nth ws k) := by rw [siWait, if_pos h1]
                simp only [go_sem, Nat.reduceLT, Nat.reduceAdd, Nat.reduceEqDiff, Nat.reduceLeDiff, Nat.reduceSub, Nat.reduceMul, Int.reduceEq, eq_self, reduceIte, h1, cE, cSi]
                refine ret_pure hx ?_
                simp [go_sem, Nat.reduceLT, Nat.reduceAdd, Nat.reduceEqDiff, Nat.reduceLeDiff, Nat.reduceSub, Nat.reduceMul, Int.reduceEq, eq_self, reduceIte, L44, R44, fin _ hw1 h1]
            · obtain rfl : k = ws.length := by omega
              simp only [go_sem, Nat.reduceLT, Nat.reduceAdd, Nat.reduceEqDiff, Nat.reduceLeDiff, Nat.reduceSub, Nat.reduceMul, Int.reduceEq, eq_self, reduceIte, hlt]
              refine ret_pure hx ?_
              simp [go_sem, Nat.reduceLT, Nat.reduceAdd, Nat.reduceEqDiff, Nat.reduceLeDiff, Nat.reduceSub, Nat.reduceMul, Int.reduceEq, eq_self, reduceIte, L44, R44, hz]
      · have e : siErr r lg ws = checkLog lg := by rw [siErr, if_neg (by simp [hr]), if_pos hlog]
        simp only [go_sem, Nat.reduceLT, Nat.reduceAdd, Nat.reduceEqDiff, Nat.reduceLeDiff, Nat.reduceSub, Nat.reduceMul, Int.reduceEq, eq_self, reduceIte, hlog]
        refine ret_pure hx ?_
        simp [go_sem, Nat.reduceLT, Nat.reduceAdd, Nat.reduceEqDiff, Nat.reduceLeDiff, Nat.reduceSub, Nat.reduceMul, Int.reduceEq, eq_self, reduceIte, L44, R44, e]
    · have hd1 : decide (r = 1) = false := by simp [h1]
      have e : siErr r lg ws = 3 := by rw [siErr, if_pos (by omega)]
      simp only [go_sem, Nat.reduceLT, Nat.reduceAdd, Nat.reduceEqDiff, Nat.reduceLeDiff, Nat.reduceSub, Nat.reduceMul, Int.reduceEq, eq_self, reduceIte, hd0, hd1, cSi]
      refine ret_pure hx ?_
      simp [go_sem, Nat.reduceLT, Nat.reduceAdd, Nat.reduceEqDiff, Nat.reduceLeDiff, Nat.reduceSub, Nat.reduceMul, Int.reduceEq, eq_self, reduceIte, L44, R44, e]
end Go.Proofs.Ytkibfciheifphaa
/- Sites: Append: contracts. -/
namespace Go.Proofs.Ytkibfciheifphaa
set_option linter.unusedSimpArgs false
set_option linter.unusedVariables false
open Go.RowKit
def apE (r : Int) (lg : List Entry) (c : Int) (t : ByteArray) : Entry := ⟨⟨r, (cntR lg r : Int) + 1⟩, c, t, sortI (headsC lg c)⟩
def zE : Entry := ⟨⟨0, 0⟩, 0, ⟨#[]⟩, []⟩
def apErr (r : Int) (lg : List Entry) (c : Int) (t : ByteArray) : Int :=
  if wthn c 1 7 = false then 3 else if 12 < t.size ∨ (20 : Int) < (cntR lg r : Int) + 1 ∨ lg.length = 40 ∨ 6 < (sortI (headsC lg c)).length then 2 else 0
def apSi (r : Int) (lg ws : List Entry) (c : Int) (t : ByteArray) : Int × List Entry × List Entry := if apErr r lg c t = 0 then (r, settled (lg ++ [apE r lg c t]) ws) else (0, [], [])
def apEn (r : Int) (lg : List Entry) (c : Int) (t : ByteArray) : Entry := if apErr r lg c t = 0 then apE r lg c t else zE
def cSi3 (s : Int × List Entry × List Entry) : List PV := cSi s.1 s.2.1 s.2.2
theorem headsC_len (lg : List Entry) (c : Int) : (sortI (headsC lg c)).length ≤ lg.length := by
  unfold sortI headsC
  rw [List.length_mergeSort, List.length_map]
  refine Nat.le_trans (List.length_filter_le ..) ?_
  unfold withC
  exact List.length_filter_le ..
theorem ap_fit {r : Int} {lg : List Entry} {c : Int} {t : ByteArray} (hr : r = 0 ∨ r = 1) (h : lg.length ≤ 40) : ((apE r lg c t).id.r = 0 ∨ (apE r lg c t).id.r = 1) ∧ (apE r lg c t).ls.length ≤ 1000000 := by
  have := headsC_len lg c
  exact ⟨hr, by show (sortI (headsC lg c)).length ≤ _; omega⟩
set_option maxHeartbeats 4000000 in
theorem appended_meets (r : Int) (lg ws : List Entry) (c : Int) (t : ByteArray) (hr : r = 0 ∨ r = 1) (h : LogOk lg) (hw : ws.length ≤ 20) (hf : fitE ws) :
    Meets Try.prog 63 [.agg (cSi r lg ws), .int .i64 c, .str t] [] (.tup [.agg (cSi3 (apSi r lg ws c t)), .agg (cE (apEn r lg c t)), .int .i64 (apErr r lg c t)]) [] := by
  have hlen := h.len
  refine Meets.of_walk Try.func63 Try.ntmps63 low63 res63 (by simp) fun x hx => ?_
  simp only [go_sem, Nat.reduceLT, Nat.reduceAdd, Nat.reduceEqDiff, Nat.reduceLeDiff, Nat.reduceSub, Nat.reduceMul, Int.reduceEq, eq_self, reduceIte, L63, R63, cSi]
  refine ops_call (.pureE (colors_meets c) (by simp [go_sem, Nat.reduceLT, Nat.reduceAdd, Nat.reduceEqDiff, Nat.reduceLeDiff, Nat.reduceSub, Nat.reduceMul, Int.reduceEq, eq_self, reduceIte])) ?_
  cases hc : wthn c 1 7
  · have e : apErr r lg c t = 3 := by rw [apErr, if_pos hc]
    simp only [go_sem, Nat.reduceLT, Nat.reduceAdd, Nat.reduceEqDiff, Nat.reduceLeDiff, Nat.reduceSub, Nat.reduceMul, Int.reduceEq, eq_self, reduceIte]
    refine ret_pure hx ?_
    simp [go_sem, Nat.reduceLT, Nat.reduceAdd, Nat.reduceEqDiff, Nat.reduceLeDiff, Nat.reduceSub, Nat.reduceMul, Int.reduceEq, eq_self, reduceIte, L63, R63, apSi, apEn, e, cSi3, cSi, cE, zE]
  · have e0 : apErr r lg c t = if 12 < t.size ∨ (20 : Int) < (cntR lg r : Int) + 1 ∨ lg.length = 40 ∨ 6 < (sortI (headsC lg c)).length then 2 else 0 := by rw [apErr, if_neg (by simp [hc])]
    rcases hr with rfl | rfl
    · skip
      have hcn : IntKind.i64.wrap ((cntR lg 0 : Int) + 1) = (cntR lg 0 : Int) + 1 := by have := cntR_le lg 0; rw [IntWalk.i64_in _ (by omega)]
      simp only [go_sem, Nat.reduceLT, Nat.reduceAdd, Nat.reduceEqDiff, Nat.reduceLeDiff, Nat.reduceSub, Nat.reduceMul, Int.reduceEq, eq_self, reduceIte, cSi]
      refine ops_call (.pureE (many_meets lg h.reg (by omega)) (by simp [go_sem, Nat.reduceLT, Nat.reduceAdd, Nat.reduceEqDiff, Nat.reduceLeDiff, Nat.reduceSub, Nat.reduceMul, Int.reduceEq, eq_self, reduceIte])) ?_
      simp only [go_sem, Nat.reduceLT, Nat.reduceAdd, Nat.reduceEqDiff, Nat.reduceLeDiff, Nat.reduceSub, Nat.reduceMul, Int.reduceEq, eq_self, reduceIte, cSi, Int.ofNat_zero, Int.natCast_one, Int.cast_ofNat_Int, Int.reduceLT, Int.reduceLE, Int.reduceToNat, Nat.reduceLT, Int.toNat_zero, Int.natCast_zero, Int.le_refl, Int.lt_irrefl, Int.reduceAdd, frz, false_or, or_true, hcn]
      repeat refine ⟨rfl, ?_⟩
      refine ops_call (.pureE (top_meets lg c h hc) (by simp [go_sem, Nat.reduceLT, Nat.reduceAdd, Nat.reduceEqDiff, Nat.reduceLeDiff, Nat.reduceSub, Nat.reduceMul, Int.reduceEq, eq_self, reduceIte])) ?_
      simp only [go_sem, Nat.reduceLT, Nat.reduceAdd, Nat.reduceEqDiff, Nat.reduceLeDiff, Nat.reduceSub, Nat.reduceMul, Int.reduceEq, eq_self, reduceIte, cSi]
      repeat refine ⟨rfl, ?_⟩
      by_cases d1 : (12 : Int) < (t.size : Int)
      · have e : apErr 0 lg c t = 2 := by rw [e0, if_pos (by omega)]
        simp only [go_sem, Nat.reduceLT, Nat.reduceAdd, Nat.reduceEqDiff, Nat.reduceLeDiff, Nat.reduceSub, Nat.reduceMul, Int.reduceEq, eq_self, reduceIte, d1]
        refine ret_pure hx ?_
        simp [go_sem, Nat.reduceLT, Nat.reduceAdd, Nat.reduceEqDiff, Nat.reduceLeDiff, Nat.reduceSub, Nat.reduceMul, Int.reduceEq, eq_self, reduceIte, L63, R63, apSi, apEn, e, cSi3, cSi, cE, zE]
      · by_cases d2 : (20 : Int) < (cntR lg 0 : Int) + 1
        · have e : apErr 0 lg c t = 2 := by rw [e0, if_pos (by omega)]
          simp only [go_sem, Nat.reduceLT, Nat.reduceAdd, Nat.reduceEqDiff, Nat.reduceLeDiff, Nat.reduceSub, Nat.reduceMul, Int.reduceEq, eq_self, reduceIte, d1, d2]
          refine ret_pure hx ?_
          simp [go_sem, Nat.reduceLT, Nat.reduceAdd, Nat.reduceEqDiff, Nat.reduceLeDiff, Nat.reduceSub, Nat.reduceMul, Int.reduceEq, eq_self, reduceIte, L63, R63, apSi, apEn, e, cSi3, cSi, cE, zE]
        · by_cases d3 : (lg.length : Int) = 40
          · have e : apErr 0 lg c t = 2 := by rw [e0, if_pos (by omega)]
            simp only [go_sem, Nat.reduceLT, Nat.reduceAdd, Nat.reduceEqDiff, Nat.reduceLeDiff, Nat.reduceSub, Nat.reduceMul, Int.reduceEq, eq_self, reduceIte, d1, d2, d3, cSi]
            refine ret_pure hx ?_
            simp [go_sem, Nat.reduceLT, Nat.reduceAdd, Nat.reduceEqDiff, Nat.reduceLeDiff, Nat.reduceSub, Nat.reduceMul, Int.reduceEq, eq_self, reduceIte, L63, R63, apSi, apEn, e, cSi3, cSi, cE, zE]
          · by_cases d4 : (6 : Int) < ((sortI (headsC lg c)).length : Int)
            · have e : apErr 0 lg c t = 2 := by rw [e0, if_pos (by omega)]
              simp only [go_sem, Nat.reduceLT, Nat.reduceAdd, Nat.reduceEqDiff, Nat.reduceLeDiff, Nat.reduceSub, Nat.reduceMul, Int.reduceEq, eq_self, reduceIte, d1, d2, d3, d4, cSi]
              refine ret_pure hx ?_
              simp [go_sem, Nat.reduceLT, Nat.reduceAdd, Nat.reduceEqDiff, Nat.reduceLeDiff, Nat.reduceSub, Nat.reduceMul, Int.reduceEq, eq_self, reduceIte, L63, R63, apSi, apEn, e, cSi3, cSi, cE, zE]
            · have e : apErr 0 lg c t = 0 := by rw [e0, if_neg (by omega)]
              have hfl := log_fit h
              have hae : fitE (lg ++ [apE 0 lg c t]) := fit_app hfl (ap_fit (by decide) hlen)
              have hsl := settled_sum (lg ++ [apE 0 lg c t]) ws
              rw [List.length_append, List.length_cons, List.length_nil] at hsl
              simp only [go_sem, Nat.reduceLT, Nat.reduceAdd, Nat.reduceEqDiff, Nat.reduceLeDiff, Nat.reduceSub, Nat.reduceMul, Int.reduceEq, eq_self, reduceIte, d1, d2, d3, d4, cSi]
              refine ops_call (.heapE [] (r' := .agg [.int .i64 0, .arr 4 lg.length, .arr 5 ws.length]) (H' := [.box (cSi 0 lg ws), .box [.int .i64 0, .nilsl, .nilsl], .box [.int .i64 0, .int .i64 0, .int .i64 0, .str ⟨#[]⟩, .nilsl], .box (cE (apE 0 lg c t)), .arr lg.length true false 44 5 (lg.map cE), .arr ws.length true false 44 5 (ws.map cE)]) (siOwn_meets 0 lg ws (by omega) (by omega) hfl hf) (by simp) (by simp) (by simp [go_sem, Nat.reduceLT, Nat.reduceAdd, Nat.reduceEqDiff, Nat.reduceLeDiff, Nat.reduceSub, Nat.reduceMul, Int.reduceEq, eq_self, reduceIte, cSi]) rfl rfl rfl) ?_
              simp only [go_sem, Nat.reduceLT, Nat.reduceAdd, Nat.reduceEqDiff, Nat.reduceLeDiff, Nat.reduceSub, Nat.reduceMul, Int.reduceEq, eq_self, reduceIte, cSi, cE]
              rw [app_arr rfl rfl (by simp) (by simp; omega)]
              have hce : List.map cE lg ++ [[PV.int .i64 (apE 0 lg c t).id.r, .int .i64 (apE 0 lg c t).id.n, .int .i64 (apE 0 lg c t).c, .str (apE 0 lg c t).t, .list ((apE 0 lg c t).ls.map cId)]] = (lg ++ [apE 0 lg c t]).map cE := by simp [cE]
              simp only [go_sem, Nat.reduceLT, Nat.reduceAdd, Nat.reduceEqDiff, Nat.reduceLeDiff, Nat.reduceSub, Nat.reduceMul, Int.reduceEq, eq_self, reduceIte, hce]
              repeat refine ⟨rfl, ?_⟩
              have hst := settle_meets (lg.length + 1) ws.length 0 (lg ++ [apE 0 lg c t]) ws (by simp; omega) hae hf
              generalize ws.length - (settled (lg ++ [apE 0 lg c t]) ws).2.length = k at hst
              refine ops_call (.heapE [6, 4, 5] (r' := .tup []) (H' := [.box (cSi 0 lg ws), .box [.int .i64 0, .nilsl, .nilsl], .box [.int .i64 0, .int .i64 0, .int .i64 0, .str ⟨#[]⟩, .nilsl], .box (cE (apE 0 lg c t)), .arr (lg.length + 1 + k) true false 44 5 ((settled (lg ++ [apE 0 lg c t]) ws).1.map cE), .arr (ws.length + k) true false 44 5 ((settled (lg ++ [apE 0 lg c t]) ws).2.map cE), .box [.int .i64 0, .arr 4 (lg.length + 1 + k), .arr 5 (ws.length + k)]]) hst (by decide) (by simp) (by simp [go_sem, Nat.reduceLT, Nat.reduceAdd, Nat.reduceEqDiff, Nat.reduceLeDiff, Nat.reduceSub, Nat.reduceMul, Int.reduceEq, eq_self, reduceIte, pos]) rfl rfl rfl) ?_
              simp only [go_sem, Nat.reduceLT, Nat.reduceAdd, Nat.reduceEqDiff, Nat.reduceLeDiff, Nat.reduceSub, Nat.reduceMul, Int.reduceEq, eq_self, reduceIte, cSi, cE]
              refine ops_call (.pureE (entOwn_meets (apE 0 lg c t) (ap_fit (by decide) hlen).2) (by simp [go_sem, Nat.reduceLT, Nat.reduceAdd, Nat.reduceEqDiff, Nat.reduceLeDiff, Nat.reduceSub, Nat.reduceMul, Int.reduceEq, eq_self, reduceIte, cE])) ?_
              simp only [go_sem, Nat.reduceLT, Nat.reduceAdd, Nat.reduceEqDiff, Nat.reduceLeDiff, Nat.reduceSub, Nat.reduceMul, Int.reduceEq, eq_self, reduceIte, cSi, cE]
              repeat refine ⟨rfl, ?_⟩
              refine ret_pure hx ?_
              simp [go_sem, Nat.reduceLT, Nat.reduceAdd, Nat.reduceEqDiff, Nat.reduceLeDiff, Nat.reduceSub, Nat.reduceMul, Int.reduceEq, eq_self, reduceIte, L63, R63, apSi, apEn, e, cSi3, cSi, cE, frzAt, pos]
    · skip
      have hcn : IntKind.i64.wrap ((cntR lg 1 : Int) + 1) = (cntR lg 1 : Int) + 1 := by have := cntR_le lg 1; rw [IntWalk.i64_in _ (by omega)]
      simp only [go_sem, Nat.reduceLT, Nat.reduceAdd, Nat.reduceEqDiff, Nat.reduceLeDiff, Nat.reduceSub, Nat.reduceMul, Int.reduceEq, eq_self, reduceIte, cSi]
      refine ops_call (.pureE (many_meets lg h.reg (by omega)) (by simp [go_sem, Nat.reduceLT, Nat.reduceAdd, Nat.reduceEqDiff, Nat.reduceLeDiff, Nat.reduceSub, Nat.reduceMul, Int.reduceEq, eq_self, reduceIte])) ?_
      simp only [go_sem, Nat.reduceLT, Nat.reduceAdd, Nat.reduceEqDiff, Nat.reduceLeDiff, Nat.reduceSub, Nat.reduceMul, Int.reduceEq, eq_self, reduceIte, cSi, Int.ofNat_zero, Int.natCast_one, Int.cast_ofNat_Int, Int.reduceLT, Int.reduceLE, Int.reduceToNat, Nat.reduceLT, Int.toNat_zero, Int.natCast_zero, Int.le_refl, Int.lt_irrefl, Int.reduceAdd, frz, false_or, or_true, hcn]
      repeat refine ⟨rfl, ?_⟩
      refine ops_call (.pureE (top_meets lg c h hc) (by simp [go_sem, Nat.reduceLT, Nat.reduceAdd, Nat.reduceEqDiff, Nat.reduceLeDiff, Nat.reduceSub, Nat.reduceMul, Int.reduceEq, eq_self, reduceIte])) ?_
      simp only [go_sem, Nat.reduceLT, Nat.reduceAdd, Nat.reduceEqDiff, Nat.reduceLeDiff, Nat.reduceSub, Nat.reduceMul, Int.reduceEq, eq_self, reduceIte, cSi]
      repeat refine ⟨rfl, ?_⟩
      by_cases d1 : (12 : Int) < (t.size : Int)
      · have e : apErr 1 lg c t = 2 := by rw [e0, if_pos (by omega)]
        simp only [go_sem, Nat.reduceLT, Nat.reduceAdd, Nat.reduceEqDiff, Nat.reduceLeDiff, Nat.reduceSub, Nat.reduceMul, Int.reduceEq, eq_self, reduceIte, d1]
        refine ret_pure hx ?_
        simp [go_sem, Nat.reduceLT, Nat.reduceAdd, Nat.reduceEqDiff, Nat.reduceLeDiff, Nat.reduceSub, Nat.reduceMul, Int.reduceEq, eq_self, reduceIte, L63, R63, apSi, apEn, e, cSi3, cSi, cE, zE]
      · by_cases d2 : (20 : Int) < (cntR lg 1 : Int) + 1
        · have e : apErr 1 lg c t = 2 := by rw [e0, if_pos (by omega)]
          simp only [go_sem, Nat.reduceLT, Nat.reduceAdd, Nat.reduceEqDiff, Nat.reduceLeDiff, Nat.reduceSub, Nat.reduceMul, Int.reduceEq, eq_self, reduceIte, d1, d2]
          refine ret_pure hx ?_
          simp [go_sem, Nat.reduceLT, Nat.reduceAdd, Nat.reduceEqDiff, Nat.reduceLeDiff, Nat.reduceSub, Nat.reduceMul, Int.reduceEq, eq_self, reduceIte, L63, R63, apSi, apEn, e, cSi3, cSi, cE, zE]
        · by_cases d3 : (lg.length : Int) = 40
          · have e : apErr 1 lg c t = 2 := by rw [e0, if_pos (by omega)]
            simp only [go_sem, Nat.reduceLT, Nat.reduceAdd, Nat.reduceEqDiff, Nat.reduceLeDiff, Nat.reduceSub, Nat.reduceMul, Int.reduceEq, eq_self, reduceIte, d1, d2, d3, cSi]
            refine ret_pure hx ?_
            simp [go_sem, Nat.reduceLT, Nat.reduceAdd, Nat.reduceEqDiff, Nat.reduceLeDiff, Nat.reduceSub, Nat.reduceMul, Int.reduceEq, eq_self, reduceIte, L63, R63, apSi, apEn, e, cSi3, cSi, cE, zE]
          · by_cases d4 : (6 : Int) < ((sortI (headsC lg c)).length : Int)
            · have e : apErr 1 lg c t = 2 := by rw [e0, if_pos (by omega)]
              simp only [go_sem, Nat.reduceLT, Nat.reduceAdd, Nat.reduceEqDiff, Nat.reduceLeDiff, Nat.reduceSub, Nat.reduceMul, Int.reduceEq, eq_self, reduceIte, d1, d2, d3, d4, cSi]
              refine ret_pure hx ?_
              simp [go_sem, Nat.reduceLT, Nat.reduceAdd, Nat.reduceEqDiff, Nat.reduceLeDiff, Nat.reduceSub, Nat.reduceMul, Int.reduceEq, eq_self, reduceIte, L63, R63, apSi, apEn, e, cSi3, cSi, cE, zE]
            · have e : apErr 1 lg c t = 0 := by rw [e0, if_neg (by omega)]
              have hfl := log_fit h
              have hae : fitE (lg ++ [apE 1 lg c t]) := fit_app hfl (ap_fit (by decide) hlen)
              have hsl := settled_sum (lg ++ [apE 1 lg c t]) ws
              rw [List.length_append, List.length_cons, List.length_nil] at hsl
              simp only [go_sem, Nat.reduceLT, Nat.reduceAdd, Nat.reduceEqDiff, Nat.reduceLeDiff, Nat.reduceSub, Nat.reduceMul, Int.reduceEq, eq_self, reduceIte, d1, d2, d3, d4, cSi]
              refine ops_call (.heapE [] (r' := .agg [.int .i64 1, .arr 4 lg.length, .arr 5 ws.length]) (H' := [.box (cSi 1 lg ws), .box [.int .i64 0, .nilsl, .nilsl], .box [.int .i64 0, .int .i64 0, .int .i64 0, .str ⟨#[]⟩, .nilsl], .box (cE (apE 1 lg c t)), .arr lg.length true false 44 5 (lg.map cE), .arr ws.length true false 44 5 (ws.map cE)]) (siOwn_meets 1 lg ws (by omega) (by omega) hfl hf) (by simp) (by simp) (by simp [go_sem, Nat.reduceLT, Nat.reduceAdd, Nat.reduceEqDiff, Nat.reduceLeDiff, Nat.reduceSub, Nat.reduceMul, Int.reduceEq, eq_self, reduceIte, cSi]) rfl rfl rfl) ?_
              simp only [go_sem, Nat.reduceLT, Nat.reduceAdd, Nat.reduceEqDiff, Nat.reduceLeDiff, Nat.reduceSub, Nat.reduceMul, Int.reduceEq, eq_self, reduceIte, cSi, cE]
              rw [app_arr rfl rfl (by simp) (by simp; omega)]
              have hce : List.map cE lg ++ [[PV.int .i64 (apE 1 lg c t).id.r, .int .i64 (apE 1 lg c t).id.n, .int .i64 (apE 1 lg c t).c, .str (apE 1 lg c t).t, .list ((apE 1 lg c t).ls.map cId)]] = (lg ++ [apE 1 lg c t]).map cE := by simp [cE]
              simp only [go_sem, Nat.reduceLT, Nat.reduceAdd, Nat.reduceEqDiff, Nat.reduceLeDiff, Nat.reduceSub, Nat.reduceMul, Int.reduceEq, eq_self, reduceIte, hce]
              repeat refine ⟨rfl, ?_⟩
              have hst := settle_meets (lg.length + 1) ws.length 1 (lg ++ [apE 1 lg c t]) ws (by simp; omega) hae hf
              generalize ws.length - (settled (lg ++ [apE 1 lg c t]) ws).2.length = k at hst
              refine ops_call (.heapE [6, 4, 5] (r' := .tup []) (H' := [.box (cSi 1 lg ws), .box [.int .i64 0, .nilsl, .nilsl], .box [.int .i64 0, .int .i64 0, .int .i64 0, .str ⟨#[]⟩, .nilsl], .box (cE (apE 1 lg c t)), .arr (lg.length + 1 + k) true false 44 5 ((settled (lg ++ [apE 1 lg c t]) ws).1.map cE), .arr (ws.length + k) true false 44 5 ((settled (lg ++ [apE 1 lg c t]) ws).2.map cE), .box [.int .i64 1, .arr 4 (lg.length + 1 + k), .arr 5 (ws.length + k)]]) hst (by decide) (by simp) (by simp [go_sem, Nat.reduceLT, Nat.reduceAdd, Nat.reduceEqDiff, Nat.reduceLeDiff, Nat.reduceSub, Nat.reduceMul, Int.reduceEq, eq_self, reduceIte, pos]) rfl rfl rfl) ?_
              simp only [go_sem, Nat.reduceLT, Nat.reduceAdd, Nat.reduceEqDiff, Nat.reduceLeDiff, Nat.reduceSub, Nat.reduceMul, Int.reduceEq, eq_self, reduceIte, cSi, cE]
              refine ops_call (.pureE (entOwn_meets (apE 1 lg c t) (ap_fit (by decide) hlen).2) (by simp [go_sem, Nat.reduceLT, Nat.reduceAdd, Nat.reduceEqDiff, Nat.reduceLeDiff, Nat.reduceSub, Nat.reduceMul, Int.reduceEq, eq_self, reduceIte, cE])) ?_
              simp only [go_sem, Nat.reduceLT, Nat.reduceAdd, Nat.reduceEqDiff, Nat.reduceLeDiff, Nat.reduceSub, Nat.reduceMul, Int.reduceEq, eq_self, reduceIte, cSi, cE]
              repeat refine ⟨rfl, ?_⟩
              refine ret_pure hx ?_
              simp [go_sem, Nat.reduceLT, Nat.reduceAdd, Nat.reduceEqDiff, Nat.reduceLeDiff, Nat.reduceSub, Nat.reduceMul, Int.reduceEq, eq_self, reduceIte, L63, R63, apSi, apEn, e, cSi3, cSi, cE, frzAt, pos]
def apErrX (r : Int) (lg ws : List Entry) (c : Int) (t : ByteArray) : Int := if siErr r lg ws ≠ 0 then siErr r lg ws else apErr r lg c t
def apSiX (r : Int) (lg ws : List Entry) (c : Int) (t : ByteArray) : Int × List Entry × List Entry := if siErr r lg ws ≠ 0 then (0, [], []) else apSi r lg ws c t
def apEnX (r : Int) (lg ws : List Entry) (c : Int) (t : ByteArray) : Entry := if siErr r lg ws ≠ 0 then zE else apEn r lg c t
theorem siAppend_meets (r : Int) (lg ws : List Entry) (c : Int) (t : ByteArray) (hl : lg.length ≤ 9223372036854775806) (hw : ws.length ≤ 9223372036854775806) :
    Meets Try.prog 43 [.agg (cSi r lg ws), .int .i64 c, .str t] [] (.tup [.agg (cSi3 (apSiX r lg ws c t)), .agg (cE (apEnX r lg ws c t)), .int .i64 (apErrX r lg ws c t)]) [] := by
  refine Meets.of_walk Try.func43 Try.ntmps43 low43 res43 (by simp) fun x hx => ?_
  simp only [go_sem, Nat.reduceLT, Nat.reduceAdd, Nat.reduceEqDiff, Nat.reduceLeDiff, Nat.reduceSub, Nat.reduceMul, Int.reduceEq, eq_self, reduceIte, L43, R43, cSi]
  refine ops_call (.pureE (siCheck_meets r lg ws hl hw) (by simp [go_sem, Nat.reduceLT, Nat.reduceAdd, Nat.reduceEqDiff, Nat.reduceLeDiff, Nat.reduceSub, Nat.reduceMul, Int.reduceEq, eq_self, reduceIte, cSi])) ?_
  by_cases h0 : siErr r lg ws = 0
  · obtain ⟨hr, hok, hw20, hch⟩ := siErr_ok h0
    simp only [go_sem, Nat.reduceLT, Nat.reduceAdd, Nat.reduceEqDiff, Nat.reduceLeDiff, Nat.reduceSub, Nat.reduceMul, Int.reduceEq, eq_self, reduceIte, h0, cSi]
    refine ops_call (.pureE (appended_meets r lg ws c t hr hok hw20 (waits_fit fun k hk => (hch k hk).1)) (by simp [go_sem, Nat.reduceLT, Nat.reduceAdd, Nat.reduceEqDiff, Nat.reduceLeDiff, Nat.reduceSub, Nat.reduceMul, Int.reduceEq, eq_self, reduceIte, cSi])) ?_
    simp only [go_sem, Nat.reduceLT, Nat.reduceAdd, Nat.reduceEqDiff, Nat.reduceLeDiff, Nat.reduceSub, Nat.reduceMul, Int.reduceEq, eq_self, reduceIte, cSi3, cSi, cE]
    refine ret_pure hx ?_
    simp [go_sem, Nat.reduceLT, Nat.reduceAdd, Nat.reduceEqDiff, Nat.reduceLeDiff, Nat.reduceSub, Nat.reduceMul, Int.reduceEq, eq_self, reduceIte, L43, R43, apSiX, apEnX, apErrX, h0, cSi3, cSi, cE]
  · simp only [go_sem, Nat.reduceLT, Nat.reduceAdd, Nat.reduceEqDiff, Nat.reduceLeDiff, Nat.reduceSub, Nat.reduceMul, Int.reduceEq, eq_self, reduceIte, h0, cSi]
    refine ret_pure hx ?_
    simp [go_sem, Nat.reduceLT, Nat.reduceAdd, Nat.reduceEqDiff, Nat.reduceLeDiff, Nat.reduceSub, Nat.reduceMul, Int.reduceEq, eq_self, reduceIte, L43, R43, apSiX, apEnX, apErrX, h0, cSi3, cSi, cE, zE]
end Go.Proofs.Ytkibfciheifphaa
/- Sites: Receive: contracts. -/
namespace Go.Proofs.Ytkibfciheifphaa
set_option linter.unusedSimpArgs false
set_option linter.unusedVariables false
open Go.RowKit
theorem lessB_irr (a : Id) : lessB a a = false := by simp [lessB]
theorem idEq_of {a b : Id} (h1 : lessB a b = false) (h2 : lessB b a = false) : a = b := by
  simp only [lessB, decide_eq_false_iff_not] at *
  cases a; cases b
  simp only [Id.mk.injEq] at *
  omega
def upE (ws : List Entry) : Prop := ∀ i j, i < j → j < ws.length → lessB (nth ws i).id (nth ws j).id = true
theorem upE_of {ws : List Entry} (h : ∀ k, k + 1 < ws.length → lessB (nth ws k).id (nth ws (k + 1)).id = true) : upE ws := by
  intro i j hij hj
  have key : ∀ d, i + d + 1 < ws.length → lessB (nth ws i).id (nth ws (i + d + 1)).id = true := by
    intro d
    induction d with
    | zero => intro hd; exact h i hd
    | succ d ih => intro hd; exact lessB_trans (ih (by omega)) (h (i + d + 1) hd)
  have := key (j - i - 1) (by omega)
  rwa [show i + (j - i - 1) + 1 = j by omega] at this
theorem siErr_up {r : Int} {lg ws : List Entry} (h : siErr r lg ws = 0) : upE ws := by
  obtain ⟨-, -, -, hc⟩ := siErr_ok h
  refine upE_of fun k hk => ?_
  have := (hc (k + 1) hk).2
  unfold siBad at this
  simp only [Bool.or_eq_false_iff, Nat.add_sub_cancel] at this
  have h2 := this.1.1.1
  simpa using h2
def posE (l : List Entry) (y : Id) : Nat := l.countP fun e => lessB e.id y
def foundE (l : List Entry) (y : Id) : Bool := l.any fun e => decide (e.id = y)
theorem posE_at {l : List Entry} {y : Id} {i : Nat} (hi : i ≤ l.length) (h1 : ∀ k, k < i → lessB (nth l k).id y = true) (h2 : ∀ k, i ≤ k → k < l.length → lessB (nth l k).id y = false) : posE l y = i := by
  unfold posE
  conv => lhs; rw [← List.take_append_drop i l]
  rw [List.countP_append]
  have a : (l.take i).countP (fun e => lessB e.id y) = (l.take i).length := by
    rw [List.countP_eq_length]
    intro w hw
    obtain ⟨k, hk, rfl⟩ := List.getElem_of_mem hw
    rw [List.length_take] at hk
    have := h1 k (by omega)
    rw [nth_eq _ _ (by omega)] at this
    simpa using this
  have b : (l.drop i).countP (fun e => lessB e.id y) = 0 := by
    rw [List.countP_eq_zero]
    intro w hw
    obtain ⟨k, hk, rfl⟩ := List.getElem_of_mem hw
    rw [List.length_drop] at hk
    have := h2 (i + k) (by omega) (by omega)
    rw [nth_eq _ _ (by omega)] at this
    simpa using this
  rw [a, b, List.length_take]; omega
theorem foundE_at {l : List Entry} {y : Id} (hu : upE l) {i : Nat} (hi : i ≤ l.length) (h1 : ∀ k, k < i → lessB (nth l k).id y = true) (h2 : ∀ k, i ≤ k → k < l.length → lessB (nth l k).id y = false) : foundE l y = decide (i < l.length ∧ (nth l i).id = y) := by
  rw [Bool.eq_iff_iff, decide_eq_true_eq]
  unfold foundE
  rw [List.any_eq_true]
  constructor
  · rintro ⟨w, hw, hn⟩
    obtain ⟨k, hk, rfl⟩ := List.getElem_of_mem hw
    rw [← nth_eq _ _ hk, decide_eq_true_eq] at hn
    by_cases h : k < i
    · have := h1 k h; rw [hn, lessB_irr] at this; cases this
    · by_cases e : k = i
      · subst e; exact ⟨hk, hn⟩
      · have a := hu i k (by omega) hk
        have b := h2 i (Nat.le_refl _) (by omega)
        rw [hn] at a; rw [a] at b; cases b
  · rintro ⟨a, b⟩
    exact ⟨_, nthM a, by simpa using b⟩
theorem posE_le (l : List Entry) (y : Id) : posE l y ≤ l.length := by unfold posE; exact List.countP_le_length
theorem ordI_zero {a b : Id} : ordI a b = 0 ↔ a = b := by
  cases a; cases b
  simp only [ordI, cmpI, Id.mk.injEq]
  repeat' split
  all_goals omega
theorem raw1_meets (e : Entry) (y : Id) : Meets Try.prog 71 [.agg (cE e), .agg (cId y)] [] (.int .i64 (ordI e.id y)) [] := by
  refine Meets.of_walk Try.func71 Try.ntmps71 low71 res71 (by simp) fun x hx => ?_
  simp only [go_sem, Nat.reduceLT, Nat.reduceAdd, Nat.reduceEqDiff, Nat.reduceLeDiff, Nat.reduceSub, Nat.reduceMul, Int.reduceEq, eq_self, reduceIte, L71, R71, cE, cId]
  refine ops_call (.pureE (order_meets e.id y) (by simp [go_sem, Nat.reduceLT, Nat.reduceAdd, Nat.reduceEqDiff, Nat.reduceLeDiff, Nat.reduceSub, Nat.reduceMul, Int.reduceEq, eq_self, reduceIte, cId])) ?_
  simp only [go_sem, Nat.reduceLT, Nat.reduceAdd, Nat.reduceEqDiff, Nat.reduceLeDiff, Nat.reduceSub, Nat.reduceMul, Int.reduceEq, eq_self, reduceIte]
  refine ret_pure hx ?_
  simp [go_sem, Nat.reduceLT, Nat.reduceAdd, Nat.reduceEqDiff, Nat.reduceLeDiff, Nat.reduceSub, Nat.reduceMul, Int.reduceEq, eq_self, reduceIte, L71, R71]
set_option maxHeartbeats 1000000 in
theorem bsE_meets (l : List Entry) (y : Id) (hu : upE l) (hl : l.length ≤ 4611686018427387904) :
    Meets Try.prog 70 [.list (l.map cE), .agg (cId y), .clo 71 []] [] (.tup [.int .i64 (posE l y), .bool (foundE l y)]) [] := by
  refine Meets.of_walk Try.func70 Try.ntmps70 low70 res70 (by simp) fun x hx => ?_
  simp only [go_sem, Nat.reduceLT, Nat.reduceAdd, Nat.reduceEqDiff, Nat.reduceLeDiff, Nat.reduceSub, Nat.reduceMul, Int.reduceEq, eq_self, reduceIte, L70, R70]
  refine loop_inv [0, 2, 4, 8, 9, 10] 1 (fun g st => ∃ i j : Nat, i ≤ j ∧ j ≤ l.length ∧ j - i = g ∧ (∀ k, k < i → lessB (nth l k).id y = true) ∧ (∀ k, j ≤ k → k < l.length → lessB (nth l k).id y = false) ∧
    st = ⟨mkE .top [(0, .list (l.map cE)), (2, .clo 71 []), (4, .ptr 0 0), (8, .int .i64 l.length), (9, .int .i64 i), (10, .int .i64 j)], [.box (cId y)]⟩) l.length (by simp [hx]) (by simp) ?_ ?_
  · refine ⟨0, l.length, by omega, by omega, by omega, fun k h => by omega, fun k h1 h2 => by omega, ?_⟩
    simp [trim_mk, go_sem, Nat.reduceLT, Nat.reduceAdd, Nat.reduceEqDiff, Nat.reduceLeDiff, Nat.reduceSub, Nat.reduceMul, Int.reduceEq, eq_self, reduceIte, subHeap, renObj, pos, List.range_succ, cId]
  · rintro g st ⟨i, j, hij, hj, hg, hlo, hhi, rfl⟩
    by_cases hlt : i < j
    · have w1 : IntKind.i64.wrap ((i : Int) + (j : Int)) = ((i + j : Nat) : Int) := by rw [IntKind.wrap_i64]; omega
      obtain ⟨h, hh⟩ : ∃ h, h = (i + j) / 2 := ⟨_, rfl⟩
      have hgt : l[h]? = some (nth l h) := nth_get? _ _ (by omega)
      have hhl : h < l.length := by omega
      have w2 : IntKind.u64.wrap ((i + j : Nat) : Int) = ((i + j : Nat) : Int) := by rw [IntKind.wrap_u64]; omega
      have w3 : ((i + j : Nat) : Int).fdiv (2 ^ min (Int.toNat 1) 64) = (h : Int) := by
        show Int.fdiv _ 2 = _
        rw [Int.fdiv_eq_ediv_of_nonneg _ (by omega)]; omega
      have w4 : IntKind.i64.wrap (h : Int) = (h : Int) := by rw [IntKind.wrap_i64]; omega
      have w5 := i64_up (k := h) (by omega)
      simp only [go_sem, Nat.reduceLT, Nat.reduceAdd, Nat.reduceEqDiff, Nat.reduceLeDiff, Nat.reduceSub, Nat.reduceMul, Int.reduceEq, eq_self, reduceIte, hlt, w1, w2, w3, w4, Int.reduceLE, hgt, hhl, cE, cId]
      refine ops_callv rfl (by kernel_rfl) (.pureE (raw1_meets (nth l h) y) (by simp [go_sem, Nat.reduceLT, Nat.reduceAdd, Nat.reduceEqDiff, Nat.reduceLeDiff, Nat.reduceSub, Nat.reduceMul, Int.reduceEq, eq_self, reduceIte, cE, cId])) ?_
      by_cases hc : lessB (nth l h).id y = true
      · have e : ordI (nth l h).id y < 0 := ordI_lt.2 hc
        simp only [go_sem, Nat.reduceLT, Nat.reduceAdd, Nat.reduceEqDiff, Nat.reduceLeDiff, Nat.reduceSub, Nat.reduceMul, Int.reduceEq, eq_self, reduceIte, e, w5]
        refine ⟨by simp, j - (h + 1), by omega, h + 1, j, by omega, hj, rfl, fun k hk => ?_, hhi, ?_⟩
        · by_cases ek : k = h
          · rw [ek]; exact hc
          · exact lessB_trans (hu k h (by omega) (by omega)) hc
        · simp [trim_mk, go_sem, Nat.reduceLT, Nat.reduceAdd, Nat.reduceEqDiff, Nat.reduceLeDiff, Nat.reduceSub, Nat.reduceMul, Int.reduceEq, eq_self, reduceIte, subHeap, renObj, pos, List.range_succ, cId]
      · have e : ¬ ordI (nth l h).id y < 0 := fun q => hc (ordI_lt.1 q)
        simp only [go_sem, Nat.reduceLT, Nat.reduceAdd, Nat.reduceEqDiff, Nat.reduceLeDiff, Nat.reduceSub, Nat.reduceMul, Int.reduceEq, eq_self, reduceIte, e]
        refine ⟨by simp, h - i, by omega, i, h, by omega, by omega, rfl, hlo, fun k h1 h2 => ?_, ?_⟩
        · by_cases ek : k = h
          · rw [ek]; simpa using hc
          · rw [← Bool.not_eq_true]
            exact fun q => hc (lessB_trans (hu h k (by omega) h2) q)
        · simp [trim_mk, go_sem, Nat.reduceLT, Nat.reduceAdd, Nat.reduceEqDiff, Nat.reduceLeDiff, Nat.reduceSub, Nat.reduceMul, Int.reduceEq, eq_self, reduceIte, subHeap, renObj, pos, List.range_succ, cId]
    · obtain rfl : i = j := by omega
      have hp := posE_at hj hlo hhi
      have hf := foundE_at hu hj hlo hhi
      by_cases hil : i < l.length
      · have hgt : l[i]? = some (nth l i) := nth_get? _ _ hil
        simp only [go_sem, Nat.reduceLT, Nat.reduceAdd, Nat.reduceEqDiff, Nat.reduceLeDiff, Nat.reduceSub, Nat.reduceMul, Int.reduceEq, eq_self, reduceIte, hlt, hil, hgt, cE, cId]
        refine ops_callv rfl (by kernel_rfl) (.pureE (raw1_meets (nth l i) y) (by simp [go_sem, Nat.reduceLT, Nat.reduceAdd, Nat.reduceEqDiff, Nat.reduceLeDiff, Nat.reduceSub, Nat.reduceMul, Int.reduceEq, eq_self, reduceIte, cE, cId])) ?_
        have e : (ordI (nth l i).id y = 0) ↔ (nth l i).id = y := ordI_zero
        simp only [go_sem, Nat.reduceLT, Nat.reduceAdd, Nat.reduceEqDiff, Nat.reduceLeDiff, Nat.reduceSub, Nat.reduceMul, Int.reduceEq, eq_self, reduceIte, e]
        refine ret_pure hx ?_
        simp [go_sem, Nat.reduceLT, Nat.reduceAdd, Nat.reduceEqDiff, Nat.reduceLeDiff, Nat.reduceSub, Nat.reduceMul, Int.reduceEq, eq_self, reduceIte, L70, R70, hp, hf, hil]
      · simp only [go_sem, Nat.reduceLT, Nat.reduceAdd, Nat.reduceEqDiff, Nat.reduceLeDiff, Nat.reduceSub, Nat.reduceMul, Int.reduceEq, eq_self, reduceIte, hlt, hil]
        refine ret_pure hx ?_
        simp [go_sem, Nat.reduceLT, Nat.reduceAdd, Nat.reduceEqDiff, Nat.reduceLeDiff, Nat.reduceSub, Nat.reduceMul, Int.reduceEq, eq_self, reduceIte, L70, R70, hp, hf, hil]
def rcP (lg ws : List Entry) (e : Entry) : List Entry × List Entry := settled lg (ws.insertIdx (posE ws e.id) e)
def rcErr (r : Int) (lg ws : List Entry) (e : Entry) : Int :=
  if 0 ≤ findE lg e.id ∨ 0 ≤ findE ws e.id then 0 else if e.id.r = r then 4 else if 20 < (rcP lg ws e).2.length ∨ 40 < (rcP lg ws e).1.length then 2 else 0
def rcSi (r : Int) (lg ws : List Entry) (e : Entry) : Int × List Entry × List Entry :=
  if 0 ≤ findE lg e.id ∨ 0 ≤ findE ws e.id then (r, lg, ws) else if rcErr r lg ws e = 0 then (r, rcP lg ws e) else (0, [], [])
theorem fit_ins {ws : List Entry} {e : Entry} (h : fitE ws) (he : (e.id.r = 0 ∨ e.id.r = 1) ∧ e.ls.length ≤ 1000000) {i : Nat} (hi : i ≤ ws.length) : fitE (ws.insertIdx i e) := fun x hx => by
  rcases (List.mem_insertIdx hi).1 hx with h1 | h1
  · subst h1; exact he
  · exact h x h1
theorem insE_len (l : List Entry) (w : Entry) {k : Nat} (h : k ≤ l.length) : (l.insertIdx k w).length = l.length + 1 := by rw [List.length_insertIdx, if_pos h]
set_option maxHeartbeats 4000000 in
theorem siRaw_meets (r : Int) (lg ws : List Entry) (e : Entry) (hl : lg.length ≤ 1000) (hw : ws.length ≤ 1000) (hf1 : fitE lg) (hf2 : fitE ws) (hu : upE ws) (he : (e.id.r = 0 ∨ e.id.r = 1) ∧ e.ls.length ≤ 1000000) :
    Meets Try.prog 47 [.agg (cSi r lg ws), .agg (cE e)] [] (.tup [.agg (cSi3 (rcSi r lg ws e)), .int .i64 (rcErr r lg ws e)]) [] := by
  refine Meets.of_walk Try.func47 Try.ntmps47 low47 res47 (by simp) fun x hx => ?_
  simp only [go_sem, Nat.reduceLT, Nat.reduceAdd, Nat.reduceEqDiff, Nat.reduceLeDiff, Nat.reduceSub, Nat.reduceMul, Int.reduceEq, eq_self, reduceIte, L47, R47, cSi, cE]
  refine ops_call (.heapE [] (r' := .agg [.int .i64 r, .arr 3 lg.length, .arr 4 ws.length]) (H' := [.box (cSi r lg ws), .box (cE e), .box [.int .i64 0, .nilsl, .nilsl], .arr lg.length true false 44 5 (lg.map cE), .arr ws.length true false 44 5 (ws.map cE)]) (siOwn_meets r lg ws (by omega) (by omega) hf1 hf2) (by simp) (by simp) (by simp [go_sem, Nat.reduceLT, Nat.reduceAdd, Nat.reduceEqDiff, Nat.reduceLeDiff, Nat.reduceSub, Nat.reduceMul, Int.reduceEq, eq_self, reduceIte, cSi]) rfl rfl rfl) ?_
  simp only [go_sem, Nat.reduceLT, Nat.reduceAdd, Nat.reduceEqDiff, Nat.reduceLeDiff, Nat.reduceSub, Nat.reduceMul, Int.reduceEq, eq_self, reduceIte, cSi, cE]
  refine ops_call (.pureE (find_meets lg e.id (by omega)) (by simp [go_sem, Nat.reduceLT, Nat.reduceAdd, Nat.reduceEqDiff, Nat.reduceLeDiff, Nat.reduceSub, Nat.reduceMul, Int.reduceEq, eq_self, reduceIte, cId])) ?_
  by_cases h1 : 0 ≤ findE lg e.id
  · have e1 : rcErr r lg ws e = 0 := by rw [rcErr, if_pos (.inl h1)]
    simp only [go_sem, Nat.reduceLT, Nat.reduceAdd, Nat.reduceEqDiff, Nat.reduceLeDiff, Nat.reduceSub, Nat.reduceMul, Int.reduceEq, eq_self, reduceIte, h1, cSi, cE]
    refine ret_pure hx ?_
    simp [go_sem, Nat.reduceLT, Nat.reduceAdd, Nat.reduceEqDiff, Nat.reduceLeDiff, Nat.reduceSub, Nat.reduceMul, Int.reduceEq, eq_self, reduceIte, L47, R47, rcSi, e1, h1, cSi3, cSi, cE, frzAt, pos]
  · simp only [go_sem, Nat.reduceLT, Nat.reduceAdd, Nat.reduceEqDiff, Nat.reduceLeDiff, Nat.reduceSub, Nat.reduceMul, Int.reduceEq, eq_self, reduceIte, h1, cSi, cE]
    refine ops_call (.pureE (find_meets ws e.id (by omega)) (by simp [go_sem, Nat.reduceLT, Nat.reduceAdd, Nat.reduceEqDiff, Nat.reduceLeDiff, Nat.reduceSub, Nat.reduceMul, Int.reduceEq, eq_self, reduceIte, cId])) ?_
    by_cases h2 : 0 ≤ findE ws e.id
    · have e1 : rcErr r lg ws e = 0 := by rw [rcErr, if_pos (.inr h2)]
      simp only [go_sem, Nat.reduceLT, Nat.reduceAdd, Nat.reduceEqDiff, Nat.reduceLeDiff, Nat.reduceSub, Nat.reduceMul, Int.reduceEq, eq_self, reduceIte, h2, cSi, cE]
      refine ret_pure hx ?_
      simp [go_sem, Nat.reduceLT, Nat.reduceAdd, Nat.reduceEqDiff, Nat.reduceLeDiff, Nat.reduceSub, Nat.reduceMul, Int.reduceEq, eq_self, reduceIte, L47, R47, rcSi, e1, h2, cSi3, cSi, cE, frzAt, pos]
    · by_cases h3 : e.id.r = r
      · have e1 : rcErr r lg ws e = 4 := by rw [rcErr, if_neg (by omega), if_pos h3]
        simp only [go_sem, Nat.reduceLT, Nat.reduceAdd, Nat.reduceEqDiff, Nat.reduceLeDiff, Nat.reduceSub, Nat.reduceMul, Int.reduceEq, eq_self, reduceIte, h2, h3, cSi, cE]
        refine ret_pure hx ?_
        simp [go_sem, Nat.reduceLT, Nat.reduceAdd, Nat.reduceEqDiff, Nat.reduceLeDiff, Nat.reduceSub, Nat.reduceMul, Int.reduceEq, eq_self, reduceIte, L47, R47, rcSi, e1, h1, h2, cSi3, cSi, cE, frzAt, pos]
      · have e0 : rcErr r lg ws e = if 20 < (rcP lg ws e).2.length ∨ 40 < (rcP lg ws e).1.length then 2 else 0 := by rw [rcErr, if_neg (by omega), if_neg h3]
        have hil := insE_len ws e (posE_le ws e.id)
        have hst := settle_meets lg.length (ws.length + 1) r lg (ws.insertIdx (posE ws e.id) e) (by omega) hf1 (fit_ins hf2 he (posE_le ws e.id))
        rw [show settled lg (ws.insertIdx (posE ws e.id) e) = rcP lg ws e from rfl] at hst
        generalize (ws.insertIdx (posE ws e.id) e).length - (rcP lg ws e).2.length = k at hst
        simp only [go_sem, Nat.reduceLT, Nat.reduceAdd, Nat.reduceEqDiff, Nat.reduceLeDiff, Nat.reduceSub, Nat.reduceMul, Int.reduceEq, eq_self, reduceIte, h2, h3, cSi, cE]
        refine ops_call (.scalarE (bsE_meets ws e.id hu (by omega)) rfl (by simp [go_sem, Nat.reduceLT, Nat.reduceAdd, Nat.reduceEqDiff, Nat.reduceLeDiff, Nat.reduceSub, Nat.reduceMul, Int.reduceEq, eq_self, reduceIte, frzAt, pos, cId])) ?_
        simp only [go_sem, Nat.reduceLT, Nat.reduceAdd, Nat.reduceEqDiff, Nat.reduceLeDiff, Nat.reduceSub, Nat.reduceMul, Int.reduceEq, eq_self, reduceIte, cSi, cE]
        repeat refine ⟨rfl, ?_⟩
        refine ops_call (.pureE (entOwn_meets e he.2) (by simp [go_sem, Nat.reduceLT, Nat.reduceAdd, Nat.reduceEqDiff, Nat.reduceLeDiff, Nat.reduceSub, Nat.reduceMul, Int.reduceEq, eq_self, reduceIte, cE])) ?_
        simp only [go_sem, Nat.reduceLT, Nat.reduceAdd, Nat.reduceEqDiff, Nat.reduceLeDiff, Nat.reduceSub, Nat.reduceMul, Int.reduceEq, eq_self, reduceIte, cSi, cE]
        refine ops_call1 4 (insE_meets (ws.map cE) (cE e) ws.length (posE ws e.id) (by simp; exact posE_le _ _) rfl (by simp; omega)) rfl rfl rfl rfl (by simp [go_sem, Nat.reduceLT, Nat.reduceAdd, Nat.reduceEqDiff, Nat.reduceLeDiff, Nat.reduceSub, Nat.reduceMul, Int.reduceEq, eq_self, reduceIte]) (by simp [go_sem, Nat.reduceLT, Nat.reduceAdd, Nat.reduceEqDiff, Nat.reduceLeDiff, Nat.reduceSub, Nat.reduceMul, Int.reduceEq, eq_self, reduceIte, pos, cE]) rfl ?_
        rw [insIdx_mapE]
        simp only [go_sem, Nat.reduceLT, Nat.reduceAdd, Nat.reduceEqDiff, Nat.reduceLeDiff, Nat.reduceSub, Nat.reduceMul, Int.reduceEq, eq_self, reduceIte, cSi, cE]
        repeat refine ⟨rfl, ?_⟩
        refine ops_call (.heapE [5, 3, 4] (r' := .tup []) (H' := [.box (cSi r lg ws), .box (cE e), .box [.int .i64 0, .nilsl, .nilsl], .arr (lg.length + k) true false 44 5 ((rcP lg ws e).1.map cE), .arr (ws.length + 1 + k) true false 44 5 ((rcP lg ws e).2.map cE), .box [.int .i64 r, .arr 3 (lg.length + k), .arr 4 (ws.length + 1 + k)]]) hst (by decide) (by simp) (by simp [go_sem, Nat.reduceLT, Nat.reduceAdd, Nat.reduceEqDiff, Nat.reduceLeDiff, Nat.reduceSub, Nat.reduceMul, Int.reduceEq, eq_self, reduceIte, pos]) rfl rfl rfl) ?_
        by_cases g1 : (20 : Int) < ((rcP lg ws e).2.length : Int)
        · have e1 : rcErr r lg ws e = 2 := by rw [e0, if_pos (by omega)]
          simp only [go_sem, Nat.reduceLT, Nat.reduceAdd, Nat.reduceEqDiff, Nat.reduceLeDiff, Nat.reduceSub, Nat.reduceMul, Int.reduceEq, eq_self, reduceIte, g1, cSi, cE]
          refine ret_pure hx ?_
          simp [go_sem, Nat.reduceLT, Nat.reduceAdd, Nat.reduceEqDiff, Nat.reduceLeDiff, Nat.reduceSub, Nat.reduceMul, Int.reduceEq, eq_self, reduceIte, L47, R47, rcSi, e1, h1, h2, cSi3, cSi, cE, frzAt, pos]
        · by_cases g2 : (40 : Int) < ((rcP lg ws e).1.length : Int)
          · have e1 : rcErr r lg ws e = 2 := by rw [e0, if_pos (by omega)]
            simp only [go_sem, Nat.reduceLT, Nat.reduceAdd, Nat.reduceEqDiff, Nat.reduceLeDiff, Nat.reduceSub, Nat.reduceMul, Int.reduceEq, eq_self, reduceIte, g1, g2, cSi, cE]
            refine ret_pure hx ?_
            simp [go_sem, Nat.reduceLT, Nat.reduceAdd, Nat.reduceEqDiff, Nat.reduceLeDiff, Nat.reduceSub, Nat.reduceMul, Int.reduceEq, eq_self, reduceIte, L47, R47, rcSi, e1, h1, h2, cSi3, cSi, cE, frzAt, pos]
          · have e1 : rcErr r lg ws e = 0 := by rw [e0, if_neg (by omega)]
            simp only [go_sem, Nat.reduceLT, Nat.reduceAdd, Nat.reduceEqDiff, Nat.reduceLeDiff, Nat.reduceSub, Nat.reduceMul, Int.reduceEq, eq_self, reduceIte, g1, g2, cSi, cE]
            refine ret_pure hx ?_
            simp [go_sem, Nat.reduceLT, Nat.reduceAdd, Nat.reduceEqDiff, Nat.reduceLeDiff, Nat.reduceSub, Nat.reduceMul, Int.reduceEq, eq_self, reduceIte, L47, R47, rcSi, e1, h1, h2, cSi3, cSi, cE, frzAt, pos]
def rcErrX (r : Int) (lg ws : List Entry) (e : Entry) : Int := if siErr r lg ws ≠ 0 then siErr r lg ws else if checkEntry e ≠ 0 then checkEntry e else rcErr r lg ws e
def rcSiX (r : Int) (lg ws : List Entry) (e : Entry) : Int × List Entry × List Entry := if siErr r lg ws ≠ 0 ∨ checkEntry e ≠ 0 then (0, [], []) else rcSi r lg ws e
set_option maxHeartbeats 1000000 in
theorem siReceive_meets (r : Int) (lg ws : List Entry) (e : Entry) (hl : lg.length ≤ 9223372036854775806) (hw : ws.length ≤ 9223372036854775806) :
    Meets Try.prog 25 [.agg (cSi r lg ws), .agg (cE e)] [] (.tup [.agg (cSi3 (rcSiX r lg ws e)), .int .i64 (rcErrX r lg ws e)]) [] := by
  refine Meets.of_walk Try.func25 Try.ntmps25 low25 res25 (by simp) fun x hx => ?_
  simp only [go_sem, Nat.reduceLT, Nat.reduceAdd, Nat.reduceEqDiff, Nat.reduceLeDiff, Nat.reduceSub, Nat.reduceMul, Int.reduceEq, eq_self, reduceIte, L25, R25, cSi, cE]
  refine ops_call (.pureE (siCheck_meets r lg ws hl hw) (by simp [go_sem, Nat.reduceLT, Nat.reduceAdd, Nat.reduceEqDiff, Nat.reduceLeDiff, Nat.reduceSub, Nat.reduceMul, Int.reduceEq, eq_self, reduceIte, cSi])) ?_
  by_cases h0 : siErr r lg ws = 0
  · obtain ⟨hr, hok, hw20, hch⟩ := siErr_ok h0
    have hlen := hok.len
    simp only [go_sem, Nat.reduceLT, Nat.reduceAdd, Nat.reduceEqDiff, Nat.reduceLeDiff, Nat.reduceSub, Nat.reduceMul, Int.reduceEq, eq_self, reduceIte, h0, cSi, cE]
    refine ops_call (.pureE (check_meets e) (by simp [go_sem, Nat.reduceLT, Nat.reduceAdd, Nat.reduceEqDiff, Nat.reduceLeDiff, Nat.reduceSub, Nat.reduceMul, Int.reduceEq, eq_self, reduceIte, cE])) ?_
    by_cases h1 : checkEntry e = 0
    · simp only [go_sem, Nat.reduceLT, Nat.reduceAdd, Nat.reduceEqDiff, Nat.reduceLeDiff, Nat.reduceSub, Nat.reduceMul, Int.reduceEq, eq_self, reduceIte, h1, cSi, cE]
      refine ops_call (.pureE (siRaw_meets r lg ws e (by omega) (by omega) (log_fit hok) (waits_fit fun k hk => (hch k hk).1) (siErr_up h0) (check_fit h1)) (by simp [go_sem, Nat.reduceLT, Nat.reduceAdd, Nat.reduceEqDiff, Nat.reduceLeDiff, Nat.reduceSub, Nat.reduceMul, Int.reduceEq, eq_self, reduceIte, cSi, cE])) ?_
      simp only [go_sem, Nat.reduceLT, Nat.reduceAdd, Nat.reduceEqDiff, Nat.reduceLeDiff, Nat.reduceSub, Nat.reduceMul, Int.reduceEq, eq_self, reduceIte, cSi3, cSi, cE]
      refine ret_pure hx ?_
      simp [go_sem, Nat.reduceLT, Nat.reduceAdd, Nat.reduceEqDiff, Nat.reduceLeDiff, Nat.reduceSub, Nat.reduceMul, Int.reduceEq, eq_self, reduceIte, L25, R25, rcSiX, rcErrX, h0, h1, cSi3, cSi]
    · simp only [go_sem, Nat.reduceLT, Nat.reduceAdd, Nat.reduceEqDiff, Nat.reduceLeDiff, Nat.reduceSub, Nat.reduceMul, Int.reduceEq, eq_self, reduceIte, h1, cSi, cE]
      refine ret_pure hx ?_
      simp [go_sem, Nat.reduceLT, Nat.reduceAdd, Nat.reduceEqDiff, Nat.reduceLeDiff, Nat.reduceSub, Nat.reduceMul, Int.reduceEq, eq_self, reduceIte, L25, R25, rcSiX, rcErrX, h0, h1, cSi3, cSi]
  · simp only [go_sem, Nat.reduceLT, Nat.reduceAdd, Nat.reduceEqDiff, Nat.reduceLeDiff, Nat.reduceSub, Nat.reduceMul, Int.reduceEq, eq_self, reduceIte, h0, cSi, cE]
    refine ret_pure hx ?_
    simp [go_sem, Nat.reduceLT, Nat.reduceAdd, Nat.reduceEqDiff, Nat.reduceLeDiff, Nat.reduceSub, Nat.reduceMul, Int.reduceEq, eq_self, reduceIte, L25, R25, rcSiX, rcErrX, h0, cSi3, cSi]
end Go.Proofs.Ytkibfciheifphaa
/- Sites, in the law text's words: IsReady, CheckSite, Settled: contracts. -/
namespace Go.Proofs.Ytkibfciheifphaa
set_option linter.unusedSimpArgs false
set_option linter.unusedVariables false
open Go.RowKit
end Go.Proofs.Ytkibfciheifphaa
/- Sites, in the law text's words: AppendOf, ReceiveOf, SameLog and SameSite at one thing twice, siteIs: contracts. -/
namespace Go.Proofs.Ytkibfciheifphaa
set_option linter.unusedSimpArgs false
set_option linter.unusedVariables false
open Go.RowKit
theorem sameLog_meets (l : List Entry) (hl : l.length ≤ 9223372036854775806) : Meets Try.prog 18 [.list (l.map cE), .list (l.map cE)] [] (.bool true) [] := by
  refine Meets.of_walk Try.func18 Try.ntmps18 low18 res18 (by simp) fun x hx => ?_
  simp only [go_sem, Nat.reduceLT, Nat.reduceAdd, Nat.reduceEqDiff, Nat.reduceLeDiff, Nat.reduceSub, Nat.reduceMul, Int.reduceEq, eq_self, reduceIte, L18, R18]
  refine loop_inv [0, 1, 5] 0 (fun n st => ∃ k : Nat, k + n = l.length ∧
    st = ⟨mkE .top [(0, .list (l.map cE)), (1, .list (l.map cE)), (5, .int .i64 k)], []⟩) l.length (by simp [hx]) (by simp) ?_ ?_
  · refine ⟨0, by omega, ?_⟩
    simp [trim_mk, go_sem, Nat.reduceLT, Nat.reduceAdd, Nat.reduceEqDiff, Nat.reduceLeDiff, Nat.reduceSub, Nat.reduceMul, Int.reduceEq, eq_self, reduceIte, subHeap, renObj, pos]
  · rintro n st ⟨k, hk, rfl⟩
    by_cases hlt : k < l.length
    · have hg : l[k]? = some (nth l k) := nth_get? _ _ hlt
      have wk := i64_up (k := k) (by omega)
      have hs : sameE (nth l k) (nth l k) = true := by simp [sameE]
      simp only [go_sem, Nat.reduceLT, Nat.reduceAdd, Nat.reduceEqDiff, Nat.reduceLeDiff, Nat.reduceSub, Nat.reduceMul, Int.reduceEq, eq_self, reduceIte, hlt, hg, cE]
      refine ops_call (.pureE (sameEntry_meets (nth l k) (nth l k)) (by simp [go_sem, Nat.reduceLT, Nat.reduceAdd, Nat.reduceEqDiff, Nat.reduceLeDiff, Nat.reduceSub, Nat.reduceMul, Int.reduceEq, eq_self, reduceIte, cE])) ?_
      rw [hs]
      simp only [go_sem, Nat.reduceLT, Nat.reduceAdd, Nat.reduceEqDiff, Nat.reduceLeDiff, Nat.reduceSub, Nat.reduceMul, Int.reduceEq, eq_self, reduceIte, wk]
      repeat refine ⟨rfl, ?_⟩
      refine ⟨by simp, n - 1, by omega, k + 1, by omega, ?_⟩
      simp [trim_mk, go_sem, Nat.reduceLT, Nat.reduceAdd, Nat.reduceEqDiff, Nat.reduceLeDiff, Nat.reduceSub, Nat.reduceMul, Int.reduceEq, eq_self, reduceIte, subHeap, renObj, pos]
    · simp only [go_sem, Nat.reduceLT, Nat.reduceAdd, Nat.reduceEqDiff, Nat.reduceLeDiff, Nat.reduceSub, Nat.reduceMul, Int.reduceEq, eq_self, reduceIte, hlt]
      refine ret_pure hx ?_
      simp [go_sem, Nat.reduceLT, Nat.reduceAdd, Nat.reduceEqDiff, Nat.reduceLeDiff, Nat.reduceSub, Nat.reduceMul, Int.reduceEq, eq_self, reduceIte, L18, R18]
end Go.Proofs.Ytkibfciheifphaa
/- Sites, in the law text's words: ReceiveOf: a contract. -/
namespace Go.Proofs.Ytkibfciheifphaa
set_option linter.unusedSimpArgs false
set_option linter.unusedVariables false
open Go.RowKit
theorem posE_spec {l : List Entry} (hu : upE l) (y : Id) : posE l y ≤ l.length ∧ (∀ k, k < posE l y → lessB (nth l k).id y = true) ∧ ∀ k, posE l y ≤ k → k < l.length → lessB (nth l k).id y = false := by
  have key : ∀ m, m ≤ l.length → ∃ i, i ≤ m ∧ (∀ k, k < i → lessB (nth l k).id y = true) ∧ ∀ k, i ≤ k → k < m → lessB (nth l k).id y = false := by
    intro m
    induction m with
    | zero => intro _; exact ⟨0, Nat.le_refl _, fun k h => by omega, fun k a b => by omega⟩
    | succ m ih =>
      intro hm
      by_cases h : lessB (nth l m).id y = true
      · refine ⟨m + 1, Nat.le_refl _, fun k hk => ?_, fun k a b => by omega⟩
        by_cases e : k = m
        · subst e; exact h
        · exact lessB_trans (hu k m (by omega) (by omega)) h
      · obtain ⟨i, h1, h2, h3⟩ := ih (by omega)
        refine ⟨i, by omega, h2, fun k a b => ?_⟩
        by_cases e : k = m
        · subst e; simpa using h
        · exact h3 k a (by omega)
  obtain ⟨i, h1, h2, h3⟩ := key l.length (Nat.le_refl _)
  rw [posE_at h1 h2 h3]
  exact ⟨h1, h2, h3⟩
theorem findE_not {l : List Entry} {y : Id} (h : ¬ 0 ≤ findE l y) : ∀ e ∈ l, e.id ≠ y := fun e he h2 => by
  have := idxF_any (fun e : Entry => decide (e.id = y)) l
  rw [show idxF (fun e : Entry => decide (e.id = y)) l 0 = findE l y from rfl, decide_eq_false h] at this
  have h3 := List.any_eq_false.1 this.symm e he
  simp [h2] at h3
theorem takeE_succ {l : List Entry} {k : Nat} (h : k < l.length) : l.take (k + 1) = l.take k ++ [nth l k] := by rw [List.take_succ_eq_append_getElem h, nth_eq _ _ h]
end Go.Proofs.Ytkibfciheifphaa
/- Bytes of entries: what is written is read as it was, and what is read is written as it was. No program in sight. -/
namespace Go.Proofs.Ytkibfciheifphaa
open Go.RowKit
theorem bytV_toNat {n : Int} (h0 : 0 ≤ n) (h1 : n < 256) : ((byt n).toNat : Int) = n := by
  have e : n % 256 = n := Int.emod_eq_of_lt h0 h1
  simp only [byt, e, UInt8.toNat_ofNat']
  omega
theorem bytV_small {n : Int} (h0 : 0 ≤ n) (h1 : n ≤ 1) : ¬ 1 < byt n := by
  rw [UInt8.lt_iff_toNat_lt]
  have := bytV_toNat h0 (show n < 256 by omega)
  have e : (1 : UInt8).toNat = 1 := rfl
  omega
theorem okId_bounds {x : Id} (h : okId x = true) : 0 ≤ x.r ∧ x.r ≤ 1 ∧ 1 ≤ x.n ∧ x.n ≤ 20 := by
  simp only [okId, Bool.and_eq_true, wthn_iff] at h
  omega
theorem rdId_idL {x : Id} (h : okId x = true) (r : List UInt8) : rdId (idL x ++ r) = .ok (x, r) := by
  obtain ⟨h1, h2, h3, h4⟩ := okId_bounds h
  simp only [idL, List.cons_append, List.nil_append, rdId, bytV_small h1 h2, if_false, bytV_toNat h1 (show x.r < 256 by omega), bytV_toNat (show 0 ≤ x.n by omega) (show x.n < 256 by omega)]
theorem rdIds_flat : ∀ {l : List Id}, (∀ x ∈ l, okId x = true) → ∀ r, rdIds l.length (l.flatMap idL ++ r) = .ok (l, r)
  | [], _, r => rfl
  | x :: l, h, r => by
    simp only [List.flatMap_cons, List.length_cons, rdIds, List.append_assoc]
    have ih := rdIds_flat (l := l) (fun y hy => h y (by simp [hy])) r
    simp only [rdId_idL (h x (by simp)), ih]
theorem link_ok {e : Id} {ls : List Id} (h : firstNZ (linkErr e ls) ls.length = 0) : ∀ x ∈ ls, okId x = true := by
  intro x hx
  obtain ⟨k, hk, rfl⟩ := List.getElem_of_mem hx
  have := firstNZ_zero.1 h k hk
  rw [← nth_eq ls k hk]
  cases h5 : okId (nth ls k) with
  | true => rfl
  | false => simp [linkErr, h5] at this
theorem rdEntry_enc {e : Entry} (h : checkEntry e = 0) (s : List UInt8) : rdEntry (encL e ++ s) = .ok (e, s) := by
  obtain ⟨h1, h2, h3, h4, h5⟩ := check_ok_bounds h
  obtain ⟨b1, b2, b3, b4⟩ := okId_bounds h1
  rw [wthn_iff] at h2
  have e1 : encL e ++ s = idL e.id ++ (byt e.c :: byt e.ls.length :: (e.ls.flatMap idL ++ (byt e.t.size :: (e.t.data.toList ++ s)))) := by simp [encL, headL, idL]
  rw [e1, rdEntry, rdId_idL h1]
  have e2 : (byt e.ls.length).toNat = e.ls.length := by have := bytV_toNat (show (0 : Int) ≤ (e.ls.length : Int) by omega) (by omega); omega
  have e3 : (byt e.t.size).toNat = e.t.size := by have := bytV_toNat (show (0 : Int) ≤ (e.t.size : Int) by omega) (by omega); omega
  have e4 : e.t.size = e.t.data.toList.length := by show e.t.data.size = _; simp
  simp only [e2, rdIds_flat (link_ok h5), rdTail, e3, bytV_toNat (show 0 ≤ e.c by omega) (show e.c < 256 by omega)]
  rw [if_neg (by rw [e4]; simp), e4, List.take_left, List.drop_left, BA_data]
theorem encL_len (e : Entry) : (encL e).length = 5 + 2 * e.ls.length + e.t.size := by
  have : encL e = preL e e.ls.length ++ (byt e.t.size :: e.t.data.toList) := by simp [encL, preL]
  rw [this, List.length_append, preL_len e _ (Nat.le_refl _)]
  have e4 : e.t.size = e.t.data.toList.length := by show e.t.data.size = _; simp
  rw [List.length_cons, ← e4]; omega
theorem decOut_enc {e : Entry} (h : checkEntry e = 0) (s : List UInt8) : decOut (encL e ++ s) = (e, ((encL e).length : Int), 0) := by
  simp only [decOut, toldOut, rdEntry_enc h, h, if_true, List.length_append]
  simp
end Go.Proofs.Ytkibfciheifphaa
/- Packets: Encode, CheckEntries, PacketBytes, PacketOf, logIs: contracts. -/
namespace Go.Proofs.Ytkibfciheifphaa
set_option linter.unusedSimpArgs false
set_option linter.unusedVariables false
open Go.RowKit
def pkErr (l : List Entry) : Int := if 40 < l.length then 2 else firstNZ (fun k => checkEntry (nth l k)) l.length
def pkB (l : List Entry) : List UInt8 := l.flatMap encL
theorem pkB_take {l : List Entry} {k : Nat} (h : k < l.length) : pkB (l.take (k + 1)) = pkB (l.take k) ++ encL (nth l k) := by
  rw [takeE_succ h]; simp [pkB]
theorem encL_le {e : Entry} (h : checkEntry e = 0) : (encL e).length ≤ 29 := by
  rw [encL_len]
  have := check_ok_bounds h
  omega
theorem pkB_len (l : List Entry) (h : ∀ e ∈ l, checkEntry e = 0) : (pkB l).length ≤ 29 * l.length := by
  induction l with
  | nil => simp [pkB]
  | cons e l ih =>
    have h1 := encL_le (h e List.mem_cons_self)
    have h2 := ih fun x hx => h x (List.mem_cons_of_mem _ hx)
    simp only [pkB, List.flatMap_cons, List.length_append, List.length_cons] at h2 ⊢
    omega
theorem pk_chk {l : List Entry} {k : Nat} (hk : k ≤ l.length) (hz : firstNZ (fun k => checkEntry (nth l k)) k = 0) : ∀ e ∈ l.take k, checkEntry e = 0 := fun e he => by
  rw [List.mem_take_iff_getElem] at he
  obtain ⟨j, hj, rfl⟩ := he
  have := firstNZ_zero.1 hz j (by omega)
  rwa [nth_eq _ _ (by omega)] at this
theorem entBytes_meets (e : Entry) (ht : e.t.size ≤ 12) (h6 : e.ls.length ≤ 6) : Meets Try.prog 27 [.agg (cE e)] [] (.str (BA (encL e))) [] := by
  intro x vs hx hr hp
  obtain ⟨hlen, hp0⟩ := hp
  obtain ⟨v, rfl, hv⟩ : ∃ v, vs = #[v] ∧ RepV (Stab x x.C0 [] x.w0) x.w0 x.C0 (.agg (cE e)) v := by
    cases vs with
    | mk l =>
      match l, hlen with
      | [v], _ => exact ⟨v, rfl, hp0 0 _ v rfl rfl⟩
  obtain ⟨us, rfl, h1, -, h2⟩ := hv.agg_inv
  match us, h1 with
  | [a, b, c, d, lv], _ =>
    have ea := (h2 0 _ a rfl rfl).int_inv
    have eb := (h2 1 _ b rfl rfl).int_inv
    have ec := (h2 2 _ c rfl rfl).int_inv
    have ed := (h2 3 _ d rfl rfl).str_inv
    subst ea; subst eb; subst ec; subst ed
    have hl := rep_ids (fun b o h => h.2.1) (h2 4 _ lv rfl rfl).list_inv
    refine (bytes_calls _ e lv x.w0 hl ht h6).mono fun en w' ⟨he, hb⟩ => ?_
    subst he
    have hstep : Step x.w0 w' fun _ => False := ⟨hb.size, hb.os, hb.tape, hb.output, fun b h _ => hb.block b h⟩
    obtain ⟨k1, -, -⟩ := hr.grow hstep
    exact ⟨_, x.C0, rfl, k1, .pure (.str _)⟩
set_option maxHeartbeats 1000000 in
theorem pkEncode_meets (l : List Entry) (hl : l.length ≤ 1000000000000000) : Meets Try.prog 7 [.list (l.map cE)] [] (.tup [.str (BA (if pkErr l = 0 then pkB l else [])), .int .i64 (pkErr l)]) [] := by
  refine Meets.of_walk Try.func7 Try.ntmps7 low7 res7 (by simp) fun x hx => ?_
  by_cases h40 : (40 : Int) < (l.length : Int)
  · have e : pkErr l = 2 := by rw [pkErr, if_pos (by omega)]
    simp only [go_sem, Nat.reduceLT, Nat.reduceAdd, Nat.reduceEqDiff, Nat.reduceLeDiff, Nat.reduceSub, Nat.reduceMul, Int.reduceEq, eq_self, reduceIte, L7, R7, h40]
    refine ret_pure hx ?_
    simp [go_sem, Nat.reduceLT, Nat.reduceAdd, Nat.reduceEqDiff, Nat.reduceLeDiff, Nat.reduceSub, Nat.reduceMul, Int.reduceEq, eq_self, reduceIte, L7, R7, e, BA]
  · have e : pkErr l = firstNZ (fun k => checkEntry (nth l k)) l.length := by rw [pkErr, if_neg (by omega)]
    simp only [go_sem, Nat.reduceLT, Nat.reduceAdd, Nat.reduceEqDiff, Nat.reduceLeDiff, Nat.reduceSub, Nat.reduceMul, Int.reduceEq, eq_self, reduceIte, L7, R7, h40]
    refine loop_inv [4, 11, 12, 13] 0 (fun m st => ∃ k : Nat, k + m = l.length ∧ firstNZ (fun k => checkEntry (nth l k)) k = 0 ∧
      st = ⟨mkE .top [(4, .str (BA (pkB (l.take k)))), (11, .list (l.map cE)), (12, .int .i64 l.length), (13, .int .i64 k)], []⟩) l.length (by simp [hx]) (by simp) ?_ ?_
    · refine ⟨0, by omega, rfl, ?_⟩
      simp [trim_mk, go_sem, Nat.reduceLT, Nat.reduceAdd, Nat.reduceEqDiff, Nat.reduceLeDiff, Nat.reduceSub, Nat.reduceMul, Int.reduceEq, eq_self, reduceIte, subHeap, renObj, pos, List.range_succ, pkB, BA]
    · rintro m st ⟨k, hk, hz, rfl⟩
      by_cases hlt : k < l.length
      · have hg : l[k]? = some (nth l k) := nth_get? _ _ hlt
        have wk := i64_up (k := k) (by omega)
        simp only [go_sem, Nat.reduceLT, Nat.reduceAdd, Nat.reduceEqDiff, Nat.reduceLeDiff, Nat.reduceSub, Nat.reduceMul, Int.reduceEq, eq_self, reduceIte, hlt, hg, cE]
        refine ops_call (.pureE (check_meets (nth l k)) (by simp [go_sem, Nat.reduceLT, Nat.reduceAdd, Nat.reduceEqDiff, Nat.reduceLeDiff, Nat.reduceSub, Nat.reduceMul, Int.reduceEq, eq_self, reduceIte, cE])) ?_
        by_cases h1 : checkEntry (nth l k) = 0
        · have hb := check_ok_bounds h1
          have hp := pkB_len _ (pk_chk (by omega) hz)
          have hle := encL_le h1
          have htl : (l.take k).length = k := by rw [List.length_take]; omega
          rw [htl] at hp
          have hsz : ((pkB (l.take k)).length + (encL (nth l k)).length ≤ 4611686018427387904) = True := eq_true (by omega)
          simp only [go_sem, Nat.reduceLT, Nat.reduceAdd, Nat.reduceEqDiff, Nat.reduceLeDiff, Nat.reduceSub, Nat.reduceMul, Int.reduceEq, eq_self, reduceIte, h1, cE]
          refine ops_call (.pureE (entBytes_meets (nth l k) (by omega) (by omega)) (by simp [go_sem, Nat.reduceLT, Nat.reduceAdd, Nat.reduceEqDiff, Nat.reduceLeDiff, Nat.reduceSub, Nat.reduceMul, Int.reduceEq, eq_self, reduceIte, cE])) ?_
          simp only [go_sem, Nat.reduceLT, Nat.reduceAdd, Nat.reduceEqDiff, Nat.reduceLeDiff, Nat.reduceSub, Nat.reduceMul, Int.reduceEq, eq_self, reduceIte, BA_app, BA_size, hsz, wk]
          refine ⟨by simp, m - 1, by omega, k + 1, by omega, firstNZ_succ hz h1, ?_⟩
          simp [trim_mk, go_sem, Nat.reduceLT, Nat.reduceAdd, Nat.reduceEqDiff, Nat.reduceLeDiff, Nat.reduceSub, Nat.reduceMul, Int.reduceEq, eq_self, reduceIte, subHeap, renObj, pos, List.range_succ, pkB_take hlt]
        · have e2 : pkErr l = checkEntry (nth l k) := by rw [e, firstNZ_hit hz h1 hlt]
          simp only [go_sem, Nat.reduceLT, Nat.reduceAdd, Nat.reduceEqDiff, Nat.reduceLeDiff, Nat.reduceSub, Nat.reduceMul, Int.reduceEq, eq_self, reduceIte, h1]
          refine ret_pure hx ?_
          simp [go_sem, Nat.reduceLT, Nat.reduceAdd, Nat.reduceEqDiff, Nat.reduceLeDiff, Nat.reduceSub, Nat.reduceMul, Int.reduceEq, eq_self, reduceIte, L7, R7, e2, h1, BA]
      · obtain rfl : k = l.length := by omega
        simp only [go_sem, Nat.reduceLT, Nat.reduceAdd, Nat.reduceEqDiff, Nat.reduceLeDiff, Nat.reduceSub, Nat.reduceMul, Int.reduceEq, eq_self, reduceIte, hlt]
        refine ret_pure hx ?_
        simp [go_sem, Nat.reduceLT, Nat.reduceAdd, Nat.reduceEqDiff, Nat.reduceLeDiff, Nat.reduceSub, Nat.reduceMul, Int.reduceEq, eq_self, reduceIte, L7, R7, e, hz]
end Go.Proofs.Ytkibfciheifphaa
/- Packets: PacketOf, Missing, MissingOf: contracts. -/
namespace Go.Proofs.Ytkibfciheifphaa
set_option linter.unusedSimpArgs false
set_option linter.unusedVariables false
open Go.RowKit
def misL (l : List Entry) (v0 v1 : Int) : List Entry := l.filter fun e => !inB v0 v1 e.id
theorem misL_take {l : List Entry} {v0 v1 : Int} {k : Nat} (h : k < l.length) : misL (l.take (k + 1)) v0 v1 = misL (l.take k) v0 v1 ++ if inB v0 v1 (nth l k).id then [] else [nth l k] := by
  rw [takeE_succ h, misL, List.filter_append]
  cases hb : inB v0 v1 (nth l k).id <;> simp [misL, hb]
theorem misL_len (l : List Entry) (v0 v1 : Int) : (misL l v0 v1).length ≤ l.length := List.length_filter_le _ _
def hM (v0 v1 : Int) (v : Nat) (es : List Entry) : List AObj := [.box [.int .i64 v0, .int .i64 v1], .box [.arr 2 v], .arr v true false 44 5 (es.map cE)]
theorem restF_meets (v0 v1 : Int) (v : Nat) (es : List Entry) (e : Entry) (hr : e.id.r = 0 ∨ e.id.r = 1) (hls : e.ls.length ≤ 1000000) (hl : es.length ≤ 1000000) :
    Meets Try.prog 54 [.agg (cE e), .ptr 0 0, .ptr 1 0] (hM v0 v1 v es) (.tup []) (hM v0 v1 (if inB v0 v1 e.id then v else v + 1) (es ++ if inB v0 v1 e.id then [] else [e])) := by
  refine Meets.of_walk Try.func54 Try.ntmps54 low54 res54 (by simp) fun x hx => ?_
  simp only [go_sem, Nat.reduceLT, Nat.reduceAdd, Nat.reduceEqDiff, Nat.reduceLeDiff, Nat.reduceSub, Nat.reduceMul, Int.reduceEq, eq_self, reduceIte, L54, R54, hM, cE]
  refine ops_call (.pureE (holds_meets v0 v1 e.id hr) (by simp [go_sem, Nat.reduceLT, Nat.reduceAdd, Nat.reduceEqDiff, Nat.reduceLeDiff, Nat.reduceSub, Nat.reduceMul, Int.reduceEq, eq_self, reduceIte, cId])) ?_
  cases hb : inB v0 v1 e.id
  · simp only [go_sem, Nat.reduceLT, Nat.reduceAdd, Nat.reduceEqDiff, Nat.reduceLeDiff, Nat.reduceSub, Nat.reduceMul, Int.reduceEq, eq_self, reduceIte, cE]
    refine ops_call (.pureE (entOwn_meets e hls) (by simp [go_sem, Nat.reduceLT, Nat.reduceAdd, Nat.reduceEqDiff, Nat.reduceLeDiff, Nat.reduceSub, Nat.reduceMul, Int.reduceEq, eq_self, reduceIte, cE])) ?_
    simp only [go_sem, Nat.reduceLT, Nat.reduceAdd, Nat.reduceEqDiff, Nat.reduceLeDiff, Nat.reduceSub, Nat.reduceMul, Int.reduceEq, eq_self, reduceIte, cE]
    rw [app_arr rfl rfl (by simp) (by simp; omega)]
    simp only [go_sem, Nat.reduceLT, Nat.reduceAdd, Nat.reduceEqDiff, Nat.reduceLeDiff, Nat.reduceSub, Nat.reduceMul, Int.reduceEq, eq_self, reduceIte]
    repeat refine ⟨rfl, ?_⟩
    try simp only [go_sem, Nat.reduceLT, Nat.reduceAdd, Nat.reduceEqDiff, Nat.reduceLeDiff, Nat.reduceSub, Nat.reduceMul, Int.reduceEq, eq_self, reduceIte]
    refine end_keep [] (by simp) (by simp) (by simp [hx, hM]) ?_ ?_
    · simp [go_sem, Nat.reduceLT, Nat.reduceAdd, Nat.reduceEqDiff, Nat.reduceLeDiff, Nat.reduceSub, Nat.reduceMul, Int.reduceEq, eq_self, reduceIte, L54, R54, hx, pos, hM]
    · simp [subHeap, renObj, renCell, renLeaf, hx, pos, go_sem, Nat.reduceLT, Nat.reduceAdd, Nat.reduceEqDiff, Nat.reduceLeDiff, Nat.reduceSub, Nat.reduceMul, Int.reduceEq, eq_self, reduceIte, hM, List.range_succ, cE]
  · simp only [go_sem, Nat.reduceLT, Nat.reduceAdd, Nat.reduceEqDiff, Nat.reduceLeDiff, Nat.reduceSub, Nat.reduceMul, Int.reduceEq, eq_self, reduceIte]
    refine end_keep [] (by simp) (by simp) (by simp [hx, hM]) ?_ ?_
    · simp [go_sem, Nat.reduceLT, Nat.reduceAdd, Nat.reduceEqDiff, Nat.reduceLeDiff, Nat.reduceSub, Nat.reduceMul, Int.reduceEq, eq_self, reduceIte, L54, R54, hx, pos, hM]
    · simp [subHeap, renObj, renCell, renLeaf, hx, pos, go_sem, Nat.reduceLT, Nat.reduceAdd, Nat.reduceEqDiff, Nat.reduceLeDiff, Nat.reduceSub, Nat.reduceMul, Int.reduceEq, eq_self, reduceIte, hM, List.range_succ]
set_option maxHeartbeats 1000000 in
theorem rest_meets (l : List Entry) (v0 v1 : Int) (hl : l.length ≤ 1000000) (h : fitE l) : Meets Try.prog 30 [.list (l.map cE), .agg [.int .i64 v0, .int .i64 v1]] [] (.list ((misL l v0 v1).map cE)) [] := by
  refine Meets.of_walk Try.func30 Try.ntmps30 low30 res30 (by simp) fun x hx => ?_
  simp only [go_sem, Nat.reduceLT, Nat.reduceAdd, Nat.reduceEqDiff, Nat.reduceLeDiff, Nat.reduceSub, Nat.reduceMul, Int.reduceEq, eq_self, reduceIte, L30, R30]
  refine W_weak (weak_ownc 1 0 0 44 5 true false rfl rfl (by omega)) ?_
  refine loop_inv [5, 6, 10, 11, 12] 3 (fun m st => ∃ k v : Nat, k + m = l.length ∧
    st = ⟨mkE .top [(5, .ptr 1 0), (6, .clo 54 [.ptr 0 0, .ptr 1 0]), (10, .list (l.map cE)), (11, .int .i64 l.length), (12, .int .i64 k)], hM v0 v1 v (misL (l.take k) v0 v1)⟩) l.length (by simp [hx]) (by simp) ?_ ?_
  · refine ⟨0, 0, by omega, ?_⟩
    simp [trim_mk, go_sem, Nat.reduceLT, Nat.reduceAdd, Nat.reduceEqDiff, Nat.reduceLeDiff, Nat.reduceSub, Nat.reduceMul, Int.reduceEq, eq_self, reduceIte, subHeap, renObj, renCell, renLeaf, pos, List.range_succ, misL, hM, renT, ren]
  · rintro m st ⟨k, v, hk, rfl⟩
    by_cases hlt : k < l.length
    · have hg : l[k]? = some (nth l k) := nth_get? _ _ hlt
      have wk := i64_up (k := k) (by omega)
      have hs := misL_take (v0 := v0) (v1 := v1) hlt
      have hle := misL_len (l.take k) v0 v1
      have htl : (l.take k).length ≤ k := by rw [List.length_take]; omega
      have hf := h _ (nthM hlt)
      have hcall := restF_meets v0 v1 v (misL (l.take k) v0 v1) (nth l k) hf.1 hf.2 (by omega)
      rw [show misL (l.take k) v0 v1 ++ (if inB v0 v1 (nth l k).id then [] else [nth l k]) = misL (l.take (k + 1)) v0 v1 from hs.symm] at hcall
      generalize (if inB v0 v1 (nth l k).id then v else v + 1) = v' at hcall
      simp only [go_sem, Nat.reduceLT, Nat.reduceAdd, Nat.reduceEqDiff, Nat.reduceLeDiff, Nat.reduceSub, Nat.reduceMul, Int.reduceEq, eq_self, reduceIte, hlt, hg, cE, hM]
      refine ops_callv rfl (by kernel_rfl) (.heapE [0, 1, 2] (r' := .tup []) (H' := hM v0 v1 v' (misL (l.take (k + 1)) v0 v1) ++ [.box (cE (nth l k))]) hcall (by simp) (by simp) (by simp [go_sem, Nat.reduceLT, Nat.reduceAdd, Nat.reduceEqDiff, Nat.reduceLeDiff, Nat.reduceSub, Nat.reduceMul, Int.reduceEq, eq_self, reduceIte, pos, cE]) ?_ ?_ ?_) ?_
      · simp [subHeap, renObj, renCell, renLeaf, pos, hM]
      · simp [renT, ren]
      · simp [merge, mergeObj, callId, backF, backId, renObj, renCell, renLeaf, pos, List.range_succ, hM, cE]
      simp only [go_sem, Nat.reduceLT, Nat.reduceAdd, Nat.reduceEqDiff, Nat.reduceLeDiff, Nat.reduceSub, Nat.reduceMul, Int.reduceEq, eq_self, reduceIte, hM, wk, List.cons_append, List.nil_append]
      refine ⟨by simp, m - 1, by omega, k + 1, v', by omega, ?_⟩
      simp [trim_mk, go_sem, Nat.reduceLT, Nat.reduceAdd, Nat.reduceEqDiff, Nat.reduceLeDiff, Nat.reduceSub, Nat.reduceMul, Int.reduceEq, eq_self, reduceIte, subHeap, renObj, renCell, renLeaf, pos, List.range_succ, hM, renT, ren]
    · have htk : l.take k = l := List.take_of_length_le (by omega)
      rw [htk]
      simp only [go_sem, Nat.reduceLT, Nat.reduceAdd, Nat.reduceEqDiff, Nat.reduceLeDiff, Nat.reduceSub, Nat.reduceMul, Int.reduceEq, eq_self, reduceIte, hlt, hM]
      refine ret_weak (weak_shut 2 rfl) ?_
      refine ret_pure hx ?_
      simp [go_sem, Nat.reduceLT, Nat.reduceAdd, Nat.reduceEqDiff, Nat.reduceLeDiff, Nat.reduceSub, Nat.reduceMul, Int.reduceEq, eq_self, reduceIte, L30, R30, frzAt, pos]
def misErr (l : List Entry) (v0 v1 : Int) : Int := if checkLog l = 0 then vErr v0 v1 else checkLog l
theorem missing_meets (l : List Entry) (v0 v1 : Int) (hl : l.length ≤ 1000000000000000) : Meets Try.prog 9 [.list (l.map cE), .agg [.int .i64 v0, .int .i64 v1]] [] (.tup [.list ((if misErr l v0 v1 = 0 then misL l v0 v1 else []).map cE), .int .i64 (misErr l v0 v1)]) [] := by
  refine Meets.of_walk Try.func9 Try.ntmps9 low9 res9 (by simp) fun x hx => ?_
  simp only [go_sem, Nat.reduceLT, Nat.reduceAdd, Nat.reduceEqDiff, Nat.reduceLeDiff, Nat.reduceSub, Nat.reduceMul, Int.reduceEq, eq_self, reduceIte, L9, R9]
  refine ops_call (.pureE (dagCheck_meets l (by omega)) (by simp [go_sem, Nat.reduceLT, Nat.reduceAdd, Nat.reduceEqDiff, Nat.reduceLeDiff, Nat.reduceSub, Nat.reduceMul, Int.reduceEq, eq_self, reduceIte])) ?_
  by_cases h1 : checkLog l = 0
  · have hok := log_ok.1 h1
    have hlen := hok.len
    simp only [go_sem, Nat.reduceLT, Nat.reduceAdd, Nat.reduceEqDiff, Nat.reduceLeDiff, Nat.reduceSub, Nat.reduceMul, Int.reduceEq, eq_self, reduceIte, h1]
    refine ops_call (.pureE (vecCheck_meets v0 v1) (by simp [go_sem, Nat.reduceLT, Nat.reduceAdd, Nat.reduceEqDiff, Nat.reduceLeDiff, Nat.reduceSub, Nat.reduceMul, Int.reduceEq, eq_self, reduceIte])) ?_
    have e : misErr l v0 v1 = vErr v0 v1 := by rw [misErr, if_pos h1]
    by_cases h2 : vErr v0 v1 = 0
    · simp only [go_sem, Nat.reduceLT, Nat.reduceAdd, Nat.reduceEqDiff, Nat.reduceLeDiff, Nat.reduceSub, Nat.reduceMul, Int.reduceEq, eq_self, reduceIte, h2]
      refine ops_call (.pureE (rest_meets l v0 v1 (by omega) (log_fit hok)) (by simp [go_sem, Nat.reduceLT, Nat.reduceAdd, Nat.reduceEqDiff, Nat.reduceLeDiff, Nat.reduceSub, Nat.reduceMul, Int.reduceEq, eq_self, reduceIte])) ?_
      simp only [go_sem, Nat.reduceLT, Nat.reduceAdd, Nat.reduceEqDiff, Nat.reduceLeDiff, Nat.reduceSub, Nat.reduceMul, Int.reduceEq, eq_self, reduceIte]
      refine ret_pure hx ?_
      simp [go_sem, Nat.reduceLT, Nat.reduceAdd, Nat.reduceEqDiff, Nat.reduceLeDiff, Nat.reduceSub, Nat.reduceMul, Int.reduceEq, eq_self, reduceIte, L9, R9, e, h2]
    · simp only [go_sem, Nat.reduceLT, Nat.reduceAdd, Nat.reduceEqDiff, Nat.reduceLeDiff, Nat.reduceSub, Nat.reduceMul, Int.reduceEq, eq_self, reduceIte, h2]
      refine ret_pure hx ?_
      simp [go_sem, Nat.reduceLT, Nat.reduceAdd, Nat.reduceEqDiff, Nat.reduceLeDiff, Nat.reduceSub, Nat.reduceMul, Int.reduceEq, eq_self, reduceIte, L9, R9, e, h2]
  · have e : misErr l v0 v1 = checkLog l := by rw [misErr, if_neg h1]
    simp only [go_sem, Nat.reduceLT, Nat.reduceAdd, Nat.reduceEqDiff, Nat.reduceLeDiff, Nat.reduceSub, Nat.reduceMul, Int.reduceEq, eq_self, reduceIte, h1]
    refine ret_pure hx ?_
    simp [go_sem, Nat.reduceLT, Nat.reduceAdd, Nat.reduceEqDiff, Nat.reduceLeDiff, Nat.reduceSub, Nat.reduceMul, Int.reduceEq, eq_self, reduceIte, L9, R9, e, h1]
end Go.Proofs.Ytkibfciheifphaa
/- What must be in any case of logs; DagTells, as a contract. -/
namespace Go.Proofs.Ytkibfciheifphaa
set_option linter.unusedSimpArgs false
set_option linter.unusedVariables false
open Go.RowKit
def eL : List Entry := [e0, e1, e2, e3]
theorem eL_check : checkLog eL = 0 := by decide +kernel
theorem eL_ok : LogOk eL := log_ok.1 eL_check
theorem eL_past : pastIds eL ⟨1, 2⟩ = [⟨0, 1⟩, ⟨0, 2⟩, ⟨1, 1⟩] := by
  have hp : pastErr eL ⟨1, 2⟩ = 0 := by decide +kernel
  have hf : (findE eL ⟨1, 2⟩).toNat = 3 := by decide +kernel
  rw [pastIds, if_pos hp, hf, ← rising_past eL_ok (by decide)]
  decide +kernel
theorem eL_heads : headsIds eL 1 = [⟨0, 2⟩, ⟨1, 1⟩] := by
  have hp : headsErr eL 1 = 0 := by decide +kernel
  rw [headsIds, if_pos hp, ← heads_eq eL_ok]
  decide +kernel
theorem eL_rows : [cE e0, cE e1, cE e2, cE e3] = eL.map cE := rfl
theorem dagBegun_meets : Meets Try.prog 19 [] [] (.bool true) [] := by
  have hp : pastErr eL ⟨1, 2⟩ = 0 := by decide +kernel
  have hq : headsErr eL 1 = 0 := by decide +kernel
  have hc0 : countR eL 0 = 2 := by decide +kernel
  have hc1 : countR eL 1 = 2 := by decide +kernel
  have hpi := eL_past
  have hhi := eL_heads
  have hck := eL_check
  have hent := entries_meets
  rw [eL_rows] at hent
  refine Meets.of_walk Try.func19 Try.ntmps19 low19 res19 (by simp) fun x hx => ?_
  simp only [go_sem, Nat.reduceLT, Nat.reduceAdd, Nat.reduceEqDiff, Nat.reduceLeDiff, Nat.reduceSub, Nat.reduceMul, Int.reduceEq, eq_self, reduceIte, L19, R19]
  refine ops_call (.pure hent) ?_
  simp only [go_sem, Nat.reduceLT, Nat.reduceAdd, Nat.reduceEqDiff, Nat.reduceLeDiff, Nat.reduceSub, Nat.reduceMul, Int.reduceEq, eq_self, reduceIte]
  refine ops_call (.pure (lawId_meets _ _)) ?_
  simp only [go_sem, Nat.reduceLT, Nat.reduceAdd, Nat.reduceEqDiff, Nat.reduceLeDiff, Nat.reduceSub, Nat.reduceMul, Int.reduceEq, eq_self, reduceIte]
  refine ops_call (.pureE (dagPast_meets eL ⟨1, 2⟩ (by decide)) (by simp [go_sem, Nat.reduceLT, Nat.reduceAdd, Nat.reduceEqDiff, Nat.reduceLeDiff, Nat.reduceSub, Nat.reduceMul, Int.reduceEq, eq_self, reduceIte, cId])) ?_
  simp only [go_sem, Nat.reduceLT, Nat.reduceAdd, Nat.reduceEqDiff, Nat.reduceLeDiff, Nat.reduceSub, Nat.reduceMul, Int.reduceEq, eq_self, reduceIte, hp, hpi]
  refine ops_call (.pure hent) ?_
  simp only [go_sem, Nat.reduceLT, Nat.reduceAdd, Nat.reduceEqDiff, Nat.reduceLeDiff, Nat.reduceSub, Nat.reduceMul, Int.reduceEq, eq_self, reduceIte]
  refine ops_call (.pureE (dagHeads_meets eL 1 (by decide)) (by simp [go_sem, Nat.reduceLT, Nat.reduceAdd, Nat.reduceEqDiff, Nat.reduceLeDiff, Nat.reduceSub, Nat.reduceMul, Int.reduceEq, eq_self, reduceIte])) ?_
  simp only [go_sem, Nat.reduceLT, Nat.reduceAdd, Nat.reduceEqDiff, Nat.reduceLeDiff, Nat.reduceSub, Nat.reduceMul, Int.reduceEq, eq_self, reduceIte, hq, hhi]
  refine ops_call (.pure hent) ?_
  simp only [go_sem, Nat.reduceLT, Nat.reduceAdd, Nat.reduceEqDiff, Nat.reduceLeDiff, Nat.reduceSub, Nat.reduceMul, Int.reduceEq, eq_self, reduceIte]
  refine ops_call (.pureE (dagCount_meets eL (by decide)) (by simp [go_sem, Nat.reduceLT, Nat.reduceAdd, Nat.reduceEqDiff, Nat.reduceLeDiff, Nat.reduceSub, Nat.reduceMul, Int.reduceEq, eq_self, reduceIte])) ?_
  simp only [go_sem, Nat.reduceLT, Nat.reduceAdd, Nat.reduceEqDiff, Nat.reduceLeDiff, Nat.reduceSub, Nat.reduceMul, Int.reduceEq, eq_self, reduceIte, hck, hc0, hc1]
  refine ops_call (.pure hent) ?_
  simp only [go_sem, Nat.reduceLT, Nat.reduceAdd, Nat.reduceEqDiff, Nat.reduceLeDiff, Nat.reduceSub, Nat.reduceMul, Int.reduceEq, eq_self, reduceIte]
  refine ops_call (.pureE (dagCheck_meets eL (by decide)) (by simp [go_sem, Nat.reduceLT, Nat.reduceAdd, Nat.reduceEqDiff, Nat.reduceLeDiff, Nat.reduceSub, Nat.reduceMul, Int.reduceEq, eq_self, reduceIte])) ?_
  simp only [go_sem, Nat.reduceLT, Nat.reduceAdd, Nat.reduceEqDiff, Nat.reduceLeDiff, Nat.reduceSub, Nat.reduceMul, Int.reduceEq, eq_self, reduceIte, hck]
  iterate 3
    refine ops_call (.pure (lawId_meets _ _)) ?_
    simp only [go_sem, Nat.reduceLT, Nat.reduceAdd, Nat.reduceEqDiff, Nat.reduceLeDiff, Nat.reduceSub, Nat.reduceMul, Int.reduceEq, eq_self, reduceIte]
  refine ops_call (.pureE (sameIds_meets [⟨0, 1⟩, ⟨0, 2⟩, ⟨1, 1⟩] [⟨0, 1⟩, ⟨0, 2⟩, ⟨1, 1⟩] (by decide)) (by simp [go_sem, Nat.reduceLT, Nat.reduceAdd, Nat.reduceEqDiff, Nat.reduceLeDiff, Nat.reduceSub, Nat.reduceMul, Int.reduceEq, eq_self, reduceIte, cId])) ?_
  simp only [go_sem, Nat.reduceLT, Nat.reduceAdd, Nat.reduceEqDiff, Nat.reduceLeDiff, Nat.reduceSub, Nat.reduceMul, Int.reduceEq, eq_self, reduceIte]
  iterate 2
    refine ops_call (.pure (lawId_meets _ _)) ?_
    simp only [go_sem, Nat.reduceLT, Nat.reduceAdd, Nat.reduceEqDiff, Nat.reduceLeDiff, Nat.reduceSub, Nat.reduceMul, Int.reduceEq, eq_self, reduceIte]
  refine ops_call (.pureE (sameIds_meets [⟨0, 2⟩, ⟨1, 1⟩] [⟨0, 2⟩, ⟨1, 1⟩] (by decide)) (by simp [go_sem, Nat.reduceLT, Nat.reduceAdd, Nat.reduceEqDiff, Nat.reduceLeDiff, Nat.reduceSub, Nat.reduceMul, Int.reduceEq, eq_self, reduceIte, cId])) ?_
  simp only [go_sem, Nat.reduceLT, Nat.reduceAdd, Nat.reduceEqDiff, Nat.reduceLeDiff, Nat.reduceSub, Nat.reduceMul, Int.reduceEq, eq_self, reduceIte]
  refine ret_pure hx ?_
  simp [go_sem, Nat.reduceLT, Nat.reduceAdd, Nat.reduceEqDiff, Nat.reduceLeDiff, Nat.reduceSub, Nat.reduceMul, Int.reduceEq, eq_self, reduceIte, L19, R19]
end Go.Proofs.Ytkibfciheifphaa
/- DagPast, DagHeads, as contracts. -/
namespace Go.Proofs.Ytkibfciheifphaa
set_option linter.unusedSimpArgs false
set_option linter.unusedVariables false
open Go.RowKit
end Go.Proofs.Ytkibfciheifphaa
/- DagParts, as a contract. -/
namespace Go.Proofs.Ytkibfciheifphaa
set_option linter.unusedSimpArgs false
set_option linter.unusedVariables false
open Go.RowKit
theorem nth_take {α : Type} [Inhabited α] {l : List α} {n i : Nat} (hi : i < n) (hn : n ≤ l.length) : nth (l.take n) i = nth l i := by
  rw [nth_eq _ _ (by rw [List.length_take]; omega), nth_eq _ _ (by omega), List.getElem_take]
theorem LogOk.take {l : List Entry} (h : LogOk l) {n : Nat} (hn : n ≤ l.length) : LogOk (l.take n) where
  len := by rw [List.length_take]; have := h.len; omega
  chk := fun k hk => by
    rw [List.length_take] at hk
    rw [nth_take (by omega) hn]; exact h.chk k (by omega)
  new := fun k hk => by
    rw [List.length_take] at hk
    rw [nth_take (by omega) hn, List.take_take, Nat.min_eq_left (by omega)]; exact h.new k (by omega)
  num := fun k hk => by
    rw [List.length_take] at hk
    rw [nth_take (by omega) hn, List.take_take, Nat.min_eq_left (by omega)]; exact h.num k (by omega)
  lnk := fun k hk => by
    rw [List.length_take] at hk
    rw [nth_take (by omega) hn, List.take_take, Nat.min_eq_left (by omega)]; exact h.lnk k (by omega)
theorem cntR_sum : ∀ {l : List Entry}, okReg l → cntR l 0 + cntR l 1 = l.length
  | [], _ => rfl
  | e :: l, h => by
    have ih := cntR_sum (l := l) fun x hx => h x (by simp [hx])
    have he := h e (by simp)
    simp only [cntR, List.countP_cons, List.length_cons, decide_eq_true_eq] at ih ⊢
    rcases he with he | he <;> simp [he] <;> omega
theorem cntR_mono {l : List Entry} {i n : Nat} (h : i ≤ n) (r : Int) : cntR (l.take i) r ≤ cntR (l.take n) r :=
  List.Sublist.countP_le (List.take_sublist_take_left h)
end Go.Proofs.Ytkibfciheifphaa
/- Sites: what is appended and what settles leaves a right log (plain). -/
namespace Go.Proofs.Ytkibfciheifphaa
open Go.RowKit
theorem nth_app {l : List Entry} {e : Entry} {k : Nat} (h : k < l.length) : nth (l ++ [e]) k = nth l k := by
  rw [nth_eq _ _ (by simp; omega), nth_eq _ _ h, List.getElem_append_left h]
theorem nth_app_end (l : List Entry) (e : Entry) : nth (l ++ [e]) l.length = e := by
  rw [nth_eq _ _ (by simp)]; simp
theorem take_app {l : List Entry} {e : Entry} {k : Nat} (h : k ≤ l.length) : (l ++ [e]).take k = l.take k := by
  rw [List.take_append_of_le_length h]
theorem LogOk.cnt {l : List Entry} (h : LogOk l) (r : Int) : cntR l r ≤ 20 := by
  have key : ∀ k, k ≤ l.length → cntR (l.take k) r ≤ 20 := by
    intro k
    induction k with
    | zero => intro _; simp [cntR]
    | succ k ih =>
      intro hk
      rw [cntR_take l k r (by omega)]
      by_cases e : (nth l k).id.r = r
      · rw [if_pos e]
        have h1 := h.num k (by omega)
        have h2 := h.id_ok (k := k) (by omega)
        simp only [okId, Bool.and_eq_true, wthn_iff] at h2
        rw [e] at h1
        omega
      · rw [if_neg e]
        have := ih (by omega)
        omega
  have := key l.length (Nat.le_refl _)
  rwa [List.take_length] at this
theorem LogOk.num_le {l : List Entry} (h : LogOk l) {k : Nat} (hk : k < l.length) : (nth l k).id.n ≤ (cntR l (nth l k).id.r : Int) := by
  have h1 := h.num k hk
  have h2 := cntR_take l k (nth l k).id.r hk
  rw [if_pos rfl] at h2
  have h3 := cntR_mono (l := l) (i := k + 1) (n := l.length) (by omega) (nth l k).id.r
  rw [List.take_length] at h3
  omega
theorem ready_iff {l : List Entry} {e : Entry} : readyB l e = true ↔ (cntR l e.id.r : Int) + 1 = e.id.n ∧ ∀ x ∈ e.ls, 0 ≤ findE l x := by
  simp only [readyB, Bool.and_eq_true, decide_eq_true_eq, Bool.not_eq_true', List.any_eq_false]
  exact ⟨fun ⟨a, b⟩ => ⟨a, fun x hx => by have := b x hx; omega⟩, fun ⟨a, b⟩ => ⟨a, fun x hx => by have := b x hx; omega⟩⟩
theorem LogOk.app_new {l : List Entry} {e : Entry} (h : LogOk l) (hr : (cntR l e.id.r : Int) + 1 = e.id.n) : findE l e.id < 0 := by
  rw [findE_neg]
  intro y hy he
  obtain ⟨k, hk, rfl⟩ := List.getElem_of_mem hy
  rw [← nth_eq _ _ hk] at he
  have := h.num_le hk
  rw [he] at this
  omega
theorem LogOk.app {l : List Entry} {e : Entry} (h : LogOk l) (hc : checkEntry e = 0) (hr : readyB l e = true) : LogOk (l ++ [e]) := by
  obtain ⟨hn, hl⟩ := ready_iff.1 hr
  have hnew := h.app_new hn
  have h1 : ∀ k, k < l.length + 1 → (k < l.length ∧ nth (l ++ [e]) k = nth l k ∧ (l ++ [e]).take k = l.take k) ∨ (nth (l ++ [e]) k = e ∧ (l ++ [e]).take k = l) := by
    intro k hk
    by_cases hlt : k < l.length
    · exact .inl ⟨hlt, nth_app hlt, take_app (by omega)⟩
    · obtain rfl : k = l.length := by omega
      exact .inr ⟨nth_app_end l e, by rw [take_app (Nat.le_refl _), List.take_length]⟩
  have hb := (check_ok_bounds hc).1
  simp only [okId, Bool.and_eq_true, wthn_iff] at hb
  have hlen : l.length + 1 ≤ 40 := by
    have s := cntR_sum h.reg
    have c0 := h.cnt 0
    have c1 := h.cnt 1
    have hr2 : e.id.r = 0 ∨ e.id.r = 1 := by omega
    rcases hr2 with q | q
    all_goals
      rw [q] at hn
      omega
  refine ⟨by simp; omega, fun k hk => ?_, fun k hk => ?_, fun k hk => ?_, fun k hk => ?_⟩
  all_goals
    rw [List.length_append, List.length_singleton] at hk
    rcases h1 k hk with ⟨a, b, c⟩ | ⟨b, c⟩
  · rw [b]; exact h.chk k a
  · rw [b]; exact hc
  · rw [b, c]; exact h.new k a
  · rw [b, c]; exact hnew
  · rw [b, c]; exact h.num k a
  · rw [b, c]; exact hn
  · rw [b, c]; exact h.lnk k a
  · rw [b, c]; exact hl
theorem rdyI_ready {lg ws : List Entry} (h : 0 ≤ rdyI lg ws) : readyB lg (nth ws (rdyI lg ws).toNat) = true := by
  obtain ⟨k, h1, h2, h3⟩ := idxF_spec (readyB lg) ws 0 h
  have : (rdyI lg ws).toNat = k := by unfold rdyI; rw [h1]; simp
  rw [this]; exact h3
theorem settleN_ok : ∀ (k : Nat) (lg ws : List Entry), LogOk lg → (∀ e ∈ ws, checkEntry e = 0) → LogOk (settleN k lg ws).1 ∧ (∀ e ∈ (settleN k lg ws).2, e ∈ ws) ∧ ∃ t, (settleN k lg ws).1 = lg ++ t ∧ ∀ e ∈ t, e ∈ ws
  | 0, lg, ws, h, _ => ⟨h, fun e he => he, [], by simp [settleN], by simp⟩
  | k + 1, lg, ws, h, hc => by
    rw [settleN]
    split
    · rename_i hr
      have hm := nthM (rdyI_lt hr)
      obtain ⟨a, b, t, c, d⟩ := settleN_ok k (lg ++ [nth ws (rdyI lg ws).toNat]) (ws.eraseIdx (rdyI lg ws).toNat) (h.app (hc _ hm) (rdyI_ready hr)) (fun e he => hc e (List.mem_of_mem_eraseIdx he))
      refine ⟨a, fun e he => List.mem_of_mem_eraseIdx (b e he), nth ws (rdyI lg ws).toNat :: t, by rw [c]; simp, fun e he => ?_⟩
      rcases List.mem_cons.1 he with q | q
      · rw [q]; exact hm
      · exact List.mem_of_mem_eraseIdx (d e q)
    · exact ⟨h, fun e he => he, [], by simp, by simp⟩
theorem settled_ok {lg ws : List Entry} (h : LogOk lg) (hc : ∀ e ∈ ws, checkEntry e = 0) : LogOk (settled lg ws).1 ∧ (∀ e ∈ (settled lg ws).2, e ∈ ws) ∧ ∃ t, (settled lg ws).1 = lg ++ t ∧ ∀ e ∈ t, e ∈ ws := settleN_ok _ _ _ h hc
end Go.Proofs.Ytkibfciheifphaa
/- Sites: what comes, what is appended and what settles leaves a right site (plain). -/
namespace Go.Proofs.Ytkibfciheifphaa
open Go.RowKit
structure WaitOk (q : Int) (lg ws : List Entry) : Prop where
  up : upE ws
  chk : ∀ e ∈ ws, checkEntry e = 0
  other : ∀ e ∈ ws, e.id.r ≠ q
  new : ∀ e ∈ ws, findE lg e.id < 0
theorem memE {ws : List Entry} {e : Entry} : e ∈ ws ↔ ∃ k, k < ws.length ∧ nth ws k = e := by
  constructor
  · intro h
    obtain ⟨k, hk, rfl⟩ := List.getElem_of_mem h
    exact ⟨k, hk, nth_eq _ _ hk⟩
  · rintro ⟨k, hk, rfl⟩
    exact nthM hk
theorem siErr_iff {q : Int} {lg ws : List Entry} : siErr q lg ws = 0 ↔ (q = 0 ∨ q = 1) ∧ LogOk lg ∧ ws.length ≤ 20 ∧ WaitOk q lg ws ∧ ∀ e ∈ ws, readyB lg e = false := by
  have hb : ∀ k, siBad q lg ws k = false ↔ (0 < k → lessB (nth ws (k - 1)).id (nth ws k).id = true) ∧ (nth ws k).id.r ≠ q ∧ findE lg (nth ws k).id < 0 ∧ readyB lg (nth ws k) = false := by
    intro k
    unfold siBad
    simp only [Bool.or_eq_false_iff, Bool.and_eq_false_iff, decide_eq_false_iff_not, Bool.not_eq_false', and_assoc, Int.not_le]
    constructor
    · rintro ⟨a, b, c, d⟩
      exact ⟨fun hk => a.resolve_left (by omega), b, c, d⟩
    · rintro ⟨a, b, c, d⟩
      refine ⟨?_, b, c, d⟩
      by_cases hk : 0 < k
      · exact .inr (a hk)
      · exact .inl hk
  constructor
  · intro h
    obtain ⟨a, b, c, d⟩ := siErr_ok h
    refine ⟨a, b, c, ⟨siErr_up h, fun e he => ?_, fun e he => ?_, fun e he => ?_⟩, fun e he => ?_⟩
    all_goals
      obtain ⟨k, hk, rfl⟩ := memE.1 he
      obtain ⟨d1, d2⟩ := d k hk
      have d3 := (hb k).1 d2
    · exact d1
    · exact d3.2.1
    · exact d3.2.2.1
    · exact d3.2.2.2
  · rintro ⟨a, b, c, d, e⟩
    rw [siErr, if_neg (by simp [a]), if_neg (by simp [log_ok.2 b]), if_neg (by omega), firstNZ_zero]
    intro k hk
    have hm := nthM hk
    rw [siWait, if_neg (by simp [d.chk _ hm]), if_neg]
    rw [Bool.not_eq_true]
    exact (hb k).2 ⟨fun h0 => d.up (k - 1) k (by omega) hk, d.other _ hm, d.new _ hm, e _ hm⟩
theorem upE_iff {ws : List Entry} : upE ws ↔ ws.Pairwise fun a b => lessB a.id b.id = true := by
  rw [List.pairwise_iff_getElem]
  constructor
  · intro h i j hi hj hij
    have := h i j hij hj
    rwa [nth_eq _ _ hi, nth_eq _ _ hj] at this
  · intro h i j hij hj
    have := h i j (by omega) hj hij
    rwa [← nth_eq, ← nth_eq] at this
theorem upE_erase {ws : List Entry} (h : upE ws) (i : Nat) : upE (ws.eraseIdx i) := upE_iff.2 ((upE_iff.1 h).sublist (List.eraseIdx_sublist ..))
theorem findE_app {lg : List Entry} {e : Entry} {y : Id} (h : findE lg y < 0) (hn : e.id ≠ y) : findE (lg ++ [e]) y < 0 := by
  rw [findE_neg] at *
  intro x hx
  rcases List.mem_append.1 hx with q | q
  · exact h x q
  · simp at q; subst q; exact hn
theorem erase_ne {ws : List Entry} (h : upE ws) {i : Nat} (hi : i < ws.length) {e : Entry} (he : e ∈ ws.eraseIdx i) : (nth ws i).id ≠ e.id := by
  rw [List.mem_eraseIdx_iff_getElem] at he
  obtain ⟨j, hj, hji, rfl⟩ := he
  rw [← nth_eq ws j hj]
  intro hq
  rcases Nat.lt_trichotomy i j with a | a | a
  · have := h i j a hj
    rw [hq, lessB_irr] at this; cases this
  · omega
  · have := h j i a hi
    rw [hq, lessB_irr] at this; cases this
theorem WaitOk.step {q : Int} {lg ws : List Entry} (h : WaitOk q lg ws) {i : Nat} (hi : i < ws.length) : WaitOk q (lg ++ [nth ws i]) (ws.eraseIdx i) :=
  ⟨upE_erase h.up i, fun e he => h.chk e (List.mem_of_mem_eraseIdx he), fun e he => h.other e (List.mem_of_mem_eraseIdx he), fun e he => findE_app (h.new e (List.mem_of_mem_eraseIdx he)) (erase_ne h.up hi he)⟩
theorem not_ready {lg ws : List Entry} (h : ¬ 0 ≤ rdyI lg ws) : ∀ e ∈ ws, readyB lg e = false := by
  have := idxF_any (readyB lg) ws
  rw [show idxF (readyB lg) ws 0 = rdyI lg ws from rfl, decide_eq_false h] at this
  intro e he
  have := List.any_eq_false.1 this.symm e he
  simpa using this
theorem settleN_right : ∀ (k : Nat) (q : Int) (lg ws : List Entry), ws.length ≤ k → WaitOk q lg ws → WaitOk q (settleN k lg ws).1 (settleN k lg ws).2 ∧ ∀ e ∈ (settleN k lg ws).2, readyB (settleN k lg ws).1 e = false
  | 0, q, lg, ws, hk, h => by
    obtain rfl := List.length_eq_zero_iff.1 (Nat.le_zero.1 hk)
    exact ⟨h, fun e he => by simp [settleN] at he⟩
  | k + 1, q, lg, ws, hk, h => by
    rw [settleN]
    split
    · rename_i hr
      have hl := rdyI_lt hr
      exact settleN_right k q _ _ (by rw [List.length_eraseIdx, if_pos hl]; omega) (h.step hl)
    · rename_i hr
      exact ⟨h, not_ready hr⟩
theorem settled_right {q : Int} {lg ws : List Entry} (h : WaitOk q lg ws) : WaitOk q (settled lg ws).1 (settled lg ws).2 ∧ ∀ e ∈ (settled lg ws).2, readyB (settled lg ws).1 e = false := settleN_right _ q lg ws (Nat.le_refl _) h
theorem ins_split (e : Entry) : ∀ (l : List Entry) (p : Nat), p ≤ l.length → l.insertIdx p e = l.take p ++ e :: l.drop p
  | _, 0, _ => by simp
  | [], p + 1, h => by simp at h
  | y :: l, p + 1, h => by
    simp only [List.insertIdx_succ_cons, List.take_succ_cons, List.drop_succ_cons, List.cons_append]
    rw [ins_split e l p (by simpa using h)]
theorem upE_ins {ws : List Entry} {e : Entry} (h : upE ws) (hn : ¬ 0 ≤ findE ws e.id) : upE (ws.insertIdx (posE ws e.id) e) := by
  obtain ⟨p1, p2, p3⟩ := posE_spec h e.id
  have hne := findE_not hn
  have hil : ws.insertIdx (posE ws e.id) e = ws.take (posE ws e.id) ++ e :: ws.drop (posE ws e.id) := ins_split e _ _ p1
  rw [upE_iff, hil, List.pairwise_append]
  have hp := upE_iff.1 h
  have t1 : ∀ a ∈ ws.take (posE ws e.id), lessB a.id e.id = true := fun a ha => by
    rw [List.mem_take_iff_getElem] at ha
    obtain ⟨k, hk, rfl⟩ := ha
    rw [← nth_eq _ _ (by omega)]
    exact p2 k (by omega)
  have t2 : ∀ b ∈ ws.drop (posE ws e.id), lessB e.id b.id = true := fun b hb => by
    rw [List.mem_drop_iff_getElem] at hb
    obtain ⟨k, hk, rfl⟩ := hb
    rw [← nth_eq _ _ (by omega)]
    have := p3 (posE ws e.id + k) (by omega) (by omega)
    cases hq : lessB e.id (nth ws (posE ws e.id + k)).id
    · exact (hne _ (nthM (by omega)) (idEq_of this hq)).elim
    · rfl
  refine ⟨hp.sublist (List.take_sublist ..), List.pairwise_cons.2 ⟨fun b hb => t2 b hb, hp.sublist (List.drop_sublist ..)⟩, fun a ha b hb => ?_⟩
  rcases List.mem_cons.1 hb with q | q
  · rw [q]; exact t1 a ha
  · exact lessB_trans (t1 a ha) (t2 b q)
end Go.Proofs.Ytkibfciheifphaa
/- Sites: in whatever order two come, the same is left (plain). -/
namespace Go.Proofs.Ytkibfciheifphaa
open Go.RowKit
def EId (W : List Entry) : Prop := W.Pairwise fun a b => a.id ≠ b.id
theorem EId.inj {W : List Entry} (h : EId W) {a b : Entry} (ha : a ∈ W) (hb : b ∈ W) (e : a.id = b.id) : a = b := by
  obtain ⟨i, hi, rfl⟩ := List.getElem_of_mem ha
  obtain ⟨j, hj, rfl⟩ := List.getElem_of_mem hb
  have h2 := List.pairwise_iff_getElem.1 h
  rcases Nat.lt_trichotomy i j with q | q | q
  · exact (h2 i j hi hj q e).elim
  · subst q; rfl
  · exact (h2 j i hj hi q e.symm).elim
theorem EId.perm {W V : List Entry} (h : EId W) (hp : V.Perm W) : EId V := (hp.pairwise_iff fun {a b} q r => q r.symm).2 h
theorem LogOk.has_num {l : List Entry} (h : LogOk l) {r n : Int} (h1 : 1 ≤ n) (h2 : n ≤ (cntR l r : Int)) : ∃ e ∈ l, e.id = ⟨r, n⟩ := by
  have key : ∀ k, k ≤ l.length → n ≤ (cntR (l.take k) r : Int) → ∃ e ∈ l, e.id = ⟨r, n⟩ := by
    intro k
    induction k with
    | zero => intro _ h; simp [cntR] at h; omega
    | succ k ih =>
      intro hk hn
      by_cases hle : n ≤ (cntR (l.take k) r : Int)
      · exact ih (by omega) hle
      · have hs := cntR_take l k r (by omega)
        by_cases e : (nth l k).id.r = r
        · have hm := h.num k (by omega)
          rw [e] at hm
          rw [if_pos e] at hs
          refine ⟨_, nthM (by omega : k < l.length), ?_⟩
          have : (nth l k).id.n = n := by omega
          cases hid : (nth l k).id
          rw [hid] at e this
          simp only at e this
          rw [e, this]
        · rw [if_neg e] at hs
          omega
  exact key l.length (Nat.le_refl _) (by rw [List.take_length]; exact h2)
theorem findE_pos {l : List Entry} {y : Id} : 0 ≤ findE l y ↔ ∃ e ∈ l, e.id = y := by
  constructor
  · intro h
    obtain ⟨k, -, h2, h3⟩ := findE_spec h
    exact ⟨_, nthM h2, h3⟩
  · rintro ⟨e, he, hy⟩
    by_cases h : findE l y < 0
    · exact (findE_neg.1 h e he hy).elim
    · omega
structure Settles (lg W A WA u : List Entry) : Prop where
  eq : A = lg ++ u
  perm : (u ++ WA).Perm W
  rdy : ∀ i, i < u.length → readyB (lg ++ u.take i) (nth u i) = true
theorem erase_permG : ∀ (W : List Entry) (i : Nat) (h : i < W.length), (W[i] :: W.eraseIdx i).Perm W
  | x :: W, 0, _ => List.Perm.refl _
  | x :: W, i + 1, h => by
    have := erase_permG W i (by simpa using h)
    simp only [List.getElem_cons_succ, List.eraseIdx_cons_succ]
    exact (List.Perm.swap x _ _).trans (List.Perm.cons x this)
theorem erase_perm {W : List Entry} {i : Nat} (h : i < W.length) : (nth W i :: W.eraseIdx i).Perm W := by
  rw [nth_eq _ _ h]
  exact erase_permG W i h
theorem settleN_how : ∀ (k : Nat) (lg W : List Entry), ∃ u, Settles lg W (settleN k lg W).1 (settleN k lg W).2 u
  | 0, lg, W => ⟨[], by simp [settleN], by simp [settleN], fun i hi => by simp at hi⟩
  | k + 1, lg, W => by
    rw [settleN]
    split
    · rename_i hr
      have hl := rdyI_lt hr
      have hrd := rdyI_ready hr
      generalize (rdyI lg W).toNat = i at *
      obtain ⟨u, h1, h2, h3⟩ := settleN_how k (lg ++ [nth W i]) (W.eraseIdx i)
      refine ⟨nth W i :: u, by rw [h1]; simp, ?_, fun j hj => ?_⟩
      · exact (List.Perm.cons _ h2).trans (erase_perm hl)
      · cases j with
        | zero => simpa [nth] using hrd
        | succ j =>
          have hj' : j < u.length := by simpa using hj
          have := h3 j hj'
          rw [nth_eq _ _ hj, List.take_succ_cons, List.getElem_cons_succ, ← nth_eq _ _ hj']
          rwa [List.append_assoc] at this
    · exact ⟨[], by simp, by simp, fun i hi => by simp at hi⟩
theorem settled_how (lg W : List Entry) : ∃ u, Settles lg W (settled lg W).1 (settled lg W).2 u := settleN_how _ _ _
theorem Settles.sub {lg W A WA u A' WA' u' : List Entry} (h : Settles lg W A WA u) (h' : Settles lg W A' WA' u') (hA : LogOk A) (hA' : LogOk A') (hn : ∀ e ∈ W, findE lg e.id < 0) (hid : EId W)
    (hfin : ∀ e ∈ WA', readyB A' e = false) : ∀ i, i < u.length → nth u i ∈ u' := by
  intro i
  induction i using Nat.strongRecOn with
  | _ i ih =>
    intro hi
    have hW : nth u i ∈ W := h.perm.mem_iff.1 (List.mem_append.2 (.inl (nthM hi)))
    rcases List.mem_append.1 (h'.perm.mem_iff.2 hW) with q | q
    · exact q
    · have hr := hfin _ q
      have hrd := ready_iff.1 (h.rdy i hi)
      have hin : ∀ e ∈ lg ++ u.take i, e ∈ A' := fun e he => by
        rw [h'.eq]
        rcases List.mem_append.1 he with z | z
        · exact List.mem_append.2 (.inl z)
        · rw [List.mem_take_iff_getElem] at z
          obtain ⟨j, hj, rfl⟩ := z
          rw [← nth_eq _ _ (by omega)]
          exact List.mem_append.2 (.inr (ih j (by omega) (by omega)))
      have hpre : LogOk (lg ++ u.take i) := by
        have := hA.take (n := lg.length + i) (by rw [h.eq]; simp; omega)
        rwa [h.eq, List.take_length_add_append] at this
      have hbad : readyB A' (nth u i) = true ∨ nth u i ∈ u' := by
        by_cases hc : (nth u i).id.n ≤ (cntR A' (nth u i).id.r : Int)
        · obtain ⟨y, hy, hye⟩ := hA'.has_num (r := (nth u i).id.r) (n := (nth u i).id.n) (by omega) hc
          have hye2 : y.id = (nth u i).id := hye
          rw [h'.eq] at hy
          rcases List.mem_append.1 hy with z | z
          · exact (findE_neg.1 (hn _ hW) y z hye2).elim
          · have := hid.inj (h'.perm.mem_iff.1 (List.mem_append.2 (.inl z))) hW hye2
            exact .inr (this ▸ z)
        · left
          refine ready_iff.2 ⟨?_, fun y hy => ?_⟩
          · have hge : (cntR (lg ++ u.take i) (nth u i).id.r : Int) ≤ (cntR A' (nth u i).id.r : Int) := by
              by_cases h0 : cntR (lg ++ u.take i) (nth u i).id.r = 0
              · omega
              · obtain ⟨y, hy, hye⟩ := hpre.has_num (r := (nth u i).id.r) (n := (cntR (lg ++ u.take i) (nth u i).id.r : Int)) (by omega) (Int.le_refl _)
                obtain ⟨k, hk, rfl⟩ := memE.1 (hin y hy)
                have := hA'.num_le hk
                rw [hye] at this
                exact this
            omega
          · obtain ⟨z, hz, hze⟩ := findE_pos.1 (hrd.2 y hy)
            exact findE_pos.2 ⟨z, hin z hz, hze⟩
      rcases hbad with z | z
      · rw [z] at hr; cases hr
      · exact z
end Go.Proofs.Ytkibfciheifphaa
/- Sites: two that come, one way or the other (plain). -/
namespace Go.Proofs.Ytkibfciheifphaa
open Go.RowKit
def there (lg ws : List Entry) (y : Id) : Prop := ∃ x, (x ∈ lg ∨ x ∈ ws) ∧ x.id = y
theorem there_iff {lg ws : List Entry} {y : Id} : (0 ≤ findE lg y ∨ 0 ≤ findE ws y) ↔ there lg ws y := by
  rw [findE_pos, findE_pos]
  constructor
  · rintro (⟨e, h, he⟩ | ⟨e, h, he⟩)
    · exact ⟨e, .inl h, he⟩
    · exact ⟨e, .inr h, he⟩
  · rintro ⟨e, h | h, he⟩
    · exact .inl ⟨e, h, he⟩
    · exact .inr ⟨e, h, he⟩
theorem Settles.there_iff {lg W A WA u : List Entry} (h : Settles lg W A WA u) {y : Id} : there A WA y ↔ there lg W y := by
  constructor
  · rintro ⟨x, hx, hy⟩
    refine ⟨x, ?_, hy⟩
    rw [h.eq] at hx
    rcases hx with z | z
    · rcases List.mem_append.1 z with z | z
      · exact .inl z
      · exact .inr (h.perm.mem_iff.1 (List.mem_append.2 (.inl z)))
    · exact .inr (h.perm.mem_iff.1 (List.mem_append.2 (.inr z)))
  · rintro ⟨x, hx, hy⟩
    refine ⟨x, ?_, hy⟩
    rw [h.eq]
    rcases hx with z | z
    · exact .inl (List.mem_append.2 (.inl z))
    · rcases List.mem_append.1 (h.perm.mem_iff.2 z) with z | z
      · exact .inl (List.mem_append.2 (.inr z))
      · exact .inr z
theorem there_ins {lg ws : List Entry} {e : Entry} {y : Id} : there lg (ws.insertIdx (posE ws e.id) e) y ↔ there lg ws y ∨ e.id = y := by
  unfold there
  simp only [List.mem_insertIdx (posE_le ws e.id)]
  constructor
  · rintro ⟨x, h | h | h, hy⟩
    · exact .inl ⟨x, .inl h, hy⟩
    · exact .inr (h ▸ hy)
    · exact .inl ⟨x, .inr h, hy⟩
  · rintro (⟨x, h | h, hy⟩ | hy)
    · exact ⟨x, .inl h, hy⟩
    · exact ⟨x, .inr (.inr h), hy⟩
    · exact ⟨e, .inr (.inl rfl), hy⟩
theorem WaitOk.ins {q : Int} {lg ws : List Entry} {e : Entry} (h : WaitOk q lg ws) (h1 : checkEntry e = 0) (hn : ¬ there lg ws e.id) (hr : e.id.r ≠ q) : WaitOk q lg (ws.insertIdx (posE ws e.id) e) := by
  have hn2 : ¬ (0 ≤ findE lg e.id ∨ 0 ≤ findE ws e.id) := fun z => hn (there_iff.1 z)
  refine ⟨upE_ins h.up (by omega), fun y hy => ?_, fun y hy => ?_, fun y hy => ?_⟩
  all_goals
    rcases (List.mem_insertIdx (posE_le ws e.id)).1 hy with z | z
  · rw [z]; exact h1
  · exact h.chk y z
  · rw [z]; exact hr
  · exact h.other y z
  · rw [z]; omega
  · exact h.new y z
theorem WaitOk.len {q : Int} {lg ws : List Entry} (hq : q = 0 ∨ q = 1) (h : WaitOk q lg ws) : ws.length ≤ 20 := by
  have hb : ∀ e ∈ ws, (e.id.r = 0 ∨ e.id.r = 1) ∧ 1 ≤ e.id.n ∧ e.id.n < 21 := fun e he => by
    have := (check_ok_bounds (h.chk e he)).1
    simp only [okId, Bool.and_eq_true, wthn_iff] at this
    omega
  have hp : (ws.map fun e => e.id.n).Pairwise (· < ·) := by
    rw [List.pairwise_map, List.pairwise_iff_getElem]
    intro i j hi hj hij
    have h1 := (List.pairwise_iff_getElem.1 (upE_iff.1 h.up)) i j hi hj hij
    have m1 := List.getElem_mem hi
    have m2 := List.getElem_mem hj
    have b1 := hb _ m1
    have b2 := hb _ m2
    have o1 := h.other _ m1
    have o2 := h.other _ m2
    simp only [lessB, decide_eq_true_eq] at h1
    omega
  have := rise_len _ 1 21 hp (fun x hx => by
    obtain ⟨e, he, rfl⟩ := List.mem_map.1 hx
    have := hb e he
    omega) (by omega)
  rw [List.length_map] at this
  omega
theorem rc_there {q : Int} {lg ws : List Entry} {e : Entry} (h0 : siErr q lg ws = 0) (h1 : checkEntry e = 0) (h : there lg ws e.id) : rcErrX q lg ws e = 0 ∧ rcSiX q lg ws e = (q, lg, ws) := by
  have h2 := there_iff.2 h
  constructor
  · rw [rcErrX, if_neg (by simp [h0]), if_neg (by simp [h1]), rcErr, if_pos h2]
  · rw [rcSiX, if_neg (by simp [h0, h1]), rcSi, if_pos h2]
theorem rc_new {q : Int} {lg ws : List Entry} {e : Entry} (h0 : siErr q lg ws = 0) (h1 : checkEntry e = 0) (h : ¬ there lg ws e.id) (hr : e.id.r ≠ q) : rcErrX q lg ws e = 0 ∧ rcSiX q lg ws e = (q, (rcP lg ws e).1, (rcP lg ws e).2) ∧ siErr q (rcP lg ws e).1 (rcP lg ws e).2 = 0 ∧ ∃ u, Settles lg (ws.insertIdx (posE ws e.id) e) (rcP lg ws e).1 (rcP lg ws e).2 u := by
  have h2 : ¬ (0 ≤ findE lg e.id ∨ 0 ≤ findE ws e.id) := fun z => h (there_iff.1 z)
  obtain ⟨hq, hok, hw, hwo, -⟩ := siErr_iff.1 h0
  have hwo2 := hwo.ins h1 h hr
  obtain ⟨a, b⟩ := settled_right hwo2
  obtain ⟨c, -, -⟩ := settled_ok hok hwo2.chk
  have hl := a.len hq
  have hc := c.len
  have he : rcErr q lg ws e = 0 := by
    rw [rcErr, if_neg h2, if_neg hr, if_neg]
    show ¬ (20 < (settled lg (ws.insertIdx (posE ws e.id) e)).2.length ∨ 40 < (settled lg (ws.insertIdx (posE ws e.id) e)).1.length)
    omega
  refine ⟨?_, ?_, siErr_iff.2 ⟨hq, c, hl, a, b⟩, settled_how ..⟩
  · rw [rcErrX, if_neg (by simp [h0]), if_neg (by simp [h1]), he]
  · rw [rcSiX, if_neg (by simp [h0, h1]), rcSi, if_neg h2, if_pos he]
end Go.Proofs.Ytkibfciheifphaa
/- Worlds: what is right, what an act does (plain). -/
namespace Go.Proofs.Ytkibfciheifphaa
open Go.RowKit
structure Wo where
  p : List Entry
  u : List Entry
  q : List Entry
  v : List Entry
  a : List Entry
  b : List Entry
def Wo.log (w : Wo) (i : Int) : List Entry := if i = 0 then w.p else w.q
abbrev Si := Int × List Entry × List Entry
def Born (w : Wo) (e : Entry) : Prop := e ∈ w.log e.id.r
structure WoOk (w : Wo) : Prop where
  s0 : siErr 0 w.p w.u = 0
  s1 : siErr 1 w.q w.v = 0
  la : w.a.length ≤ 30
  lb : w.b.length ≤ 30
  ca : ∀ e ∈ w.a, checkEntry e = 0
  cb : ∀ e ∈ w.b, checkEntry e = 0
  ba : ∀ e ∈ w.a, Born w e
  bb : ∀ e ∈ w.b, Born w e
  bp : ∀ e ∈ w.p, Born w e
  bu : ∀ e ∈ w.u, Born w e
  bq : ∀ e ∈ w.q, Born w e
  bv : ∀ e ∈ w.v, Born w e
theorem LogOk.mem_chk {l : List Entry} (h : LogOk l) {e : Entry} (he : e ∈ l) : checkEntry e = 0 := by
  obtain ⟨k, hk, rfl⟩ := memE.1 he
  exact h.chk k hk
end Go.Proofs.Ytkibfciheifphaa
/- Worlds: what comes to a site (plain). -/
namespace Go.Proofs.Ytkibfciheifphaa
open Go.RowKit
theorem rc_ok {r : Int} {p u : List Entry} {e : Entry} (h0 : siErr r p u = 0) (h1 : checkEntry e = 0) (hr : e.id.r ≠ r) :
    rcErr r p u e = 0 ∧ (rcSi r p u e).1 = r ∧ siErr r (rcSi r p u e).2.1 (rcSi r p u e).2.2 = 0 ∧ (∃ x, (rcSi r p u e).2.1 = p ++ x) ∧ (∀ y, y ∈ (rcSi r p u e).2.1 ∨ y ∈ (rcSi r p u e).2.2 → y ∈ p ∨ y ∈ u ∨ y = e) ∧
      (∀ y, y ∈ p ∨ y ∈ u → y ∈ (rcSi r p u e).2.1 ∨ y ∈ (rcSi r p u e).2.2) ∧ there (rcSi r p u e).2.1 (rcSi r p u e).2.2 e.id := by
  have hx : rcErrX r p u e = rcErr r p u e := by rw [rcErrX, if_neg (by simp [h0]), if_neg (by simp [h1])]
  have hs : rcSiX r p u e = rcSi r p u e := by rw [rcSiX, if_neg (by simp [h0, h1])]
  by_cases ht : there p u e.id
  · obtain ⟨a, b⟩ := rc_there h0 h1 ht
    rw [hx] at a; rw [hs] at b
    rw [b]
    exact ⟨a, rfl, h0, ⟨[], by simp⟩, fun y hy => by rcases hy with q | q; exact .inl q; exact .inr (.inl q), fun y hy => hy, ht⟩
  · obtain ⟨a, b, c, t, d⟩ := rc_new h0 h1 ht hr
    rw [hx] at a; rw [hs] at b
    rw [b]
    refine ⟨a, rfl, c, ⟨t, d.eq⟩, fun y hy => ?_, fun y hy => ?_, ?_⟩
    · have hm : y ∈ p ∨ y ∈ u.insertIdx (posE u e.id) e := by
        simp only at hy
        rw [d.eq] at hy
        rcases hy with q | q
        · rcases List.mem_append.1 q with q | q
          · exact .inl q
          · exact .inr (d.perm.mem_iff.1 (List.mem_append.2 (.inl q)))
        · exact .inr (d.perm.mem_iff.1 (List.mem_append.2 (.inr q)))
      rcases hm with q | q
      · exact .inl q
      · rcases (List.mem_insertIdx (posE_le u e.id)).1 q with q | q
        · exact .inr (.inr q)
        · exact .inr (.inl q)
    · simp only
      rw [d.eq]
      rcases hy with q | q
      · exact .inl (List.mem_append.2 (.inl q))
      · rcases List.mem_append.1 (d.perm.mem_iff.2 ((List.mem_insertIdx (posE_le u e.id)).2 (.inr q))) with q | q
        · exact .inl (List.mem_append.2 (.inr q))
        · exact .inr q
    · exact d.there_iff.2 (there_ins.2 (.inr rfl))
theorem no_wait {r : Int} {P U B : List Entry} {k : Nat} (h : siErr r P U = 0) (hB : LogOk B) (hk : k < B.length) (hr : (nth B k).id.r ≠ r) (hj : ∀ j, j < k → nth B j ∈ P) (hP : ∀ x ∈ P, x.id.r ≠ r → x ∈ B) : nth B k ∉ U := by
  intro hU
  obtain ⟨-, hp, -, hw, hn⟩ := siErr_iff.1 h
  have hnew := hw.new _ hU
  have hrd := hn _ hU
  have hrdy : readyB P (nth B k) = true := by
    refine ready_iff.2 ⟨?_, fun x hx => ?_⟩
    · have hnum := hB.num k hk
      have h1 : cntR P (nth B k).id.r = cntR (B.take k) (nth B k).id.r := by
        apply Nat.le_antisymm
        · apply Nat.le_of_not_lt
          intro hlt
          obtain ⟨x, hx, hxi⟩ := hp.has_num (r := (nth B k).id.r) (n := (nth B k).id.n) (by omega) (by omega)
          rw [findE_neg] at hnew
          exact hnew x hx (by rw [hxi])
        · by_cases h0 : cntR (B.take k) (nth B k).id.r = 0
          · omega
          · have hok := hB.take (n := k) (by omega)
            obtain ⟨x, hx, hxi⟩ := hok.has_num (r := (nth B k).id.r) (n := (cntR (B.take k) (nth B k).id.r : Int)) (by omega) (by omega)
            have hxP : x ∈ P := by
              rw [List.mem_take_iff_getElem] at hx
              obtain ⟨j, hj2, rfl⟩ := hx
              rw [← nth_eq _ _ (by omega)]
              exact hj j (by omega)
            obtain ⟨m, hm, rfl⟩ := memE.1 hxP
            have := hp.num_le hm
            rw [hxi] at this
            simp only at this
            omega
      rw [h1]; exact hnum
    · have := hB.lnk k hk x hx
      rw [findE_pos] at this ⊢
      obtain ⟨y, hy, hyx⟩ := this
      rw [List.mem_take_iff_getElem] at hy
      obtain ⟨j, hj2, rfl⟩ := hy
      rw [← nth_eq _ _ (by omega)] at hyx
      exact ⟨_, hj j (by omega), hyx⟩
  rw [hrdy] at hrd; cases hrd
end Go.Proofs.Ytkibfciheifphaa
/- What must be in any case of packets; PacketTells, PacketBack: contracts. -/
namespace Go.Proofs.Ytkibfciheifphaa
set_option linter.unusedSimpArgs false
set_option linter.unusedVariables false
open Go.RowKit
theorem encL_ne (e : Entry) (s : List UInt8) : encL e ++ s ≠ [] := by
  have := encL_len e
  intro h
  have h2 := congrArg List.length h
  simp at h2
  rw [h2.1] at this
  simp at this
  omega
theorem pkOut_enc : ∀ (l : List Entry) (s : List UInt8) (es : List Entry), (∀ e ∈ l, checkEntry e = 0) → es.length + l.length ≤ 40 → pkOut (pkB l ++ s).length (pkB l ++ s) es = pkOut s.length s (es ++ l)
  | [], s, es, _, _ => by simp [pkB]
  | e :: l, s, es, h, hl => by
    have he := h e List.mem_cons_self
    have e1 : pkB (e :: l) ++ s = encL e ++ (pkB l ++ s) := by simp [pkB]
    have hd := decOut_enc he (pkB l ++ s)
    rw [e1, pkOut_step (m := (encL e).length) (encL_ne e _) (by rw [hd]) (by simp only [List.length_cons] at hl; omega) (by rw [hd]), hd, List.drop_left]
    rw [pkOut_enc l s (es ++ [e]) (fun x hx => h x (List.mem_cons_of_mem _ hx)) (by simp only [List.length_append, List.length_cons, List.length_nil] at hl ⊢; omega), List.append_assoc]
    rfl
theorem pkErr_ok {l : List Entry} : pkErr l = 0 ↔ l.length ≤ 40 ∧ ∀ e ∈ l, checkEntry e = 0 := by
  unfold pkErr
  by_cases h : 40 < l.length
  · rw [if_pos h]; constructor
    · intro h; cases h
    · rintro ⟨h1, -⟩; omega
  · rw [if_neg h, firstNZ_zero]
    constructor
    · intro h2
      refine ⟨by omega, fun e he => ?_⟩
      obtain ⟨k, hk, rfl⟩ := memE.1 he
      exact h2 k hk
    · rintro ⟨-, h2⟩ k hk
      exact h2 _ (nthM hk)
theorem pk_there {l : List Entry} (h : pkErr l = 0) : pkOut (pkB l).length (pkB l) [] = (l, 0) := by
  obtain ⟨h1, h2⟩ := pkErr_ok.1 h
  have := pkOut_enc l [] [] h2 (by simpa using h1)
  simpa [pkOut] using this
def pbL : List Entry := [e0, e1, e2, e3]
theorem pb_err : pkErr pbL = 0 := by decide +kernel
theorem pb_len : (pkB pbL).length = 53 := by decide +kernel
theorem pb_zero : pkOut (pkB pbL ++ [0]).length (pkB pbL ++ [0]) [] = ([], 1) := by
  obtain ⟨h1, h2⟩ := pkErr_ok.1 pb_err
  rw [pkOut_enc pbL [0] [] h2 (by simpa using h1)]
  exact pkOut_bad (by simp) (by decide +kernel)
theorem pb_mis : misErr pbL 1 2 = 0 := by decide +kernel
theorem pb_misL : misL pbL 1 2 = [e2] := by decide +kernel
set_option maxRecDepth 10000 in
set_option maxHeartbeats 2000000 in
theorem packetBegun_meets : Meets Try.prog 16 [] [] (.bool true) [] := by
  have hent : Meets Try.prog 37 [] [] (.list (pbL.map cE)) [] := entries_meets
  have henc := pkEncode_meets pbL (by decide)
  rw [pb_err, if_pos rfl] at henc
  have hdec := packetDecode_meets (pkB pbL) (by rw [pb_len]; decide)
  rw [pk_there pb_err] at hdec
  have hdec2 := packetDecode_meets (pkB pbL ++ [0]) (by rw [List.length_append, pb_len]; decide)
  rw [pb_zero] at hdec2
  have hmis := missing_meets pbL 1 2 (by decide)
  rw [pb_mis, if_pos rfl, pb_misL] at hmis
  have hz : ((pkB pbL).length + 1 ≤ 4611686018427387904) = True := eq_true (by rw [pb_len]; decide)
  have hb0 : (⟨#[0]⟩ : ByteArray) = BA [0] := rfl
  have hsl : ((pbL.map cE).drop 2).take 1 = [e2].map cE := rfl
  have hl4 : pbL.length = 4 := rfl
  have hrow : (∀ row ∈ List.map cE pbL, row.length = 5) = True := eq_true (cE_row pbL)
  have hsame := sameLog_meets pbL (by decide)
  have hsame2 := sameLog_meets [e2] (by decide)
  generalize pkB pbL = s at *
  refine Meets.of_walk Try.func16 Try.ntmps16 low16 res16 (by simp) fun x hx => ?_
  simp only [go_sem, Nat.reduceLT, Nat.reduceAdd, Nat.reduceEqDiff, Nat.reduceLeDiff, Nat.reduceSub, Nat.reduceMul, Int.reduceEq, eq_self, reduceIte, L16, R16]
  refine ops_call (.pure hent) ?_
  simp only [go_sem, Nat.reduceLT, Nat.reduceAdd, Nat.reduceEqDiff, Nat.reduceLeDiff, Nat.reduceSub, Nat.reduceMul, Int.reduceEq, eq_self, reduceIte]
  refine ops_call (.pureE henc (by simp [go_sem, Nat.reduceLT, Nat.reduceAdd, Nat.reduceEqDiff, Nat.reduceLeDiff, Nat.reduceSub, Nat.reduceMul, Int.reduceEq, eq_self, reduceIte])) ?_
  simp only [go_sem, Nat.reduceLT, Nat.reduceAdd, Nat.reduceEqDiff, Nat.reduceLeDiff, Nat.reduceSub, Nat.reduceMul, Int.reduceEq, eq_self, reduceIte]
  refine ops_call (.pureE hdec (by simp [go_sem, Nat.reduceLT, Nat.reduceAdd, Nat.reduceEqDiff, Nat.reduceLeDiff, Nat.reduceSub, Nat.reduceMul, Int.reduceEq, eq_self, reduceIte])) ?_
  simp only [go_sem, Nat.reduceLT, Nat.reduceAdd, Nat.reduceEqDiff, Nat.reduceLeDiff, Nat.reduceSub, Nat.reduceMul, Int.reduceEq, eq_self, reduceIte, hb0, BA_app, BA_size, List.length_cons, List.length_nil, hz]
  refine ops_call (.pureE hdec2 (by simp [go_sem, Nat.reduceLT, Nat.reduceAdd, Nat.reduceEqDiff, Nat.reduceLeDiff, Nat.reduceSub, Nat.reduceMul, Int.reduceEq, eq_self, reduceIte])) ?_
  simp only [go_sem, Nat.reduceLT, Nat.reduceAdd, Nat.reduceEqDiff, Nat.reduceLeDiff, Nat.reduceSub, Nat.reduceMul, Int.reduceEq, eq_self, reduceIte]
  refine ops_call (.pure hent) ?_
  simp only [go_sem, Nat.reduceLT, Nat.reduceAdd, Nat.reduceEqDiff, Nat.reduceLeDiff, Nat.reduceSub, Nat.reduceMul, Int.reduceEq, eq_self, reduceIte]
  refine ops_call (.pureE hmis (by simp [go_sem, Nat.reduceLT, Nat.reduceAdd, Nat.reduceEqDiff, Nat.reduceLeDiff, Nat.reduceSub, Nat.reduceMul, Int.reduceEq, eq_self, reduceIte])) ?_
  simp only [go_sem, Nat.reduceLT, Nat.reduceAdd, Nat.reduceEqDiff, Nat.reduceLeDiff, Nat.reduceSub, Nat.reduceMul, Int.reduceEq, eq_self, reduceIte]
  refine ops_call (.pure hent) ?_
  simp only [go_sem, Nat.reduceLT, Nat.reduceAdd, Nat.reduceEqDiff, Nat.reduceLeDiff, Nat.reduceSub, Nat.reduceMul, Int.reduceEq, eq_self, reduceIte]
  refine ops_call (.pureE hsame (by simp [go_sem, Nat.reduceLT, Nat.reduceAdd, Nat.reduceEqDiff, Nat.reduceLeDiff, Nat.reduceSub, Nat.reduceMul, Int.reduceEq, eq_self, reduceIte])) ?_
  simp only [go_sem, Nat.reduceLT, Nat.reduceAdd, Nat.reduceEqDiff, Nat.reduceLeDiff, Nat.reduceSub, Nat.reduceMul, Int.reduceEq, eq_self, reduceIte]
  refine ops_call (.pure hent) ?_
  simp only [go_sem, Nat.reduceLT, Nat.reduceAdd, Nat.reduceEqDiff, Nat.reduceLeDiff, Nat.reduceSub, Nat.reduceMul, Int.reduceEq, eq_self, reduceIte, Int.ofNat_zero, Int.natCast_one, Int.cast_ofNat_Int, Int.reduceLT, Int.reduceLE, Int.reduceToNat, Nat.reduceLT, Int.toNat_zero, Int.natCast_zero, Int.le_refl, Int.lt_irrefl, Int.reduceAdd, frz, false_or, or_true, List.length_map, hl4, hrow, Int.reduceSub, hsl]
  refine ops_call (.pureE hsame2 (by simp [go_sem, Nat.reduceLT, Nat.reduceAdd, Nat.reduceEqDiff, Nat.reduceLeDiff, Nat.reduceSub, Nat.reduceMul, Int.reduceEq, eq_self, reduceIte])) ?_
  simp only [go_sem, Nat.reduceLT, Nat.reduceAdd, Nat.reduceEqDiff, Nat.reduceLeDiff, Nat.reduceSub, Nat.reduceMul, Int.reduceEq, eq_self, reduceIte]
  refine ret_pure hx ?_
  simp [go_sem, Nat.reduceLT, Nat.reduceAdd, Nat.reduceEqDiff, Nat.reduceLeDiff, Nat.reduceSub, Nat.reduceMul, Int.reduceEq, eq_self, reduceIte, L16, R16]
end Go.Proofs.Ytkibfciheifphaa
/- PacketWhole, as a contract. -/
namespace Go.Proofs.Ytkibfciheifphaa
set_option linter.unusedSimpArgs false
set_option linter.unusedVariables false
open Go.RowKit
theorem misL_all {l : List Entry} (h : LogOk l) : misL l 0 0 = l := by
  refine List.filter_eq_self.2 fun e he => ?_
  obtain ⟨k, hk, rfl⟩ := memE.1 he
  have := h.num k hk
  simp only [inB, vAt]
  simp
  omega
end Go.Proofs.Ytkibfciheifphaa
/- What must be in any case of sites; SiteTells, as a contract. -/
namespace Go.Proofs.Ytkibfciheifphaa
set_option linter.unusedSimpArgs false
set_option linter.unusedVariables false
open Go.RowKit
def sbL : List Entry := [e0, e2]
def sbX : Entry := ⟨⟨1, 1⟩, 4, ⟨#[116]⟩, []⟩
def sbM : List Entry := [e0, e2, sbX]
def sbY : Entry := ⟨⟨1, 2⟩, 1, ⟨#[117]⟩, [⟨0, 2⟩]⟩
theorem sb_ok1 : LogOk sbL := log_ok.1 (by decide +kernel)
theorem sb_ok2 : LogOk sbM := log_ok.1 (by decide +kernel)
theorem sb_h1 : sortI (headsC sbL 4) = [] := by rw [← heads_eq sb_ok1]; decide +kernel
theorem sb_h2 : sortI (headsC sbM 1) = [⟨0, 2⟩] := by rw [← heads_eq sb_ok2]; decide +kernel
theorem sb_e1 : rcErrX 1 [] [] e2 = 0 := by decide +kernel
theorem sb_s1 : rcSiX 1 [] [] e2 = (1, [], [e2]) := by kernel_rfl
theorem sb_e2 : rcErrX 1 [] [e2] e0 = 0 := by decide +kernel
theorem sb_s2 : rcSiX 1 [] [e2] e0 = (1, sbL, []) := by kernel_rfl
theorem sb_c1 : siErr 1 sbL [] = 0 := by decide +kernel
theorem sb_c2 : siErr 1 sbM [] = 0 := by decide +kernel
theorem sb_c3 : siErr 1 (sbM ++ [sbY]) [] = 0 := by decide +kernel
theorem sb_a1 : apErr 1 sbL 4 ⟨#[116]⟩ = 0 := by rw [apErr, sb_h1]; decide +kernel
theorem sb_a2 : apErr 1 sbM 1 ⟨#[117]⟩ = 0 := by rw [apErr, sb_h2]; decide +kernel
theorem sb_x1 : apE 1 sbL 4 ⟨#[116]⟩ = sbX := by rw [apE, sb_h1]; rfl
theorem sb_x2 : apE 1 sbM 1 ⟨#[117]⟩ = sbY := by rw [apE, sb_h2]; rfl
theorem sb_ae1 : apErrX 1 sbL [] 4 ⟨#[116]⟩ = 0 := by rw [apErrX, if_neg (by simp [sb_c1]), sb_a1]
theorem sb_ae2 : apErrX 1 sbM [] 1 ⟨#[117]⟩ = 0 := by rw [apErrX, if_neg (by simp [sb_c2]), sb_a2]
theorem sb_as1 : apSiX 1 sbL [] 4 ⟨#[116]⟩ = (1, sbM, []) := by rw [apSiX, if_neg (by simp [sb_c1]), apSi, if_pos sb_a1, sb_x1]; rfl
theorem sb_as2 : apSiX 1 sbM [] 1 ⟨#[117]⟩ = (1, sbM ++ [sbY], []) := by rw [apSiX, if_neg (by simp [sb_c2]), apSi, if_pos sb_a2, sb_x2]; rfl
theorem sb_an1 : apEnX 1 sbL [] 4 ⟨#[116]⟩ = sbX := by rw [apEnX, if_neg (by simp [sb_c1]), apEn, if_pos sb_a1, sb_x1]
theorem sb_an2 : apEnX 1 sbM [] 1 ⟨#[117]⟩ = sbY := by rw [apEnX, if_neg (by simp [sb_c2]), apEn, if_pos sb_a2, sb_x2]
set_option maxRecDepth 10000 in
set_option maxHeartbeats 2000000 in
theorem siteBegun_meets : Meets Try.prog 22 [] [] (.bool true) [] := by
  have hent := entries_meets
  refine Meets.of_walk Try.func22 Try.ntmps22 low22 res22 (by simp) fun x hx => ?_
  simp only [go_sem, Nat.reduceLT, Nat.reduceAdd, Nat.reduceEqDiff, Nat.reduceLeDiff, Nat.reduceSub, Nat.reduceMul, Int.reduceEq, eq_self, reduceIte, L22, R22]
  refine ops_call (.pureE (siNew_meets 1) (by simp [go_sem, Nat.reduceLT, Nat.reduceAdd, Nat.reduceEqDiff, Nat.reduceLeDiff, Nat.reduceSub, Nat.reduceMul, Int.reduceEq, eq_self, reduceIte])) ?_
  rw [if_pos (.inr rfl), if_pos (.inr rfl)]
  simp only [go_sem, Nat.reduceLT, Nat.reduceAdd, Nat.reduceEqDiff, Nat.reduceLeDiff, Nat.reduceSub, Nat.reduceMul, Int.reduceEq, eq_self, reduceIte, cSi]
  refine ops_call (.pure hent) ?_
  simp only [go_sem, Nat.reduceLT, Nat.reduceAdd, Nat.reduceEqDiff, Nat.reduceLeDiff, Nat.reduceSub, Nat.reduceMul, Int.reduceEq, eq_self, reduceIte, Int.ofNat_zero, Int.natCast_one, Int.cast_ofNat_Int, Int.reduceLT, Int.reduceLE, Int.reduceToNat, Nat.reduceLT, Int.toNat_zero, Int.natCast_zero, Int.le_refl, Int.lt_irrefl, Int.reduceAdd, frz, false_or, or_true, cE, List.length_cons, List.length_nil]
  refine ops_call (.pureE (siReceive_meets 1 [] [] e2 (by simp) (by simp)) (by simp [go_sem, Nat.reduceLT, Nat.reduceAdd, Nat.reduceEqDiff, Nat.reduceLeDiff, Nat.reduceSub, Nat.reduceMul, Int.reduceEq, eq_self, reduceIte, cSi, cE])) ?_
  rw [sb_e1, sb_s1]
  simp only [go_sem, Nat.reduceLT, Nat.reduceAdd, Nat.reduceEqDiff, Nat.reduceLeDiff, Nat.reduceSub, Nat.reduceMul, Int.reduceEq, eq_self, reduceIte, cSi3, cSi]
  repeat refine ⟨rfl, ?_⟩
  refine ops_call (.pure hent) ?_
  simp only [go_sem, Nat.reduceLT, Nat.reduceAdd, Nat.reduceEqDiff, Nat.reduceLeDiff, Nat.reduceSub, Nat.reduceMul, Int.reduceEq, eq_self, reduceIte, Int.ofNat_zero, Int.natCast_one, Int.cast_ofNat_Int, Int.reduceLT, Int.reduceLE, Int.reduceToNat, Nat.reduceLT, Int.toNat_zero, Int.natCast_zero, Int.le_refl, Int.lt_irrefl, Int.reduceAdd, frz, false_or, or_true, cE, List.length_cons, List.length_nil]
  refine ops_call (.pureE (siReceive_meets 1 [] [e2] e0 (by simp) (by simp)) (by simp [go_sem, Nat.reduceLT, Nat.reduceAdd, Nat.reduceEqDiff, Nat.reduceLeDiff, Nat.reduceSub, Nat.reduceMul, Int.reduceEq, eq_self, reduceIte, cSi, cE])) ?_
  rw [sb_e2, sb_s2]
  simp only [go_sem, Nat.reduceLT, Nat.reduceAdd, Nat.reduceEqDiff, Nat.reduceLeDiff, Nat.reduceSub, Nat.reduceMul, Int.reduceEq, eq_self, reduceIte, cSi3, cSi]
  repeat refine ⟨rfl, ?_⟩
  refine ops_call (.pureE (siAppend_meets 1 sbL [] 4 ⟨#[116]⟩ (by decide) (by simp)) (by simp [go_sem, Nat.reduceLT, Nat.reduceAdd, Nat.reduceEqDiff, Nat.reduceLeDiff, Nat.reduceSub, Nat.reduceMul, Int.reduceEq, eq_self, reduceIte, cSi])) ?_
  rw [sb_ae1, sb_as1, sb_an1]
  simp only [go_sem, Nat.reduceLT, Nat.reduceAdd, Nat.reduceEqDiff, Nat.reduceLeDiff, Nat.reduceSub, Nat.reduceMul, Int.reduceEq, eq_self, reduceIte, cSi3, cSi, cE]
  repeat refine ⟨rfl, ?_⟩
  refine ops_call (.pureE (siAppend_meets 1 sbM [] 1 ⟨#[117]⟩ (by decide) (by simp)) (by simp [go_sem, Nat.reduceLT, Nat.reduceAdd, Nat.reduceEqDiff, Nat.reduceLeDiff, Nat.reduceSub, Nat.reduceMul, Int.reduceEq, eq_self, reduceIte, cSi])) ?_
  rw [sb_ae2, sb_as2, sb_an2]
  simp only [go_sem, Nat.reduceLT, Nat.reduceAdd, Nat.reduceEqDiff, Nat.reduceLeDiff, Nat.reduceSub, Nat.reduceMul, Int.reduceEq, eq_self, reduceIte, cSi3, cSi, cE]
  repeat refine ⟨rfl, ?_⟩
  refine ops_call (.pureE (siCheck_meets 1 (sbM ++ [sbY]) [] (by decide) (by simp)) (by simp [go_sem, Nat.reduceLT, Nat.reduceAdd, Nat.reduceEqDiff, Nat.reduceLeDiff, Nat.reduceSub, Nat.reduceMul, Int.reduceEq, eq_self, reduceIte, cSi])) ?_
  rw [sb_c3]
  have hL : sbL.length = 2 := rfl
  have hX : sbX.ls = [] := rfl
  have hY : sbY.ls = [⟨0, 2⟩] := rfl
  have hY1 : sbY.id.r = 1 := rfl
  have hY2 : sbY.id.n = 2 := rfl
  simp only [go_sem, Nat.reduceLT, Nat.reduceAdd, Nat.reduceEqDiff, Nat.reduceLeDiff, Nat.reduceSub, Nat.reduceMul, Int.reduceEq, eq_self, reduceIte, Int.ofNat_zero, Int.natCast_one, Int.cast_ofNat_Int, Int.reduceLT, Int.reduceLE, Int.reduceToNat, Nat.reduceLT, Int.toNat_zero, Int.natCast_zero, Int.le_refl, Int.lt_irrefl, Int.reduceAdd, frz, false_or, or_true, hL, hX, hY, hY1, hY2, List.length_nil, List.length_cons, List.map_nil, List.map_cons]
  refine ops_call (.pure (lawId_meets _ _)) ?_
  simp only [go_sem, Nat.reduceLT, Nat.reduceAdd, Nat.reduceEqDiff, Nat.reduceLeDiff, Nat.reduceSub, Nat.reduceMul, Int.reduceEq, eq_self, reduceIte]
  refine ops_call (.pureE (sameIds_meets [⟨0, 2⟩] [⟨0, 2⟩] (by decide)) (by simp [go_sem, Nat.reduceLT, Nat.reduceAdd, Nat.reduceEqDiff, Nat.reduceLeDiff, Nat.reduceSub, Nat.reduceMul, Int.reduceEq, eq_self, reduceIte, cId])) ?_
  simp only [go_sem, Nat.reduceLT, Nat.reduceAdd, Nat.reduceEqDiff, Nat.reduceLeDiff, Nat.reduceSub, Nat.reduceMul, Int.reduceEq, eq_self, reduceIte]
  refine ops_call (.pure (lawId_meets _ _)) ?_
  simp only [go_sem, Nat.reduceLT, Nat.reduceAdd, Nat.reduceEqDiff, Nat.reduceLeDiff, Nat.reduceSub, Nat.reduceMul, Int.reduceEq, eq_self, reduceIte, Int.ofNat_zero, Int.natCast_one, Int.cast_ofNat_Int, Int.reduceLT, Int.reduceLE, Int.reduceToNat, Nat.reduceLT, Int.toNat_zero, Int.natCast_zero, Int.le_refl, Int.lt_irrefl, Int.reduceAdd, frz, false_or, or_true]
  refine ret_pure hx ?_
  simp [go_sem, Nat.reduceLT, Nat.reduceAdd, Nat.reduceEqDiff, Nat.reduceLeDiff, Nat.reduceSub, Nat.reduceMul, Int.reduceEq, eq_self, reduceIte, L22, R22]
end Go.Proofs.Ytkibfciheifphaa
