/- Joined texts of this claim: S6 S7 D1 E12 D2 D3 Sh S1 G1 M3 D5 D4 D6 D7 D8 D9 D10 G2 D11 G3 M4 D12 D13 D14 D15 T1 T2. -/
import Derived.Test.YtkgobnnkcnnfhaaGreatKC
import Derived.Shelf.Spec.SlicesInsertGrow
import Derived.Test.YtkgobnnkcnnfhaaGreatKB
import Derived.Shelf.SlSortCmp.WholeK
import Derived.Shelf.SlLaysF0
import Derived.Test.YtkgobnnkcnnfhaaGreatProg
import Derived.KernelRfl
import Derived.Shelf.SlSortCmp.Insertion
import Derived.Shelf.SlSortCmp.NoneTotal
set_option linter.unusedSimpArgs false
set_option linter.unusedVariables false
set_option linter.unusedSectionVars false
/- slices.Insert of one element of k cells where there is no room: in memory. -/
namespace Go.Proofs.YtkgobnnkcnnfhaaGreat
open Go.RowKit Go.Lib Go.Sort
open Go.Shelf
theorem insF_grow {k n i : Nat} {cs ROW : Array Value} {vs : List Value} (hz : (n + 1) * k ≤ ROW.size) (hi : i ≤ n) (hv : vs.length = k) (hrow : ∀ t, t < i * k → ROW[t]! = cs[t]!) :
    InsF k n i cs vs (setMany (setMany ROW (i * k) vs) ((i + 1) * k) (seg cs (i * k) ((n - i) * k))) := by
  intro t ht
  obtain ⟨m, rfl⟩ : ∃ m, n = i + m := ⟨n - i, by omega⟩
  have e1 : (i + m + 1) * k = i * k + m * k + k := by rw [Nat.add_mul, Nat.add_mul, Nat.one_mul]
  have e2 : (i + 1) * k = i * k + k := by rw [Nat.add_mul, Nat.one_mul]
  have e3 : i + m - i = m := by omega
  rw [e1] at hz ht
  rw [e2, e3, get_setMany _ _ _ t (by simp; omega), seg_len]
  by_cases h1 : t < i * k
  · rw [if_neg (by omega), if_pos h1, get_setMany _ _ _ t (by omega), if_neg (by omega), hrow t h1]
  · by_cases h2 : t < i * k + k
    · rw [if_neg (by omega), if_neg h1, if_pos h2, get_setMany _ _ _ t (by omega), hv, if_pos (by omega)]
    · rw [if_pos (by omega), if_neg h1, if_neg h2, seg_get! (by omega), show i * k + (t - (i * k + k)) = t - k by omega]
set_option maxHeartbeats 4000000 in
set_option maxRecDepth 1000000 in
theorem insE_grow (blk off cap n i m vb voff vc : Nat) (cs : Array Value) (vs : List Value) (w : World) (h0 : off = 0) (hm1 : m = 1) (hH : Holds id w blk off cs) (hz : cs.size = cap * 5) (h1 : ∀ t, t < n * 5 → (cs[t]!).oneCell' = true)
    (hvl : vs.length = 5) (hvs : ∀ j v, vs[j]? = some v → w.cell? ⟨vb, voff + j, none⟩ = some v) (h1v : ∀ v ∈ vs, v.oneCell' = true)
    (hi : i < n) (hnc : n ≤ cap) (hroom : cap < n + m) (hbig : (n + m) * 64 ≤ 140737488355328) :
    Calls Tryz.prog 77 #[.slice (some ⟨blk, off, none⟩) n cap, .int .i64 i, .slice (some ⟨vb, voff, none⟩) m vc] w fun e w' => ∃ (q G : Nat) (ROW F : Array Value), e = .returned (.slice (some ⟨w.heap.size, 0, none⟩) (n + m) G) ∧ n + m ≤ G ∧ G ≤ maxLen ∧ ROW.size = G * 5 ∧ F.size = ROW.size ∧ InsF 5 n i cs vs F ∧ w' = putRow id (Sort.ahead (w.alloc (.cells ROW 53)) q) w.heap.size 0 F := by
  have mixed : Tryz.prog.follows Departure.mixedOrders = true := rfl
  have hz1 : ¬ ((m : Int) = 0) := by omega
  have hz2 : ¬ ((i : Int) = (n : Int)) := by omega
  have hz3 : (cap : Int) < (n : Int) + (m : Int) := by omega
  have hsz : (Tryz.prog.info? 53).map (·.size) = some 5 := by kernel_rfl
  obtain ⟨i0, hi0, hz0, hzs, hzb⟩ := info_parts (P := Tryz.prog) (e := 53) (z := .agg #[.int .i64 0, .int .i64 0, .int .i64 0, .string ⟨#[]⟩, .slice none 0 0]) (size := 5) (bytes := 64) (by kernel_rfl)
  have hcz : n * 5 ≤ cs.size := by rw [hz]; exact Nat.mul_le_mul_right _ hnc
  have hbw : blk < w.heap.size := block_lt_of_cell (hH 0 (by omega)).1
  have hvw : vb < w.heap.size := block_lt_of_cell (hvs 0 _ (List.getElem?_eq_getElem (by omega)))
  have hkk : (n : Int) + (m : Int) - (i : Int) = ((n + m - i : Nat) : Int) := by omega
  have hik : i + (n + m - i) = n + m := by omega
  have hold : (Builtin.firstCells i0.size i (.slice (some ⟨blk, off, none⟩) i cap)).run Tryz.prog w.drew = .ok (seg cs 0 (i * 5)).toArray w.drew := by
    rw [hzs]
    exact run_firstCells_some w.drew 5 i ⟨blk, off, none⟩ i cap (seg cs 0 (i * 5)) (seg_len _ _ _) (fun j v hj => by
      obtain ⟨ht, rfl⟩ := seg_get hj
      rw [Addr.add_lit, Nat.zero_add]
      exact (hH _ (by omega)).1)
  obtain ⟨G, hG⟩ : ∃ G, G = grownCap w (n + m) cap 53 := ⟨_, rfl⟩
  obtain ⟨ROW, hROW⟩ : ∃ ROW : Array Value, ROW = (seg cs 0 (i * 5)).toArray ++ Builtin.zeroCells (Value.cells (.agg #[.int .i64 0, .int .i64 0, .int .i64 0, .string ⟨#[]⟩, .slice none 0 0])) (n + m - i) ++ Builtin.zeroCells (Value.cells (.agg #[.int .i64 0, .int .i64 0, .int .i64 0, .string ⟨#[]⟩, .slice none 0 0])) (G - (n + m)) := ⟨_, rfl⟩
  have hrz : ∀ ty, (Builtin.append_ #[45, 3] ty #[.slice (some ⟨blk, off, none⟩) i cap, .int .i64 ((n : Int) + (m : Int) - (i : Int))]).run Tryz.prog w =
      .ok (.slice (some ⟨w.heap.size, 0, none⟩) (n + m) G) (w.drew.alloc (.cells ROW 53)) := fun ty => by
    have h := Lib.run_append_grow_zeros w 45 3 ty 53 i0 _ .i64 .i64 rfl rfl hi0 hz0 (some ⟨blk, off, none⟩) i cap (seg cs 0 (i * 5)) hold (n + m - i) (by omega) (by omega) (by omega) (by omega) (by rw [hzb]; omega) (by rw [hzb, hik]; exact growslice_fits hroom hbig)
    rw [hik, ← hG, ← hROW] at h
    rw [hkk]
    exact h
  have hGn : n + m ≤ G := by rw [hG]; exact grownCap_ge w _ _ _
  have hGm : G ≤ maxLen := by rw [hG]; exact grownCap_le_maxLen w (n + m) cap 53 (by unfold maxLen; omega)
  have hG63 : G ≤ 9223372036854775807 := by have := hGm; unfold maxLen at this; omega
  have hRs : ROW.size = G * 5 := by
    rw [hROW]
    simp [Builtin.zeroCells, Value.cells, seg_len]
    omega
  have hRow : ∀ t, t < i * 5 → ROW[t]! = cs[t]! := fun t ht => by
    rw [getElem!_pos ROW t (by omega)]
    simp only [hROW]
    rw [Array.getElem_append_left (by simp [seg_len]; omega), Array.getElem_append_left (by simp [seg_len]; omega)]
    have := seg_get! (cs := cs) (s := 0) ht
    rw [getElem!_pos _ t (by rw [seg_len]; exact ht), Nat.zero_add] at this
    simpa using this
  obtain ⟨W1, hW1⟩ : ∃ W1, W1 = w.drew.alloc (.cells ROW 53) := ⟨_, rfl⟩
  have hN : Holds id W1 w.heap.size 0 ROW := fun j hj => by
    rw [Nat.zero_add, hW1]
    refine ⟨?_, World.frozen?_alloc_at (w := w.drew) ROW _ w.heap.size j rfl⟩
    rw [World.cell?_alloc_at (w := w.drew) ROW _ w.heap.size j rfl, Array.getElem?_eq_getElem hj, getElem!_pos ROW j hj]; rfl
  have hOb : ∀ j v, w.cell? ⟨blk, j, none⟩ = some v → W1.cell? ⟨blk, j, none⟩ = some v := fun j v h => by rw [hW1, World.cell?_alloc_past (w := w.drew) _ blk j hbw]; exact h
  have hOv : ∀ j v, w.cell? ⟨vb, j, none⟩ = some v → W1.cell? ⟨vb, j, none⟩ = some v := fun j v h => by rw [hW1, World.cell?_alloc_past (w := w.drew) _ vb j hvw]; exact h
  have hRn : (n + m) * 5 ≤ ROW.size := by rw [hRs]; exact Nat.mul_le_mul_right _ hGn
  have hcpA : ∀ ty dc, (Builtin.copy_ #[45, 45] ty #[.slice (some ⟨w.heap.size, i * 5, none⟩) (n + m - i) dc, .slice (some ⟨vb, voff, none⟩) m vc]).run Tryz.prog W1 = .ok (goInt m) (W1.setCells w.heap.size (i * 5) vs) := fun ty dc =>
    run_copy_cellsK W1 _ _ ty 53 5 w.heap.size (i * 5) (n + m - i) dc ⟨vb, voff, none⟩ m vc m vs rfl hsz (by simp only [Nat.min_def]; split <;> omega) (by omega)
      (fun j v hj => by rw [Addr.add_lit]; exact hOv _ v (hvs j v hj))
      (fun j hj => by have := (hN (i * 5 + j) (by omega)).1; rw [Nat.zero_add] at this; rw [this]; rfl) (fun j hj => by have := (hN (i * 5 + j) (by omega)).2; rwa [Nat.zero_add] at this) h1v
  obtain ⟨news, hnews⟩ : ∃ news, news = seg cs (i * 5) ((n - i) * 5) := ⟨_, rfl⟩
  have hnl : news.length = (n - i) * 5 := by rw [hnews, seg_len]
  obtain ⟨W2, hW2⟩ : ∃ W2, W2 = W1.setCells w.heap.size (i * 5) vs := ⟨_, rfl⟩
  have hself : putRow id W1 w.heap.size 0 ROW = W1 := putRow_self id W1 w.heap.size 0 ROW hN
  have hput : W2 = putRow id W1 w.heap.size 0 (setMany ROW (i * 5) vs) := by
    rw [← setCells_putRow _ _ _ _ _ _ (by omega), hself, hW2, Nat.zero_add]
  have hN2 : Holds id W2 w.heap.size 0 (setMany ROW (i * 5) vs) := by rw [hput]; exact holds_putRow id _ _ _ ROW _ hN (by simp)
  have hbN : blk ≠ w.heap.size := by omega
  have hcpB : ∀ ty dc sc, (Builtin.copy_ #[45, 45] ty #[.slice (some ⟨w.heap.size, (i + m) * 5, none⟩) (n + m - (i + m)) dc, .slice (some ⟨blk, off + i * 5, none⟩) (n - i) sc]).run Tryz.prog W2.drew = .ok (goInt ((n - i : Nat) : Int)) (W2.drew.setCells w.heap.size ((i + m) * 5) news) := fun ty dc sc =>
    run_copy_cellsK W2.drew _ _ ty 53 5 w.heap.size ((i + m) * 5) (n + m - (i + m)) dc ⟨blk, off + i * 5, none⟩ (n - i) sc (n - i) news rfl hsz (by simp only [Nat.min_def]; split <;> omega) hnl
      (fun j v hj => by
        rw [hnews] at hj
        obtain ⟨ht, rfl⟩ := seg_get hj
        rw [Addr.add_lit, Nat.add_assoc]
        show W2.cell? _ = _
        rw [hW2, World.cell?_setCells_out _ _ _ _ _ (fun h _ => absurd h hbN)]
        exact hOb _ _ (hH _ (by omega)).1)
      (fun j hj => by have := (hN2 ((i + m) * 5 + j) (by rw [size_setMany]; omega)).1; rw [Nat.zero_add] at this; show (W2.cell? _).isSome = true; rw [this]; rfl)
      (fun j hj => by have := (hN2 ((i + m) * 5 + j) (by rw [size_setMany]; omega)).2; rw [Nat.zero_add] at this; exact this) (by rw [hnews]; exact seg_one h1 (by omega))
  have fin : Aside (∃ (q : Nat) (F : Array Value), F.size = ROW.size ∧ InsF 5 n i cs vs F ∧ W2.drew.setCells w.heap.size ((i + m) * 5) news = putRow id (Sort.ahead (w.alloc (.cells ROW 53)) q) w.heap.size 0 F) := by
    subst h0 hm1
    refine ⟨2, _, ?_, insF_grow hRn (by omega) hvl hRow, ?_⟩
    · simp
    · have e : W2.drew = putRow id (Sort.ahead (w.alloc (.cells ROW 53)) 2) w.heap.size 0 (setMany ROW (i * 5) vs) := by rw [hput, hW1]; rfl
      rw [← setCells_putRow _ _ _ _ _ _ (by rw [size_setMany, seg_len]; omega), ← e, hnews, Nat.zero_add]
  rw [← hW1] at hrz
  rw [← hW2] at hcpA
  have B : Aside (ROW.size = G * 5 ∧ G ≤ maxLen) := ⟨hRs, hGm⟩
  have hGi : ¬ (G = i) := by omega
  have hGim : ¬ (G = i + m) := by omega
  have hci : ¬ (cap = i) := by omega
  have hw1 : IntKind.i64.wrap ((i : Int) + (m : Int)) = (i : Int) + (m : Int) := by rw [IntKind.wrap_i64]; omega
  have hb1 : (0 : Int) ≤ (i : Int) + (m : Int) := by omega
  have hin : i ≤ n := by omega
  have htn : ((i : Int) + (m : Int)).toNat = i + m := by omega
  have hb3 : (i : Int) ≤ (n : Int) := by omega
  clear hself hput hN2 hW1 hW2 hnews hnl hOb hOv hN hRow hRn hRs hROW hG hold hH hz hcz h1 hvs h1v hvl h0 hm1 hkk hik hGm hbig hzb hzs hz0 hi0
  go_enter Tryz.func77, Tryz.ntmps77
  go_wp2_with (first
    | (at_builtin; refine Lib.wpList_append_run _ rfl _ _ _ _ rfl _ _ rfl rfl _ _ (hrz _) ?_)
    | (at_builtin; refine wpList_copy_runI _ rfl _ _ 45 45 rfl _ _ rfl rfl (hcpA _ _) ?_))
  go_region_law_o (refine step_copy_runI rfl _ _ 45 45 rfl (.slice (some ⟨w.heap.size, (i + m) * 5, none⟩) (n + m - (i + m)) (G - (i + m))) (.slice (some ⟨blk, off + i * 5, none⟩) (n - i) (cap - i)) (by simp [Act.eval, Act.put]) (by simp [Act.eval, Act.put]) (hcpB _ _ _) ?_)
  go_wp2
  go_ret
  obtain ⟨q, F, f1, f2, f3⟩ := fin.out
  exact ⟨q, G, ROW, F, rfl, hGn, B.out.2, B.out.1, f1, f2, f3⟩
end Go.Proofs.YtkgobnnkcnnfhaaGreat
/- slices.Insert of one element of k cells, as a contract. -/
namespace Go.Proofs.YtkgobnnkcnnfhaaGreat
open Go.RowKit Go.Lib Go.Sort
open Go.Shelf
theorem ins_rep {S : Nat → Nat → Prop} {w : World} {rows : List (List PV)} {row0 : List PV} {cs cur' : Array Value} {vs : List Value} {sz n i : Nat} (hn : rows.length = n) (hi : i ≤ n) (hz : ∀ row ∈ rows, row.length = sz) (hz0 : row0.length = sz)
    (hget : ∀ t y, t < (n + 1) * sz → cur'[t]? = some y → y = if t < i * sz then cs[t]! else if t < i * sz + sz then vs[t - i * sz]! else cs[t - sz]!)
    (hrow : ∀ (k : Nat) row (j : Nat) p, rows[k]? = some row → row[j]? = some p → ∃ y, cs[k * sz + j]? = some y ∧ y.oneCell' = true ∧ RepP S w p y)
    (hnew : ∀ (j : Nat) p, row0[j]? = some p → ∃ y, vs[j]? = some y ∧ y.oneCell' = true ∧ RepP S w p y) :
    ∀ (k : Nat) row (j : Nat) p u, (rows.insertIdx i row0)[k]? = some row → row[j]? = some p → cur'[k * sz + j]? = some u → u.oneCell' = true ∧ RepP S w p u := by
  intro k row j p u a b c
  have hk : k < n + 1 := by
    have := (List.getElem?_eq_some_iff.1 a).1
    rw [List.length_insertIdx, if_pos (by omega)] at this; omega
  have hrl : row.length = sz := by
    rw [List.getElem?_insertIdx] at a
    split at a
    · exact hz _ (List.mem_of_getElem? a)
    · split at a
      · split at a
        · cases a; exact hz0
        · cases a
      · exact hz _ (List.mem_of_getElem? a)
  have hj : j < sz := by rw [← hrl]; exact (List.getElem?_eq_some_iff.1 b).1
  have hle : (k + 1) * sz ≤ (n + 1) * sz := Nat.mul_le_mul_right _ (by omega)
  rw [Nat.add_mul, Nat.one_mul] at hle
  have hu := hget _ _ (by omega) c
  rw [List.getElem?_insertIdx] at a
  by_cases h1 : k < i
  · rw [if_pos h1] at a
    have : (k + 1) * sz ≤ i * sz := Nat.mul_le_mul_right _ (by omega)
    rw [Nat.add_mul, Nat.one_mul] at this
    rw [if_pos (by omega)] at hu
    obtain ⟨y, y1, y2, y3⟩ := hrow k row j p a b
    obtain ⟨y4, y5⟩ := Array.getElem?_eq_some_iff.1 y1
    rw [getElem!_pos cs _ y4, y5] at hu
    subst hu
    exact ⟨y2, y3⟩
  · rw [if_neg h1] at a
    have hik : i * sz ≤ k * sz := Nat.mul_le_mul_right _ (by omega)
    by_cases h2 : k = i
    · subst h2
      rw [if_pos rfl, if_pos (by omega)] at a
      cases a
      rw [if_neg (by omega), if_pos (by omega), show k * sz + j - k * sz = j by omega] at hu
      obtain ⟨y, y1, y2, y3⟩ := hnew j p b
      obtain ⟨y4, y5⟩ := List.getElem?_eq_some_iff.1 y1
      rw [getElem!_pos vs _ y4, y5] at hu
      subst hu
      exact ⟨y2, y3⟩
    · rw [if_neg h2] at a
      have h3 : (i + 1) * sz ≤ k * sz := Nat.mul_le_mul_right _ (by omega)
      rw [Nat.add_mul, Nat.one_mul] at h3
      rw [if_neg (by omega), if_neg (by omega)] at hu
      obtain ⟨y, y1, y2, y3⟩ := hrow (k - 1) row j p a b
      obtain ⟨k', rfl⟩ : ∃ k', k = k' + 1 := ⟨k - 1, by omega⟩
      rw [Nat.add_sub_cancel] at y1
      rw [show (k' + 1) * sz + j - sz = k' * sz + j by rw [Nat.add_mul, Nat.one_mul]; omega] at hu
      obtain ⟨y4, y5⟩ := Array.getElem?_eq_some_iff.1 y1
      rw [getElem!_pos cs _ y4, y5] at hu
      subst hu
      exact ⟨y2, y3⟩
theorem RepV.list_one {S : Nat → Nat → Prop} {w : World} {C : Conc} {row : List PV} {v : Value} (h : RepV S w C (.list [row]) v) (h0 : 0 < row.length) :
    ∃ (b o c : Nat) (x : Nat → Value), v = .slice (some ⟨b, o, none⟩) 1 c ∧ ∀ (j : Nat) p, row[j]? = some p → S b (o + j) ∧ w.cell? ⟨b, o + j, none⟩ = some (x j) ∧ RepP S w p (x j) := by
  cases h.list_inv with
  | list _ a c sz x hc hm hsz hz hl hr =>
    obtain ⟨b, o, ha, -, -⟩ := hl 0 row 0 row[0] rfl (List.getElem?_eq_getElem h0)
    refine ⟨b, o, c, x 0, by rw [ha]; rfl, fun j p hp => ?_⟩
    obtain ⟨b', o', ha', h1, h2⟩ := hl 0 row j p rfl hp
    rw [ha] at ha'
    cases ha'
    rw [Nat.zero_mul, Nat.add_zero] at h1 h2
    exact ⟨h1, h2, hr 0 row j p rfl hp⟩
theorem insE_meets (rows : List (List PV)) (row0 : List PV) (v i : Nat) (hi : i ≤ rows.length) (hr0 : row0.length = 5) (hbig : (rows.length + 1) * 64 ≤ 140737488355328) :
    Meets Tryz.prog 77 [.arr 0 v, .int .i64 i, .list [row0]] [.arr v true false 53 5 rows] (.arr 0 (v + 1)) [.arr (v + 1) true false 53 5 (rows.insertIdx i row0)] := by
  intro x vs hx h0 hp
  obtain ⟨a, b, c, rfl, p1, p2, p3⟩ := three_args hp.1
  have ha := hp.2 0 _ _ rfl p1
  obtain rfl := (hp.2 1 _ _ rfl p2).int_inv
  obtain ⟨vb, vo, vc, xv, rfl, hxv⟩ := (hp.2 2 _ _ rfl p3).list_one (by omega)
  obtain ⟨e1, e2, e3⟩ := h0.row (id := 0) rfl ha
  have hlen : (rows.insertIdx i row0).length = rows.length + 1 := by rw [List.length_insertIdx, if_pos hi]
  have hrl : ∀ row ∈ rows.insertIdx i row0, row.length = 5 := fun row hr => by
    rcases (List.mem_insertIdx hi).1 hr with rfl | hr
    · exact hr0
    · exact e2 row hr
  obtain ⟨ws, hws⟩ : ∃ ws : List Value, ws = (List.range 5).map xv := ⟨_, rfl⟩
  have hwl : ws.length = 5 := by rw [hws]; simp
  have hwg : ∀ j u, ws[j]? = some u → ∃ p, row0[j]? = some p ∧ u = xv j := fun j u hu => by
    have hj : j < 5 := by rw [← hwl]; exact (List.getElem?_eq_some_iff.1 hu).1
    rw [hws, List.getElem?_map, List.getElem?_range hj] at hu
    exact ⟨_, List.getElem?_eq_getElem (by omega), (Option.some.inj hu).symm⟩
  have hwc : ∀ j u, ws[j]? = some u → x.w0.cell? ⟨vb, vo + j, none⟩ = some u := fun j u hu => by
    obtain ⟨p, hp, rfl⟩ := hwg j u hu
    exact (hxv j p hp).2.1
  have hw1 : ∀ u ∈ ws, u.oneCell' = true := fun u hu => by
    obtain ⟨j, hj, rfl⟩ := List.getElem_of_mem hu
    obtain ⟨p, hp, e⟩ := hwg j _ (List.getElem?_eq_getElem hj)
    rw [e]; exact (hxv j p hp).2.2.one
  have hnew : ∀ (j : Nat) p, row0[j]? = some p → ∃ y, ws[j]? = some y ∧ y.oneCell' = true ∧ RepP (Stab x x.C0 _ x.w0) x.w0 p y := fun j p hp => by
    have hj : j < 5 := by rw [← hr0]; exact (List.getElem?_eq_some_iff.1 hp).1
    refine ⟨xv j, by rw [hws, List.getElem?_map, List.getElem?_range hj]; rfl, (hxv j p hp).2.2.one, (hxv j p hp).2.2⟩
  rcases e3 with ⟨rfl, hnil⟩ | ⟨g, cap, cur, rfl, hc, hcap, hm, hz, hrow⟩
  · subst hnil
    obtain rfl : i = 0 := by simpa using hi
    refine (insE_end_grow none 0 0 1 vb vo vc [] ws x.w0 rfl (fun _ => ⟨rfl, rfl⟩) rfl (fun b h => by cases h) hwl hwc hw1 (by omega) (by omega) (by omega)).mono ?_
    rintro e w' ⟨v', rfl, hown, hgr⟩
    obtain ⟨o1, ⟨-, o2⟩ | ⟨g', cap', cur', rfl, o3, o4, o5, o6, o7, o8⟩⟩ := hown
    · simp at o2
    · obtain ⟨C', k1, k2, k3⟩ := h0.rerow (id := 0) (v' := v + 1) (g' := g') (cap' := cap') (rows' := [row0]) (cur' := cur') rfl
        ⟨hgr.size, hgr.os, hgr.tape, hgr.output, fun b hb _ => hgr.block b hb (by simp)⟩ (.inr o3) (.inr (by omega)) o4 o5 o6 o7 (fun row hr => by simp at hr; subst hr; exact hr0)
        (ins_rep (rows := []) (row0 := row0) (cs := #[]) (vs := ws) (n := 0) (i := 0) rfl (by omega) (fun row hr => by simp at hr) hr0 (fun t y ht hy => by
          rw [if_neg (by omega), if_pos (by omega), Nat.zero_mul, Nat.sub_zero]
          have := congrArg (fun l => l[t]?) o8
          simp only [List.nil_append] at this
          rw [List.getElem?_take, if_pos (by omega), Array.getElem?_toList, hy] at this
          obtain ⟨h1, h2⟩ := List.getElem?_eq_some_iff.1 this.symm
          rw [getElem!_pos ws t h1, h2]) (fun k row j p h => by simp at h) hnew)
      exact ⟨_, C', rfl, k1, k3⟩
  · have hH := holds_cur hc
    have hown : (x.C0.sv 0).ownBlock = some g := by rw [← e1]; rfl
    have hcs : rows.length * 5 ≤ cur.size := by rw [hz]; exact Nat.mul_le_mul_right _ hcap
    have hcap63 : cap ≤ 9223372036854775807 := by simp [maxLen] at hm; omega
    have hone : ∀ t, t < rows.length * 5 → (cur[t]!).oneCell' = true := fun t ht => by
      have hk : t / 5 < rows.length := Nat.div_lt_of_lt_mul (by omega)
      have hj : t % 5 < (rows[t / 5]'hk).length := by rw [e2 _ (List.getElem_mem hk)]; exact Nat.mod_lt _ (by omega)
      obtain ⟨y, y1, y2, -⟩ := hrow (t / 5) _ (t % 5) _ (List.getElem?_eq_getElem hk) (List.getElem?_eq_getElem hj)
      rw [show t / 5 * 5 + t % 5 = t by omega] at y1
      obtain ⟨y4, y5⟩ := Array.getElem?_eq_some_iff.1 y1
      rw [getElem!_pos cur _ y4, y5]; exact y2
    have hcell0 := hwc 0 _ (List.getElem?_eq_getElem (by omega))
    have hvb : vb ≠ g := fun e => by
      have := ((hxv 0 _ (List.getElem?_eq_getElem (by omega))).1.2.2 0 _ rfl) (by rw [hown, e])
      exact absurd this.1 (by decide)
    have hfb : ∀ o, x.w0.frozen? ⟨g, o, none⟩ = false := fun o => by simp [World.frozen?, hc]
    have hsb : x.w0.shape? g = some (53, cap * 5) := by simp [World.shape?, hc, hz]
    obtain ⟨tA, kA, hsa, hkA⟩ : ∃ tA kA, x.w0.shape? vb = some (tA, kA) ∧ kA ≠ 0 := by
      unfold World.cell? at hcell0
      unfold World.shape?
      split at hcell0
      · rename_i cc ee ff hh
        refine ⟨ee, cc.size, by rw [hh], fun e => ?_⟩
        simp at hcell0
        obtain ⟨h1, -⟩ := Array.getElem?_eq_some_iff.1 hcell0
        omega
      · cases hcell0
    -- in place
    have inplace : ∀ (q : Nat) (F : Array Value), F.size = cur.size → InsF 5 rows.length i cur ws F → rows.length + 1 ≤ cap →
        ∃ C', HR x C' [.arr (v + 1) true false 53 5 (rows.insertIdx i row0)] (putRow id (Sort.ahead x.w0 q) g 0 F) ∧ RepV (Stab x C' [.arr (v + 1) true false 53 5 (rows.insertIdx i row0)] (putRow id (Sort.ahead x.w0 q) g 0 F)) (putRow id (Sort.ahead x.w0 q) g 0 F) C' (.arr 0 (v + 1)) (.slice (some ⟨g, 0, none⟩) (rows.length + 1) cap) := fun q F hFs hF hr => by
      obtain ⟨cur', c1, c2, c3, c4⟩ := row_worldF x.w0 g q F hc
      have hcs1 : (rows.length + 1) * 5 ≤ cur.size := by rw [hz]; exact Nat.mul_le_mul_right _ hr
      obtain ⟨C', k1, k2, k3⟩ := h0.rerow (id := 0) (v' := v + 1) (g' := g) (cap' := cap) (rows' := rows.insertIdx i row0) (cur' := cur') rfl
        ⟨c4.size, c4.os, c4.tape, c4.output, fun b hb hne => c4.blk b hb fun e => hne (by rw [hown, e])⟩ (.inl hown) (.inr (by omega)) c1 (by rw [hlen]; omega) hm (by rw [c2, hz]) hrl
        (ins_rep rfl hi e2 hr0 (fun t y ht hy => (c3 t y (by omega) hy).trans (hF t ht)) hrow hnew)
      rw [hlen] at k3
      exact ⟨C', k1, k3⟩
    by_cases hroom : rows.length + 1 ≤ cap
    · by_cases hin : i = rows.length
      · subst hin
        refine Calls.mono (insE_end_room g 0 cap rows.length 1 vb vo vc cur ws x.w0 rfl rfl hH hz hwl hwc hw1 hcap63 hroom) ?_
        rintro e w' ⟨rfl, q, F, f1, f2, rfl⟩
        obtain ⟨C', k1, k3⟩ := inplace q F f1 f2 hroom
        exact ⟨_, C', rfl, k1, k3⟩
      · refine Calls.mono (insE_shift g 0 cap rows.length i 1 vb vo vc tA kA cur ws x.w0 rfl rfl hH hz hone hwl hwc hw1 hvb hsa hkA _ hsb hfb hcap63 (by omega) hroom) ?_
        rintro e w' ⟨rfl, q, F, f1, f2, rfl⟩
        obtain ⟨C', k1, k3⟩ := inplace q F f1 f2 hroom
        exact ⟨_, C', rfl, k1, k3⟩
    · by_cases hin : i = rows.length
      · subst hin
        refine Calls.mono (insE_end_grow (some ⟨g, 0, none⟩) cap rows.length 1 vb vo vc (seg cur 0 (rows.length * 5)) ws x.w0 rfl (fun h => by cases h) (seg_len _ _ _) (fun b hb j u hu => by
          cases hb
          obtain ⟨ht, rfl⟩ := seg_get hu
          rw [Addr.add_lit]
          have := (hH j (by omega)).1
          simp only [Nat.zero_add] at this ⊢
          exact this) hwl hwc hw1 hcap (by omega) hbig) ?_
        rintro e w' ⟨v', rfl, how, hgr⟩
        obtain ⟨o1, ⟨-, o2⟩ | ⟨g', cap', cur', rfl, o3, o4, o5, o6, o7, o8⟩⟩ := how
        · omega
        · obtain ⟨C', k1, k2, k3⟩ := h0.rerow (id := 0) (v' := v + 1) (g' := g') (cap' := cap') (rows' := rows.insertIdx rows.length row0) (cur' := cur') rfl
            ⟨hgr.size, hgr.os, hgr.tape, hgr.output, fun b hb _ => hgr.block b hb (by simp)⟩ (.inr o3) (.inr (by omega)) o4 (by rw [hlen]; exact o5) o6 o7 hrl
            (ins_rep rfl hi e2 hr0 (cs := cur) (vs := ws) (fun t y ht hy => by
              have := congrArg (fun l => l[t]?) o8
              rw [List.getElem?_take, if_pos (by omega), Array.getElem?_toList, hy] at this
              by_cases h1 : t < rows.length * 5
              · rw [if_pos h1]
                rw [List.getElem?_append_left (by rw [seg_len]; exact h1)] at this
                obtain ⟨-, h2⟩ := seg_get this.symm
                rw [h2, Nat.zero_add]
              · rw [if_neg h1, if_pos (by omega)]
                rw [List.getElem?_append_right (by rw [seg_len]; omega), seg_len] at this
                obtain ⟨h3, h2⟩ := List.getElem?_eq_some_iff.1 this.symm
                rw [getElem!_pos ws _ h3, h2]) hrow hnew)
          rw [hlen] at k3
          exact ⟨_, C', rfl, k1, k3⟩
      · refine Calls.mono (insE_grow g 0 cap rows.length i 1 vb vo vc cur ws x.w0 rfl rfl hH hz hone hwl hwc hw1 (by omega) hcap (by omega) hbig) ?_
        rintro e w' ⟨q, G, ROW, F, rfl, f1, f2, f3, f4, f5, rfl⟩
        have hcA : (x.w0.alloc (.cells ROW 53)).heap[x.w0.heap.size]? = some (.cells ROW 53 (0, 0)) := heap_alloc_new _ _
        obtain ⟨cur', c1, c2, c3, c4⟩ := row_worldF (x.w0.alloc (.cells ROW 53)) x.w0.heap.size q F hcA
        have hg1 := World.grownBy_alloc x.w0 (.cells ROW 53) none
        have hFs : (rows.length + 1) * 5 ≤ F.size := by rw [f4, f3]; exact Nat.mul_le_mul_right _ f1
        obtain ⟨C', k1, k2, k3⟩ := h0.rerow (id := 0) (v' := v + 1) (g' := x.w0.heap.size) (cap' := G) (rows' := rows.insertIdx i row0) (cur' := cur') rfl
          ⟨Nat.le_trans hg1.size c4.size, c4.os.trans hg1.os, c4.tape.trans hg1.tape, c4.output.trans hg1.output, fun b hb _ => (c4.blk b (Nat.lt_of_lt_of_le hb hg1.size) (by omega)).trans (hg1.block b hb (by simp))⟩ (.inr (Nat.le_refl _)) (.inr (by omega)) c1 (by rw [hlen]; exact f1) f2 (by rw [c2, f3]) hrl
          (ins_rep rfl hi e2 hr0 (fun t y ht hy => (c3 t y (by omega) hy).trans (f5 t ht)) hrow hnew)
        rw [hlen] at k3
        exact ⟨_, C', rfl, k1, k3⟩
end Go.Proofs.YtkgobnnkcnnfhaaGreat
/- Slices asked by a function: contracts of slices.IndexFunc, ContainsFunc, Index, Contains at entries, ids. -/
namespace Go.Proofs.YtkgobnnkcnnfhaaGreat
set_option linter.unusedSimpArgs false
set_option linter.unusedVariables false
open Go.RowKit
def idxF {α : Type} (p : α → Bool) : List α → Nat → Int
 | [], _ => -1
 | x :: l, k => if p x = true then (k : Int) else idxF p l (k + 1)
theorem idxF_drop {α : Type} [Inhabited α] (p : α → Bool) (l : List α) (k : Nat) (h : k < l.length) : idxF p (l.drop k) k = if p (nth l k) = true then (k : Int) else idxF p (l.drop (k + 1)) (k + 1) := by
 rw [List.drop_eq_getElem_cons h, idxF, nth_eq _ _ h]
instance : Inhabited Entry := ⟨⟨default, 0, ⟨#[]⟩, []⟩⟩
theorem idxF_ge {α : Type} (p : α → Bool) : ∀ (l : List α) (k : Nat), idxF p l k = -1 ∧ l.any p = false ∨ (k : Int) ≤ idxF p l k ∧ l.any p = true
 | [], k => .inl ⟨rfl, rfl⟩
 | x :: l, k => by
  simp only [idxF, List.any_cons]
  cases hx : p x
  ·
   rcases idxF_ge p l (k + 1) with ⟨h1, h2⟩ | ⟨h1, h2⟩
   ·
    exact .inl ⟨by simpa using h1, by simp [h2]⟩
   ·
    exact .inr ⟨by simp; omega, by simp [h2]⟩
  ·
   exact .inr ⟨by simp, by simp⟩
theorem idxF_any {α : Type} (p : α → Bool) (l : List α) : decide (0 ≤ idxF p l 0) = l.any p := by
 rcases idxF_ge p l 0 with ⟨h1, h2⟩ | ⟨h1, h2⟩
 ·
  rw [h1, h2]; rfl
 ·
  rw [h2]; simp; omega
theorem indexE_meets (l : List Entry) (g : Nat) (caps : List PV) (Hs : List AObj) (p : Entry → Bool) (hg : hasBody Tryz.prog g = true) (hl : l.length ≤ 9223372036854775806) (hc : ClosedH Hs caps)
    (hp : ∀ e ∈ l, Meets Tryz.prog g (.agg (cE e) :: caps) Hs (.bool (p e)) Hs) :
    Meets Tryz.prog 54 [.list (l.map cE), .clo g caps] Hs (.int .i64 (idxF p l 0)) Hs := by
  refine Meets.of_walk Tryz.func54 Tryz.ntmps54 low54 res54 (by simp) fun x hx => ?_
  simp only [go_sem, Nat.reduceLT, Nat.reduceAdd, Nat.reduceEqDiff, Nat.reduceLeDiff, Nat.reduceSub, Nat.reduceMul, Int.reduceEq, reduceIte, L54, R54]
  refine loop_keep [0, 1, 7, 8] (fun n st => ∃ k : Nat, k + n = l.length ∧ idxF p (l.drop k) k = idxF p l 0 ∧
    st = ⟨mkE .top [(0, .list (l.map cE)), (1, .clo g caps), (7, .int .i64 l.length), (8, .int .i64 k)], Hs⟩) l.length ?_ ?_
  · refine ⟨0, by omega, by simp, ?_⟩
    simp [keep_mk, go_sem, Nat.reduceLT, Nat.reduceAdd, Nat.reduceEqDiff, Nat.reduceLeDiff, Nat.reduceSub, Nat.reduceMul, Int.reduceEq, reduceIte]
  · rintro n st ⟨k, hk, hi, rfl⟩
    by_cases hlt : k < l.length
    · have hgt : l[k]? = some (nth l k) := nth_get? _ _ hlt
      have wk := i64_up (k := k) (by omega)
      rw [idxF_drop p l k hlt] at hi
      simp only [go_sem, Nat.reduceLT, Nat.reduceAdd, Nat.reduceEqDiff, Nat.reduceLeDiff, Nat.reduceSub, Nat.reduceMul, Int.reduceEq, reduceIte, hlt, hgt, cE, cId]
      refine ops_callv rfl hg (.whole (hp (nth l k) (by rw [nth_eq _ _ hlt]; exact List.getElem_mem hlt)) rfl ?_ hc.sub hc.back) ?_
      · simp only [go_sem, Nat.reduceLT, Nat.reduceAdd, Nat.reduceEqDiff, Nat.reduceLeDiff, Nat.reduceSub, Nat.reduceMul, Int.reduceEq, reduceIte, cE, cId]
        rw [hc.caps]
      cases hpk : p (nth l k)
      · rw [if_neg (by simp [hpk])] at hi
        simp only [go_sem, Nat.reduceLT, Nat.reduceAdd, Nat.reduceEqDiff, Nat.reduceLeDiff, Nat.reduceSub, Nat.reduceMul, Int.reduceEq, reduceIte, wk]
        exact ⟨n - 1, by omega, k + 1, by omega, hi, by simp [keep_mk, go_sem, Nat.reduceLT, Nat.reduceAdd, Nat.reduceEqDiff, Nat.reduceLeDiff, Nat.reduceSub, Nat.reduceMul, Int.reduceEq, reduceIte]⟩
      · rw [if_pos hpk] at hi
        simp only [go_sem, Nat.reduceLT, Nat.reduceAdd, Nat.reduceEqDiff, Nat.reduceLeDiff, Nat.reduceSub, Nat.reduceMul, Int.reduceEq, reduceIte]
        refine ret_scal hx rfl hc.kept ?_
        simp [go_sem, Nat.reduceLT, Nat.reduceAdd, Nat.reduceEqDiff, Nat.reduceLeDiff, Nat.reduceSub, Nat.reduceMul, Int.reduceEq, reduceIte, L54, R54, hi]
    · have : l.drop k = [] := List.drop_eq_nil_of_le (by omega)
      rw [this] at hi
      simp only [go_sem, Nat.reduceLT, Nat.reduceAdd, Nat.reduceEqDiff, Nat.reduceLeDiff, Nat.reduceSub, Nat.reduceMul, Int.reduceEq, reduceIte, hlt]
      refine ret_scal hx rfl hc.kept ?_
      simp [go_sem, Nat.reduceLT, Nat.reduceAdd, Nat.reduceEqDiff, Nat.reduceLeDiff, Nat.reduceSub, Nat.reduceMul, Int.reduceEq, reduceIte, L54, R54, ← hi, idxF]
theorem indexI_meets (l : List Id) (g : Nat) (caps : List PV) (Hs : List AObj) (p : Id → Bool) (hg : hasBody Tryz.prog g = true) (hl : l.length ≤ 9223372036854775806) (hc : ClosedH Hs caps)
    (hp : ∀ e ∈ l, Meets Tryz.prog g (.agg (cId e) :: caps) Hs (.bool (p e)) Hs) :
    Meets Tryz.prog 82 [.list (l.map cId), .clo g caps] Hs (.int .i64 (idxF p l 0)) Hs := by
  refine Meets.of_walk Tryz.func82 Tryz.ntmps82 low82 res82 (by simp) fun x hx => ?_
  simp only [go_sem, Nat.reduceLT, Nat.reduceAdd, Nat.reduceEqDiff, Nat.reduceLeDiff, Nat.reduceSub, Nat.reduceMul, Int.reduceEq, reduceIte, L82, R82]
  refine loop_keep [0, 1, 7, 8] (fun n st => ∃ k : Nat, k + n = l.length ∧ idxF p (l.drop k) k = idxF p l 0 ∧
    st = ⟨mkE .top [(0, .list (l.map cId)), (1, .clo g caps), (7, .int .i64 l.length), (8, .int .i64 k)], Hs⟩) l.length ?_ ?_
  · refine ⟨0, by omega, by simp, ?_⟩
    simp [keep_mk, go_sem, Nat.reduceLT, Nat.reduceAdd, Nat.reduceEqDiff, Nat.reduceLeDiff, Nat.reduceSub, Nat.reduceMul, Int.reduceEq, reduceIte]
  · rintro n st ⟨k, hk, hi, rfl⟩
    by_cases hlt : k < l.length
    · have hgt : l[k]? = some (nth l k) := nth_get? _ _ hlt
      have wk := i64_up (k := k) (by omega)
      rw [idxF_drop p l k hlt] at hi
      simp only [go_sem, Nat.reduceLT, Nat.reduceAdd, Nat.reduceEqDiff, Nat.reduceLeDiff, Nat.reduceSub, Nat.reduceMul, Int.reduceEq, reduceIte, hlt, hgt, cId, cId]
      refine ops_callv rfl hg (.whole (hp (nth l k) (by rw [nth_eq _ _ hlt]; exact List.getElem_mem hlt)) rfl ?_ hc.sub hc.back) ?_
      · simp only [go_sem, Nat.reduceLT, Nat.reduceAdd, Nat.reduceEqDiff, Nat.reduceLeDiff, Nat.reduceSub, Nat.reduceMul, Int.reduceEq, reduceIte, cId, cId]
        rw [hc.caps]
      cases hpk : p (nth l k)
      · rw [if_neg (by simp [hpk])] at hi
        simp only [go_sem, Nat.reduceLT, Nat.reduceAdd, Nat.reduceEqDiff, Nat.reduceLeDiff, Nat.reduceSub, Nat.reduceMul, Int.reduceEq, reduceIte, wk]
        exact ⟨n - 1, by omega, k + 1, by omega, hi, by simp [keep_mk, go_sem, Nat.reduceLT, Nat.reduceAdd, Nat.reduceEqDiff, Nat.reduceLeDiff, Nat.reduceSub, Nat.reduceMul, Int.reduceEq, reduceIte]⟩
      · rw [if_pos hpk] at hi
        simp only [go_sem, Nat.reduceLT, Nat.reduceAdd, Nat.reduceEqDiff, Nat.reduceLeDiff, Nat.reduceSub, Nat.reduceMul, Int.reduceEq, reduceIte]
        refine ret_scal hx rfl hc.kept ?_
        simp [go_sem, Nat.reduceLT, Nat.reduceAdd, Nat.reduceEqDiff, Nat.reduceLeDiff, Nat.reduceSub, Nat.reduceMul, Int.reduceEq, reduceIte, L82, R82, hi]
    · have : l.drop k = [] := List.drop_eq_nil_of_le (by omega)
      rw [this] at hi
      simp only [go_sem, Nat.reduceLT, Nat.reduceAdd, Nat.reduceEqDiff, Nat.reduceLeDiff, Nat.reduceSub, Nat.reduceMul, Int.reduceEq, reduceIte, hlt]
      refine ret_scal hx rfl hc.kept ?_
      simp [go_sem, Nat.reduceLT, Nat.reduceAdd, Nat.reduceEqDiff, Nat.reduceLeDiff, Nat.reduceSub, Nat.reduceMul, Int.reduceEq, reduceIte, L82, R82, ← hi, idxF]
theorem contFE_meets (l : List Entry) (g : Nat) (caps : List PV) (Hs : List AObj) (p : Entry → Bool) (hg : hasBody Tryz.prog g = true) (hl : l.length ≤ 9223372036854775806) (hc : ClosedH Hs caps)
    (hp : ∀ e ∈ l, Meets Tryz.prog g (.agg (cE e) :: caps) Hs (.bool (p e)) Hs) :
    Meets Tryz.prog 33 [.list (l.map cE), .clo g caps] Hs (.bool (l.any p)) Hs := by
  refine Meets.of_walk Tryz.func33 Tryz.ntmps33 low33 res33 (by simp) fun x hx => ?_
  simp only [go_sem, Nat.reduceLT, Nat.reduceAdd, Nat.reduceEqDiff, Nat.reduceLeDiff, Nat.reduceSub, Nat.reduceMul, Int.reduceEq, reduceIte, L33, R33]
  refine ops_call (.whole (indexE_meets l g caps Hs p hg hl hc hp) rfl ?_ hc.sub hc.back) ?_
  · simp only [go_sem, Nat.reduceLT, Nat.reduceAdd, Nat.reduceEqDiff, Nat.reduceLeDiff, Nat.reduceSub, Nat.reduceMul, Int.reduceEq, reduceIte]
    rw [hc.leaf]
  simp only [go_sem, Nat.reduceLT, Nat.reduceAdd, Nat.reduceEqDiff, Nat.reduceLeDiff, Nat.reduceSub, Nat.reduceMul, Int.reduceEq, reduceIte]
  refine ret_scal hx rfl hc.kept ?_
  simp [go_sem, Nat.reduceLT, Nat.reduceAdd, Nat.reduceEqDiff, Nat.reduceLeDiff, Nat.reduceSub, Nat.reduceMul, Int.reduceEq, reduceIte, L33, R33, idxF_any]
theorem contFI_meets (l : List Id) (g : Nat) (caps : List PV) (Hs : List AObj) (p : Id → Bool) (hg : hasBody Tryz.prog g = true) (hl : l.length ≤ 9223372036854775806) (hc : ClosedH Hs caps)
    (hp : ∀ e ∈ l, Meets Tryz.prog g (.agg (cId e) :: caps) Hs (.bool (p e)) Hs) :
    Meets Tryz.prog 70 [.list (l.map cId), .clo g caps] Hs (.bool (l.any p)) Hs := by
  refine Meets.of_walk Tryz.func70 Tryz.ntmps70 low70 res70 (by simp) fun x hx => ?_
  simp only [go_sem, Nat.reduceLT, Nat.reduceAdd, Nat.reduceEqDiff, Nat.reduceLeDiff, Nat.reduceSub, Nat.reduceMul, Int.reduceEq, reduceIte, L70, R70]
  refine ops_call (.whole (indexI_meets l g caps Hs p hg hl hc hp) rfl ?_ hc.sub hc.back) ?_
  · simp only [go_sem, Nat.reduceLT, Nat.reduceAdd, Nat.reduceEqDiff, Nat.reduceLeDiff, Nat.reduceSub, Nat.reduceMul, Int.reduceEq, reduceIte]
    rw [hc.leaf]
  simp only [go_sem, Nat.reduceLT, Nat.reduceAdd, Nat.reduceEqDiff, Nat.reduceLeDiff, Nat.reduceSub, Nat.reduceMul, Int.reduceEq, reduceIte]
  refine ret_scal hx rfl hc.kept ?_
  simp [go_sem, Nat.reduceLT, Nat.reduceAdd, Nat.reduceEqDiff, Nat.reduceLeDiff, Nat.reduceSub, Nat.reduceMul, Int.reduceEq, reduceIte, L70, R70, idxF_any]
end Go.Proofs.YtkgobnnkcnnfhaaGreat
/- What is wrong with an entry, in the law text's words: a contract. -/
namespace Go.Proofs.YtkgobnnkcnnfhaaGreat
set_option linter.unusedSimpArgs false
set_option linter.unusedVariables false
open Go.RowKit
theorem checkEntry_meets (e : Entry) : Meets Tryz.prog 19 [.agg (cE e)] [] (.int .i64 (checkEntry e)) [] := by
 refine Meets.len2 0 4 rfl (by simp [cE]; rfl) fun hm => ?_
 have hm' : e.ls.length ≤ 9223372036854775807 := by simp [maxLen] at hm; omega
 refine Meets.of_walk Tryz.func19 Tryz.ntmps19 low19 res19 (by simp) fun x hx => ?_
 simp only [go_sem, Nat.reduceLT, Nat.reduceAdd, Nat.reduceEqDiff, Nat.reduceLeDiff, Nat.reduceSub, Nat.reduceMul, Int.reduceEq, reduceIte, L19, R19, cE]
 refine ops_call (.pure (isId_meets e.id)) ?_
 cases h1 : okId e.id
 ·
  simp only [go_sem, Nat.reduceLT, Nat.reduceAdd, Nat.reduceEqDiff, Nat.reduceLeDiff, Nat.reduceSub, Nat.reduceMul, Int.reduceEq, reduceIte]
  refine ret_pure hx ?_
  simp [go_sem, Nat.reduceLT, Nat.reduceAdd, Nat.reduceEqDiff, Nat.reduceLeDiff, Nat.reduceSub, Nat.reduceMul, Int.reduceEq, reduceIte, L19, R19, checkEntry, h1]
 simp only [go_sem, Nat.reduceLT, Nat.reduceAdd, Nat.reduceEqDiff, Nat.reduceLeDiff, Nat.reduceSub, Nat.reduceMul, Int.reduceEq, reduceIte]
 refine ops_call (.pure (between_meets _ _ _)) ?_
 cases h2 : wthn e.c 1 7
 ·
  simp only [go_sem, Nat.reduceLT, Nat.reduceAdd, Nat.reduceEqDiff, Nat.reduceLeDiff, Nat.reduceSub, Nat.reduceMul, Int.reduceEq, reduceIte]
  refine ret_pure hx ?_
  simp [go_sem, Nat.reduceLT, Nat.reduceAdd, Nat.reduceEqDiff, Nat.reduceLeDiff, Nat.reduceSub, Nat.reduceMul, Int.reduceEq, reduceIte, L19, R19, checkEntry, h1, h2]
 by_cases h3 : 12 < e.t.size
 ·
  have h3' : decide ((12 : Int) < e.t.size) = true := by simp; omega
  simp only [go_sem, Nat.reduceLT, Nat.reduceAdd, Nat.reduceEqDiff, Nat.reduceLeDiff, Nat.reduceSub, Nat.reduceMul, Int.reduceEq, reduceIte, h3']
  refine ret_pure hx ?_
  simp [go_sem, Nat.reduceLT, Nat.reduceAdd, Nat.reduceEqDiff, Nat.reduceLeDiff, Nat.reduceSub, Nat.reduceMul, Int.reduceEq, reduceIte, L19, R19, checkEntry, h1, h2, h3]
 have h3' : decide ((12 : Int) < e.t.size) = false := by simp; omega
 by_cases h4 : 6 < e.ls.length
 ·
  have h4' : decide ((6 : Int) < (e.ls.length : Nat)) = true := by simp; omega
  simp only [go_sem, Nat.reduceLT, Nat.reduceAdd, Nat.reduceEqDiff, Nat.reduceLeDiff, Nat.reduceSub, Nat.reduceMul, Int.reduceEq, reduceIte, h3', h4']
  refine ret_pure hx ?_
  simp [go_sem, Nat.reduceLT, Nat.reduceAdd, Nat.reduceEqDiff, Nat.reduceLeDiff, Nat.reduceSub, Nat.reduceMul, Int.reduceEq, reduceIte, L19, R19, checkEntry, h1, h2, h3, h4]
 have h4' : decide ((6 : Int) < (e.ls.length : Nat)) = false := by simp; omega
 have hc : checkEntry e = firstNZ (linkErr e.id e.ls) e.ls.length := by simp [checkEntry, h1, h2, h3, h4]
 simp only [go_sem, Nat.reduceLT, Nat.reduceAdd, Nat.reduceEqDiff, Nat.reduceLeDiff, Nat.reduceSub, Nat.reduceMul, Int.reduceEq, reduceIte, h3', h4', hc]
 refine loop_inv [1, 3] 1 (fun n st => ∃ k : Nat, k + n = e.ls.length ∧ firstNZ (linkErr e.id e.ls) k = 0 ∧
  st = ⟨mkE .top [(1, .ptr 0 0), (3, .int .i64 k)], [.box (cE e)]⟩) e.ls.length (by simp [hx]) (by simp) ?_ ?_
 ·
  refine ⟨0, by omega, rfl, ?_⟩
  simp [trim_mk, go_sem, Nat.reduceLT, Nat.reduceAdd, Nat.reduceEqDiff, Nat.reduceLeDiff, Nat.reduceSub, Nat.reduceMul, Int.reduceEq, reduceIte, subHeap, renObj, pos, List.range_succ, cE]
 ·
  rintro n st ⟨k, hk, hz, rfl⟩
  simp only [go_sem, Nat.reduceLT, Nat.reduceAdd, Nat.reduceEqDiff, Nat.reduceLeDiff, Nat.reduceSub, Nat.reduceMul, Int.reduceEq, reduceIte, cE]
  by_cases hlt : k < e.ls.length
  ·
   have hg : e.ls[k]? = some (nth e.ls k) := nth_get? _ _ hlt
   have w1 := i64_up (k := k) (by omega)
   simp only [go_sem, Nat.reduceLT, Nat.reduceAdd, Nat.reduceEqDiff, Nat.reduceLeDiff, Nat.reduceSub, Nat.reduceMul, Int.reduceEq, reduceIte, hlt, hg, cId]
   refine ops_call (.pure (isId_meets (nth e.ls k))) ?_
   cases h5 : okId (nth e.ls k)
   ·
    simp only [go_sem, Nat.reduceLT, Nat.reduceAdd, Nat.reduceEqDiff, Nat.reduceLeDiff, Nat.reduceSub, Nat.reduceMul, Int.reduceEq, reduceIte]
    refine ret_pure hx ?_
    have : linkErr e.id e.ls k = 3 := by simp [linkErr, h5]
    simp only [go_sem, Nat.reduceLT, Nat.reduceAdd, Nat.reduceEqDiff, Nat.reduceLeDiff, Nat.reduceSub, Nat.reduceMul, Int.reduceEq, reduceIte, hc, firstNZ_hit hz (by rw [this]; decide) hlt, this]
   have fin : ∀ r : Int, linkErr e.id e.ls k = r → r ≠ 0 → firstNZ (linkErr e.id e.ls) e.ls.length = r := fun r h1 h2 => by rw [firstNZ_hit hz (by rw [h1]; exact h2) hlt, h1]
   by_cases h0 : 0 < k
   ·
    have hg1 : e.ls[k - 1]? = some (nth e.ls (k - 1)) := nth_get? _ _ (by omega)
    have e1 : IntKind.i64.wrap ((k : Int) - 1) = ((k - 1 : Nat) : Int) := by rw [IntWalk.i64_in _ (by omega)]; omega
    have d0 : decide ((0 : Int) < (k : Int)) = true := by simp; omega
    have hlt1 : k - 1 < e.ls.length := by omega
    simp only [go_sem, Nat.reduceLT, Nat.reduceAdd, Nat.reduceEqDiff, Nat.reduceLeDiff, Nat.reduceSub, Nat.reduceMul, Int.reduceEq, reduceIte, d0, hlt, hlt1, hg, hg1, e1, cId]
    refine ops_call (.pure (isAhead_meets (nth e.ls (k - 1)) (nth e.ls k))) ?_
    cases hl : lessB (nth e.ls (k - 1)) (nth e.ls k)
    ·
     simp only [go_sem, Nat.reduceLT, Nat.reduceAdd, Nat.reduceEqDiff, Nat.reduceLeDiff, Nat.reduceSub, Nat.reduceMul, Int.reduceEq, reduceIte, hlt, hg, cId]
     refine ret_pure hx ?_
     have : linkErr e.id e.ls k = 4 := by simp [linkErr, h5, h0, hl]
     simp only [go_sem, Nat.reduceLT, Nat.reduceAdd, Nat.reduceEqDiff, Nat.reduceLeDiff, Nat.reduceSub, Nat.reduceMul, Int.reduceEq, reduceIte, fin _ this (by decide)]
    ·
     by_cases h7 : (nth e.ls k).r = e.id.r <;> by_cases h8 : e.id.n ≤ (nth e.ls k).n <;> simp only [go_sem, Nat.reduceLT, Nat.reduceAdd, Nat.reduceEqDiff, Nat.reduceLeDiff, Nat.reduceSub, Nat.reduceMul, Int.reduceEq, reduceIte, hlt, hg, cId, h7, h8]
     ·
      refine ret_pure hx ?_
      have : linkErr e.id e.ls k = 4 := by simp [linkErr, h5, hl, h7, h8]
      simp only [go_sem, Nat.reduceLT, Nat.reduceAdd, Nat.reduceEqDiff, Nat.reduceLeDiff, Nat.reduceSub, Nat.reduceMul, Int.reduceEq, reduceIte, fin _ this (by decide)]
     all_goals
      have : linkErr e.id e.ls k = 0 := by simp [linkErr, h5, hl, h7, h8]
      refine ⟨by simp, n - 1, by omega, k + 1, by omega, firstNZ_succ hz this, ?_⟩
      simp [trim_mk, go_sem, Nat.reduceLT, Nat.reduceAdd, Nat.reduceEqDiff, Nat.reduceLeDiff, Nat.reduceSub, Nat.reduceMul, Int.reduceEq, reduceIte, subHeap, renObj, pos, List.range_succ, cE, w1]
   ·
    have d0 : decide ((0 : Int) < (k : Int)) = false := by simp; omega
    by_cases h7 : (nth e.ls k).r = e.id.r <;> by_cases h8 : e.id.n ≤ (nth e.ls k).n <;> simp only [go_sem, Nat.reduceLT, Nat.reduceAdd, Nat.reduceEqDiff, Nat.reduceLeDiff, Nat.reduceSub, Nat.reduceMul, Int.reduceEq, reduceIte, d0, hlt, hg, cId, h7, h8]
    ·
     refine ret_pure hx ?_
     have : linkErr e.id e.ls k = 4 := by simp [linkErr, h5, h0, h7, h8]
     simp only [go_sem, Nat.reduceLT, Nat.reduceAdd, Nat.reduceEqDiff, Nat.reduceLeDiff, Nat.reduceSub, Nat.reduceMul, Int.reduceEq, reduceIte, fin _ this (by decide)]
    all_goals
     have : linkErr e.id e.ls k = 0 := by simp [linkErr, h5, h0, h7, h8]
     refine ⟨by simp, n - 1, by omega, k + 1, by omega, firstNZ_succ hz this, ?_⟩
     simp [trim_mk, go_sem, Nat.reduceLT, Nat.reduceAdd, Nat.reduceEqDiff, Nat.reduceLeDiff, Nat.reduceSub, Nat.reduceMul, Int.reduceEq, reduceIte, subHeap, renObj, pos, List.range_succ, cE, w1]
  ·
   simp only [go_sem, Nat.reduceLT, Nat.reduceAdd, Nat.reduceEqDiff, Nat.reduceLeDiff, Nat.reduceSub, Nat.reduceMul, Int.reduceEq, reduceIte, hlt]
   refine ret_pure hx ?_
   simp only [go_sem, Nat.reduceLT, Nat.reduceAdd, Nat.reduceEqDiff, Nat.reduceLeDiff, Nat.reduceSub, Nat.reduceMul, Int.reduceEq, reduceIte]
   first | rw [hc, show e.ls.length = k by omega, hz] | rw [show e.ls.length = k by omega, hz]
end Go.Proofs.YtkgobnnkcnnfhaaGreat
/- Logs: finding, counting, being ready, being right: contracts. -/
namespace Go.Proofs.YtkgobnnkcnnfhaaGreat
set_option linter.unusedSimpArgs false
set_option linter.unusedVariables false
open Go.RowKit
def findE (l : List Entry) (x : Id) : Int := idxF (fun e => decide (e.id = x)) l 0
theorem cE_row (l : List Entry) : ∀ row ∈ l.map cE, row.length = 5 := by simp [cE]
theorem closed1 (cells : List PV) (h : cells.map (renCell false (pos [0]) (frzAt false [.box cells])) = cells) (h2 : cells.map (renCell false (pos [0]) (frzAt true [.box cells])) = cells) (h3 : cells.map (renCell false (backF 1 [0]) noFz) = cells) :
    ClosedH [.box cells] [.ptr 0 0] := by
  refine ⟨?_, ?_, ?_, ?_, ?_⟩
  · simp [renLeaf, pos, List.range_succ]
  · simp [ren, renCell, renLeaf, pos, List.range_succ]
  · simp only [List.length_cons, List.length_nil, List.range_succ, List.range_zero, List.nil_append, subHeap, List.map_cons, List.map_nil, List.getElem?_cons_zero, Option.getD_some, renObj, h]
  · simp only [List.length_cons, List.length_nil, List.range_succ, List.range_zero, List.nil_append, merge, List.map_cons, List.map_nil, mergeObj, callId, Nat.zero_add, Nat.sub_self, Nat.add_zero]
    simp [pos, renObj, h3]
  · simp only [List.length_cons, List.length_nil, List.range_succ, List.range_zero, List.nil_append, subHeap, List.map_cons, List.map_nil, List.getElem?_cons_zero, Option.getD_some, renObj, h2]
theorem find1_meets (x : Id) (e : Entry) : Meets Tryz.prog 69 [.agg (cE e), .ptr 0 0] [.box (cId x)] (.bool (decide (e.id = x))) [.box (cId x)] := by
 refine Meets.of_walk Tryz.func69 Tryz.ntmps69 low69 res69 (by simp) fun xx hx => ?_
 simp only [go_sem, Nat.reduceLT, Nat.reduceAdd, Nat.reduceEqDiff, Nat.reduceLeDiff, Nat.reduceSub, Nat.reduceMul, Int.reduceEq, reduceIte, L69, R69, cE, cId, beqId]
 refine ret_keep [] (by simp) (by simp) (by simp [hx]) ?_ ?_
 ·
  simp [go_sem, Nat.reduceLT, Nat.reduceAdd, Nat.reduceEqDiff, Nat.reduceLeDiff, Nat.reduceSub, Nat.reduceMul, Int.reduceEq, reduceIte, L69, R69, hx]
 ·
  simp [subHeap, renObj, hx, go_sem, Nat.reduceLT, Nat.reduceAdd, Nat.reduceEqDiff, Nat.reduceLeDiff, Nat.reduceSub, Nat.reduceMul, Int.reduceEq, reduceIte]
theorem closedId (x : Id) : ClosedH [.box (cId x)] [.ptr 0 0] := closed1 _ (by simp [cId, renCell, renLeaf]) (by simp [cId, renCell, renLeaf]) (by simp [cId, renCell, renLeaf])
theorem find_meets (l : List Entry) (x : Id) (hl : l.length ≤ 9223372036854775806) : Meets Tryz.prog 51 [.list (l.map cE), .agg (cId x)] [] (.int .i64 (findE l x)) [] := by
 refine Meets.of_walk Tryz.func51 Tryz.ntmps51 low51 res51 (by simp) fun xx hx => ?_
 simp only [go_sem, Nat.reduceLT, Nat.reduceAdd, Nat.reduceEqDiff, Nat.reduceLeDiff, Nat.reduceSub, Nat.reduceMul, Int.reduceEq, reduceIte, L51, R51, cId]
 refine ops_call (.heapE [0] (r' := .int .i64 (findE l x)) (H' := [.box (cId x)]) (indexE_meets l 69 [.ptr 0 0] [.box (cId x)] (fun e => decide (e.id = x)) (by kernel_rfl) hl (closedId x) (fun e _ => find1_meets x e)) (by simp) (by simp) (by simp [go_sem, Nat.reduceLT, Nat.reduceAdd, Nat.reduceEqDiff, Nat.reduceLeDiff, Nat.reduceSub, Nat.reduceMul, Int.reduceEq, reduceIte, pos]) (by simp [subHeap, renObj, go_sem, Nat.reduceLT, Nat.reduceAdd, Nat.reduceEqDiff, Nat.reduceLeDiff, Nat.reduceSub, Nat.reduceMul, Int.reduceEq, reduceIte, cId]) rfl (by simp [merge, mergeObj, callId, renObj, pos, go_sem, Nat.reduceLT, Nat.reduceAdd, Nat.reduceEqDiff, Nat.reduceLeDiff, Nat.reduceSub, Nat.reduceMul, Int.reduceEq, reduceIte, List.range_succ, cId])) ?_
 simp only [go_sem, Nat.reduceLT, Nat.reduceAdd, Nat.reduceEqDiff, Nat.reduceLeDiff, Nat.reduceSub, Nat.reduceMul, Int.reduceEq, reduceIte]
 refine ret_pure hx ?_
 simp [go_sem, Nat.reduceLT, Nat.reduceAdd, Nat.reduceEqDiff, Nat.reduceLeDiff, Nat.reduceSub, Nat.reduceMul, Int.reduceEq, reduceIte, L51, R51]
def cntR (l : List Entry) (r : Int) : Nat := l.countP fun e => decide (e.id.r = r)
theorem cntR_take (l : List Entry) (k : Nat) (r : Int) (h : k < l.length) : cntR (l.take (k + 1)) r = cntR (l.take k) r + if (nth l k).id.r = r then 1 else 0 := by
 rw [List.take_succ_eq_append_getElem h, nth_eq _ _ h]
 simp only [cntR, List.countP_append, List.countP_cons, List.countP_nil, decide_eq_true_eq]
 omega
theorem cntR_le (l : List Entry) (r : Int) : cntR l r ≤ l.length := List.countP_le_length
def okReg (l : List Entry) : Prop := ∀ e ∈ l, e.id.r = 0 ∨ e.id.r = 1
theorem many_meets (l : List Entry) (h : okReg l) (hl : l.length ≤ 1000000000000000) : Meets Tryz.prog 65 [.list (l.map cE)] [] (.agg [.int .i64 (cntR l 0), .int .i64 (cntR l 1)]) [] := by
 refine Meets.of_walk Tryz.func65 Tryz.ntmps65 low65 res65 (by simp) fun x hx => ?_
 simp only [go_sem, Nat.reduceLT, Nat.reduceAdd, Nat.reduceEqDiff, Nat.reduceLeDiff, Nat.reduceSub, Nat.reduceMul, Int.reduceEq, reduceIte, L65, R65]
 refine loop_inv [2, 3, 6, 7, 8] 2 (fun n st => ∃ k : Nat, k + n = l.length ∧
  st = ⟨mkE .top [(2, .ptr 0 0), (3, .ptr 1 0), (6, .list (l.map cE)), (7, .int .i64 l.length), (8, .int .i64 k)], [.box [.int .i64 0, .int .i64 0], .box [.int .i64 (cntR (l.take k) 0), .int .i64 (cntR (l.take k) 1)]]⟩) l.length (by simp [hx]) (by simp) ?_ ?_
 ·
  refine ⟨0, by omega, ?_⟩
  simp [trim_mk, go_sem, Nat.reduceLT, Nat.reduceAdd, Nat.reduceEqDiff, Nat.reduceLeDiff, Nat.reduceSub, Nat.reduceMul, Int.reduceEq, reduceIte, subHeap, renObj, pos, List.range_succ, cntR]
 ·
  rintro n st ⟨k, hk, rfl⟩
  by_cases hlt : k < l.length
  ·
   have hg : l[k]? = some (nth l k) := nth_get? _ _ hlt
   have wk := i64_up (k := k) (by omega)
   have hle : ∀ r, cntR (l.take k) r ≤ 1000000000000000 := fun r => by have := cntR_le (l.take k) r; rw [List.length_take] at this; omega
   have w0 := i64_up (k := cntR (l.take k) 0) (by have := hle 0; omega)
   have w1 := i64_up (k := cntR (l.take k) 1) (by have := hle 1; omega)
   have c0 := cntR_take l k 0 hlt
   have c1 := cntR_take l k 1 hlt
   rcases h (nth l k) (by rw [nth_eq _ _ hlt]; exact List.getElem_mem hlt) with hr | hr
   ·
    rw [hr] at c0 c1
    simp only [go_sem, Nat.reduceLT, Nat.reduceAdd, Nat.reduceEqDiff, Nat.reduceLeDiff, Nat.reduceSub, Nat.reduceMul, Int.reduceEq, reduceIte, hlt, hg, cE, hr, w0, w1, wk, Int.reduceLE, Int.reduceLT, Int.reduceToNat, Int.cast_ofNat_Int, Int.ofNat_zero, Int.toNat_zero, Int.le_refl]
    refine ⟨by simp, n - 1, by omega, k + 1, by omega, ?_⟩
    simp [trim_mk, go_sem, Nat.reduceLT, Nat.reduceAdd, Nat.reduceEqDiff, Nat.reduceLeDiff, Nat.reduceSub, Nat.reduceMul, Int.reduceEq, reduceIte, subHeap, renObj, pos, List.range_succ, c0, c1]
   ·
    rw [hr] at c0 c1
    simp only [go_sem, Nat.reduceLT, Nat.reduceAdd, Nat.reduceEqDiff, Nat.reduceLeDiff, Nat.reduceSub, Nat.reduceMul, Int.reduceEq, reduceIte, hlt, hg, cE, hr, w0, w1, wk, Int.reduceLE, Int.reduceLT, Int.reduceToNat, Int.cast_ofNat_Int, Int.ofNat_zero, Int.toNat_zero, Int.le_refl]
    refine ⟨by simp, n - 1, by omega, k + 1, by omega, ?_⟩
    simp [trim_mk, go_sem, Nat.reduceLT, Nat.reduceAdd, Nat.reduceEqDiff, Nat.reduceLeDiff, Nat.reduceSub, Nat.reduceMul, Int.reduceEq, reduceIte, subHeap, renObj, pos, List.range_succ, c0, c1]
  ·
   have : l.take k = l := List.take_of_length_le (by omega)
   simp only [go_sem, Nat.reduceLT, Nat.reduceAdd, Nat.reduceEqDiff, Nat.reduceLeDiff, Nat.reduceSub, Nat.reduceMul, Int.reduceEq, reduceIte, hlt]
   refine ret_pure hx ?_
   simp [go_sem, Nat.reduceLT, Nat.reduceAdd, Nat.reduceEqDiff, Nat.reduceLeDiff, Nat.reduceSub, Nat.reduceMul, Int.reduceEq, reduceIte, L65, R65, this]
end Go.Proofs.YtkgobnnkcnnfhaaGreat
/- Logs: being ready, being right: contracts. -/
namespace Go.Proofs.YtkgobnnkcnnfhaaGreat
set_option linter.unusedSimpArgs false
set_option linter.unusedVariables false
open Go.RowKit
def readyB (l : List Entry) (e : Entry) : Bool := decide ((cntR l e.id.r : Int) + 1 = e.id.n) && !(e.ls.any fun x => decide (findE l x < 0))
theorem ready1_meets (l : List Entry) (x : Id) (hl : l.length ≤ 9223372036854775806) : Meets Tryz.prog 71 [.agg (cId x), .ptr 0 0] [.box [.list (l.map cE)]] (.bool (decide (findE l x < 0))) [.box [.list (l.map cE)]] := by
 refine Meets.of_walk Tryz.func71 Tryz.ntmps71 low71 res71 (by simp) fun xx hx => ?_
 simp only [go_sem, Nat.reduceLT, Nat.reduceAdd, Nat.reduceEqDiff, Nat.reduceLeDiff, Nat.reduceSub, Nat.reduceMul, Int.reduceEq, reduceIte, L71, R71, cId]
 refine ops_call (.pureE (find_meets l x hl) (by simp [go_sem, Nat.reduceLT, Nat.reduceAdd, Nat.reduceEqDiff, Nat.reduceLeDiff, Nat.reduceSub, Nat.reduceMul, Int.reduceEq, reduceIte, cId])) ?_
 simp only [go_sem, Nat.reduceLT, Nat.reduceAdd, Nat.reduceEqDiff, Nat.reduceLeDiff, Nat.reduceSub, Nat.reduceMul, Int.reduceEq, reduceIte]
 refine ret_keep [] (by simp) (by simp) (by simp [hx]) ?_ ?_
 ·
  simp [go_sem, Nat.reduceLT, Nat.reduceAdd, Nat.reduceEqDiff, Nat.reduceLeDiff, Nat.reduceSub, Nat.reduceMul, Int.reduceEq, reduceIte, L71, R71, hx]
 ·
  simp [subHeap, renObj, hx, go_sem, Nat.reduceLT, Nat.reduceAdd, Nat.reduceEqDiff, Nat.reduceLeDiff, Nat.reduceSub, Nat.reduceMul, Int.reduceEq, reduceIte]
theorem closedL (l : List Entry) : ClosedH [.box [.list (l.map cE)]] [.ptr 0 0] := closed1 _ (by simp [renCell, renLeaf]) (by simp [renCell, renLeaf]) (by simp [renCell, renLeaf])
theorem ready_meets (l : List Entry) (e : Entry) (h : okReg l) (hl : l.length ≤ 1000000000000000) (he : e.id.r = 0 ∨ e.id.r = 1) (hls : e.ls.length ≤ 9223372036854775806) :
    Meets Tryz.prog 52 [.list (l.map cE), .agg (cE e)] [] (.bool (readyB l e)) [] := by
  refine Meets.of_walk Tryz.func52 Tryz.ntmps52 low52 res52 (by simp) fun x hx => ?_
  have hw : IntKind.i64.wrap ((cntR l e.id.r : Int) + 1) = (cntR l e.id.r : Int) + 1 := by have := cntR_le l e.id.r; rw [IntWalk.i64_in _ (by omega)]
  simp only [go_sem, Nat.reduceLT, Nat.reduceAdd, Nat.reduceEqDiff, Nat.reduceLeDiff, Nat.reduceSub, Nat.reduceMul, Int.reduceEq, reduceIte, L52, R52, cE]
  refine ops_call (.pure (many_meets l h hl)) ?_
  have hany := contFI_meets e.ls 71 [.ptr 0 0] [.box [.list (l.map cE)]] (fun x => decide (findE l x < 0)) (by kernel_rfl) hls (closedL l) (fun y _ => ready1_meets l y (by omega))
  rcases he with hr | hr
  all_goals
    rw [hr] at hw
    by_cases hc : (cntR l e.id.r : Int) + 1 = e.id.n
    · have hc' := hc
      rw [hr] at hc'
      have dc := decide_eq_true hc'
      simp only [go_sem, Nat.reduceLT, Nat.reduceAdd, Nat.reduceEqDiff, Nat.reduceLeDiff, Nat.reduceSub, Nat.reduceMul, Int.reduceEq, reduceIte, hr, hw, dc, Int.reduceLE, Int.reduceLT, Int.reduceToNat, Int.cast_ofNat_Int, Int.ofNat_zero, Int.toNat_zero, Int.le_refl]
      refine ops_call (.heapE [0] (r' := .bool (e.ls.any fun x => decide (findE l x < 0))) (H' := [.box [.list (l.map cE)], .box (cE e)]) hany (by simp) (by simp) (by simp [go_sem, Nat.reduceLT, Nat.reduceAdd, Nat.reduceEqDiff, Nat.reduceLeDiff, Nat.reduceSub, Nat.reduceMul, Int.reduceEq, reduceIte, pos]) (by simp [subHeap, renObj, go_sem, Nat.reduceLT, Nat.reduceAdd, Nat.reduceEqDiff, Nat.reduceLeDiff, Nat.reduceSub, Nat.reduceMul, Int.reduceEq, reduceIte]) rfl (by simp [merge, mergeObj, callId, renObj, pos, go_sem, Nat.reduceLT, Nat.reduceAdd, Nat.reduceEqDiff, Nat.reduceLeDiff, Nat.reduceSub, Nat.reduceMul, Int.reduceEq, reduceIte, List.range_succ, cE, hr])) ?_
      simp only [go_sem, Nat.reduceLT, Nat.reduceAdd, Nat.reduceEqDiff, Nat.reduceLeDiff, Nat.reduceSub, Nat.reduceMul, Int.reduceEq, reduceIte]
      refine ret_pure hx ?_
      simp [go_sem, Nat.reduceLT, Nat.reduceAdd, Nat.reduceEqDiff, Nat.reduceLeDiff, Nat.reduceSub, Nat.reduceMul, Int.reduceEq, reduceIte, L52, R52, readyB, hc]
    · have hc' := hc
      rw [hr] at hc'
      simp only [go_sem, Nat.reduceLT, Nat.reduceAdd, Nat.reduceEqDiff, Nat.reduceLeDiff, Nat.reduceSub, Nat.reduceMul, Int.reduceEq, reduceIte, hr, hw, hc', Int.reduceLE, Int.reduceLT, Int.reduceToNat, Int.cast_ofNat_Int, Int.ofNat_zero, Int.toNat_zero, Int.le_refl]
      refine ret_pure hx ?_
      simp [go_sem, Nat.reduceLT, Nat.reduceAdd, Nat.reduceEqDiff, Nat.reduceLeDiff, Nat.reduceSub, Nat.reduceMul, Int.reduceEq, reduceIte, L52, R52, readyB, hc]
def logErr (l : List Entry) (k : Nat) : Int :=
 if checkEntry (nth l k) ≠ 0 then checkEntry (nth l k) else if 0 ≤ findE (l.take k) (nth l k).id then 6
 else if (cntR (l.take k) (nth l k).id.r : Int) + 1 ≠ (nth l k).id.n then 4 else if readyB (l.take k) (nth l k) = false then 5 else 0
def checkLog (l : List Entry) : Int := if 40 < l.length then 2 else firstNZ (logErr l) l.length
theorem reg_of_check {e : Entry} (h : checkEntry e = 0) : e.id.r = 0 ∨ e.id.r = 1 := by
 have := (check_ok_bounds h).1
 simp only [okId, Bool.and_eq_true, wthn_iff] at this
 omega
theorem okReg_take {l : List Entry} {k : Nat} (h : firstNZ (logErr l) k = 0) (hk : k ≤ l.length) : okReg (l.take k) := by
 intro e he
 obtain ⟨j, hj, rfl⟩ := List.getElem_of_mem he
 rw [List.length_take] at hj
 have h0 := firstNZ_zero.1 h j (by omega)
 have hc : checkEntry (nth l j) = 0 := by
  unfold logErr at h0
  split at h0
  ·
   exact h0
  ·
   rename_i h; simpa using h
 rw [List.getElem_take, ← nth_eq l j (by omega)]
 exact reg_of_check hc
theorem dagCheck_meets (l : List Entry) (hm : l.length ≤ 9223372036854775806) : Meets Tryz.prog 48 [.list (l.map cE)] [] (.int .i64 (checkLog l)) [] := by
 refine Meets.of_walk Tryz.func48 Tryz.ntmps48 low48 res48 (by simp) fun x hx => ?_
 by_cases h40 : 40 < l.length
 ·
  have d40 : decide ((40 : Int) < (l.length : Nat)) = true := by simp; omega
  simp only [go_sem, Nat.reduceLT, Nat.reduceAdd, Nat.reduceEqDiff, Nat.reduceLeDiff, Nat.reduceSub, Nat.reduceMul, Int.reduceEq, reduceIte, L48, R48, d40]
  refine ret_pure hx ?_
  simp [go_sem, Nat.reduceLT, Nat.reduceAdd, Nat.reduceEqDiff, Nat.reduceLeDiff, Nat.reduceSub, Nat.reduceMul, Int.reduceEq, reduceIte, L48, R48, checkLog, h40]
 have d40 : decide ((40 : Int) < (l.length : Nat)) = false := by simp; omega
 have hcl : checkLog l = firstNZ (logErr l) l.length := by simp [checkLog, h40]
 simp only [go_sem, Nat.reduceLT, Nat.reduceAdd, Nat.reduceEqDiff, Nat.reduceLeDiff, Nat.reduceSub, Nat.reduceMul, Int.reduceEq, reduceIte, L48, R48, d40, hcl]
 refine loop_inv [0, 9, 10, 11] 0 (fun n st => ∃ k : Nat, k + n = l.length ∧ firstNZ (logErr l) k = 0 ∧
  st = ⟨mkE .top [(0, .list (l.map cE)), (9, .list (l.map cE)), (10, .int .i64 l.length), (11, .int .i64 k)], []⟩) l.length (by simp [hx]) (by simp) ?_ ?_
 ·
  refine ⟨0, by omega, rfl, ?_⟩
  simp [trim_mk, go_sem, Nat.reduceLT, Nat.reduceAdd, Nat.reduceEqDiff, Nat.reduceLeDiff, Nat.reduceSub, Nat.reduceMul, Int.reduceEq, reduceIte, subHeap, renObj, pos]
 ·
  rintro n st ⟨k, hk, hz, rfl⟩
  by_cases hlt : k < l.length
  ·
   have hg : l[k]? = some (nth l k) := nth_get? _ _ hlt
   have wk := i64_up (k := k) (by omega)
   have hle : k ≤ l.length := by omega
   have hrow : (∀ row ∈ List.map cE l, row.length = 5) = True := eq_true (cE_row l)
   have htk : List.take k (List.map cE l) = List.map cE (List.take k l) := List.map_take.symm
   have hlk : (l.take k).length ≤ 40 := by rw [List.length_take]; omega
   have hreg := okReg_take hz hle
   have fin : ∀ r : Int, logErr l k = r → r ≠ 0 → firstNZ (logErr l) l.length = r := fun r h1 h2 => by rw [firstNZ_hit hz (by rw [h1]; exact h2) hlt, h1]
   simp only [go_sem, Nat.reduceLT, Nat.reduceAdd, Nat.reduceEqDiff, Nat.reduceLeDiff, Nat.reduceSub, Nat.reduceMul, Int.reduceEq, reduceIte, hlt, hg, cE]
   refine ops_call (.pureE (check_meets (nth l k)) (by simp [go_sem, Nat.reduceLT, Nat.reduceAdd, Nat.reduceEqDiff, Nat.reduceLeDiff, Nat.reduceSub, Nat.reduceMul, Int.reduceEq, reduceIte, cE])) ?_
   by_cases h1 : checkEntry (nth l k) = 0
   ·
    have hr := reg_of_check h1
    simp only [go_sem, Nat.reduceLT, Nat.reduceAdd, Nat.reduceEqDiff, Nat.reduceLeDiff, Nat.reduceSub, Nat.reduceMul, Int.reduceEq, reduceIte, h1, hle, hrow, htk, Int.le_refl, Int.sub_zero, Int.toNat_zero, Int.natCast_nonneg, cE]
    refine ops_call (.pureE (find_meets (l.take k) (nth l k).id (by omega)) (by simp [go_sem, Nat.reduceLT, Nat.reduceAdd, Nat.reduceEqDiff, Nat.reduceLeDiff, Nat.reduceSub, Nat.reduceMul, Int.reduceEq, reduceIte, cId])) ?_
    by_cases h2 : 0 ≤ findE (l.take k) (nth l k).id
    ·
     simp only [go_sem, Nat.reduceLT, Nat.reduceAdd, Nat.reduceEqDiff, Nat.reduceLeDiff, Nat.reduceSub, Nat.reduceMul, Int.reduceEq, reduceIte, h2]
     refine ret_pure hx ?_
     have : logErr l k = 6 := by simp [logErr, h1, h2]
     simp [go_sem, Nat.reduceLT, Nat.reduceAdd, Nat.reduceEqDiff, Nat.reduceLeDiff, Nat.reduceSub, Nat.reduceMul, Int.reduceEq, reduceIte, L48, R48, fin _ this (by decide)]
    simp only [go_sem, Nat.reduceLT, Nat.reduceAdd, Nat.reduceEqDiff, Nat.reduceLeDiff, Nat.reduceSub, Nat.reduceMul, Int.reduceEq, reduceIte, h2, hle, hrow, htk, Int.le_refl, Int.sub_zero, Int.toNat_zero, Int.natCast_nonneg, cE]
    refine ops_call (.pureE (many_meets (l.take k) hreg (by omega)) (by simp [go_sem, Nat.reduceLT, Nat.reduceAdd, Nat.reduceEqDiff, Nat.reduceLeDiff, Nat.reduceSub, Nat.reduceMul, Int.reduceEq, reduceIte])) ?_
    have hw : ∀ r, IntKind.i64.wrap ((cntR (l.take k) r : Int) + 1) = (cntR (l.take k) r : Int) + 1 := fun r => by have := cntR_le (l.take k) r; rw [IntWalk.i64_in _ (by omega)]
    by_cases h3 : (cntR (l.take k) (nth l k).id.r : Int) + 1 = (nth l k).id.n
    ·
     have h3e : logErr l k = if readyB (l.take k) (nth l k) = false then 5 else 0 := by simp [logErr, h1, h2, h3]
     rcases hr with hr | hr
     all_goals
      have h3' := h3
      rw [hr] at h3'
      have dc := decide_eq_true h3'
      simp only [go_sem, Nat.reduceLT, Nat.reduceAdd, Nat.reduceEqDiff, Nat.reduceLeDiff, Nat.reduceSub, Nat.reduceMul, Int.reduceEq, reduceIte, hr, hw, dc, hle, hrow, htk, Int.sub_zero, Int.natCast_nonneg, cE, Int.reduceLE, Int.reduceLT, Int.reduceToNat, Int.cast_ofNat_Int, Int.ofNat_zero, Int.toNat_zero, Int.le_refl]
      refine ops_call (.pureE (ready_meets (l.take k) (nth l k) hreg (by omega) (by omega) (by have := (check_ok_bounds h1).2.2.2.1; omega)) (by simp [go_sem, Nat.reduceLT, Nat.reduceAdd, Nat.reduceEqDiff, Nat.reduceLeDiff, Nat.reduceSub, Nat.reduceMul, Int.reduceEq, reduceIte, cE, hr])) ?_
      cases h4 : readyB (l.take k) (nth l k)
      ·
       simp only [go_sem, Nat.reduceLT, Nat.reduceAdd, Nat.reduceEqDiff, Nat.reduceLeDiff, Nat.reduceSub, Nat.reduceMul, Int.reduceEq, reduceIte]
       refine ret_pure hx ?_
       have : logErr l k = 5 := by rw [h3e, if_pos h4]
       simp [go_sem, Nat.reduceLT, Nat.reduceAdd, Nat.reduceEqDiff, Nat.reduceLeDiff, Nat.reduceSub, Nat.reduceMul, Int.reduceEq, reduceIte, L48, R48, fin _ this (by decide)]
      ·
       simp only [go_sem, Nat.reduceLT, Nat.reduceAdd, Nat.reduceEqDiff, Nat.reduceLeDiff, Nat.reduceSub, Nat.reduceMul, Int.reduceEq, reduceIte, wk]
       refine ⟨by simp, n - 1, by omega, k + 1, by omega, firstNZ_succ hz (by rw [h3e, if_neg (by simp [h4])]), ?_⟩
       simp [trim_mk, go_sem, Nat.reduceLT, Nat.reduceAdd, Nat.reduceEqDiff, Nat.reduceLeDiff, Nat.reduceSub, Nat.reduceMul, Int.reduceEq, reduceIte, subHeap, renObj, pos]
    ·
     rcases hr with hr | hr
     all_goals
      have h3' := h3
      rw [hr] at h3'
      have dc := decide_eq_false h3'
      simp only [go_sem, Nat.reduceLT, Nat.reduceAdd, Nat.reduceEqDiff, Nat.reduceLeDiff, Nat.reduceSub, Nat.reduceMul, Int.reduceEq, reduceIte, hr, hw, dc, Int.reduceLE, Int.reduceLT, Int.reduceToNat, Int.cast_ofNat_Int, Int.ofNat_zero, Int.toNat_zero, Int.le_refl]
      refine ret_pure hx ?_
      have : logErr l k = 4 := by simp [logErr, h1, h2, h3]
      simp [go_sem, Nat.reduceLT, Nat.reduceAdd, Nat.reduceEqDiff, Nat.reduceLeDiff, Nat.reduceSub, Nat.reduceMul, Int.reduceEq, reduceIte, L48, R48, fin _ this (by decide)]
   ·
    simp only [go_sem, Nat.reduceLT, Nat.reduceAdd, Nat.reduceEqDiff, Nat.reduceLeDiff, Nat.reduceSub, Nat.reduceMul, Int.reduceEq, reduceIte, h1]
    refine ret_pure hx ?_
    have : logErr l k = checkEntry (nth l k) := by simp [logErr, h1]
    simp [go_sem, Nat.reduceLT, Nat.reduceAdd, Nat.reduceEqDiff, Nat.reduceLeDiff, Nat.reduceSub, Nat.reduceMul, Int.reduceEq, reduceIte, L48, R48, fin _ this h1]
  ·
   have hke : k = l.length := by omega
   subst hke
   simp only [go_sem, Nat.reduceLT, Nat.reduceAdd, Nat.reduceEqDiff, Nat.reduceLeDiff, Nat.reduceSub, Nat.reduceMul, Int.reduceEq, reduceIte, Nat.lt_irrefl, hz]
   refine ret_pure hx ?_
   simp [go_sem, Nat.reduceLT, Nat.reduceAdd, Nat.reduceEqDiff, Nat.reduceLeDiff, Nat.reduceSub, Nat.reduceMul, Int.reduceEq, reduceIte, L48, R48, hz]
end Go.Proofs.YtkgobnnkcnnfhaaGreat
/- Library functions of this seat, told apart by number (what the guide's shelf says of them is used by name). -/
namespace Go.Proofs.YtkgobnnkcnnfhaaGreat
open Go.Shelf Go.Proofs
def sortIdL_ren : Go.Shelf.Ren := ⟨fun | 6 => 91 | 15 => 97 | 14 => 96 | 28 => 108 | 29 => 109 | 20 => 100 | 21 => 101 | 22 => 102 | 23 => 103 | 24 => 104 | 25 => 105 | 26 => 106 | 27 => 107 | 46 => 110 | 47 => 111 | 48 => 112 | 49 => 113 | 50 => 114 | 57 => 115 | n => n, fun | 22 => 51 | 24 => 50 | 25 => 95 | 3 => 3 | 39 => 107 | 0 => 0 | 53 => 130 | 55 => 132 | 4 => 4 | 46 => 124 | 45 => 123 | 50 => 101 | 5 => 5 | 9 => 9 | 66 => 133 | 70 => 137 | 76 => 139 | 77 => 140 | n => n, fun n => n⟩
theorem sortIdL : SlLaysF0.n6 Tryz.prog sortIdL_ren := {
 mixed := by kernel_rfl,
 f6 := ⟨Tryz.f91.name, by decide, Tryz.func91.trans (congrArg some (by kernel_rfl))⟩,
 f14 := ⟨Tryz.f96.name, by decide, Tryz.func96.trans (congrArg some (by kernel_rfl))⟩,
 f15 := Tryz.func97.trans (congrArg some (by kernel_rfl)),
 f20 := ⟨Tryz.f100.name, by decide, Tryz.func100.trans (congrArg some (by kernel_rfl))⟩,
 f21 := ⟨Tryz.f101.name, by decide, Tryz.func101.trans (congrArg some (by kernel_rfl))⟩,
 f22 := ⟨Tryz.f102.name, by decide, Tryz.func102.trans (congrArg some (by kernel_rfl))⟩,
 f23 := ⟨Tryz.f103.name, by decide, Tryz.func103.trans (congrArg some (by kernel_rfl))⟩,
 f24 := ⟨Tryz.f104.name, by decide, Tryz.func104.trans (congrArg some (by kernel_rfl))⟩,
 f25 := ⟨Tryz.f105.name, by decide, Tryz.func105.trans (congrArg some (by kernel_rfl))⟩,
 f26 := ⟨Tryz.f106.name, by decide, Tryz.func106.trans (congrArg some (by kernel_rfl))⟩,
 f27 := ⟨Tryz.f107.name, by decide, Tryz.func107.trans (congrArg some (by kernel_rfl))⟩,
 f28 := Tryz.func108.trans (congrArg some (by kernel_rfl)),
 f29 := Tryz.func109.trans (congrArg some (by kernel_rfl)),
 f46 := ⟨Tryz.f110.name, by decide, Tryz.func110.trans (congrArg some (by kernel_rfl))⟩,
 f47 := Tryz.func111.trans (congrArg some (by kernel_rfl)),
 f48 := Tryz.func112.trans (congrArg some (by kernel_rfl)),
 f49 := ⟨Tryz.f113.name, by decide, Tryz.func113.trans (congrArg some (by kernel_rfl))⟩,
 f50 := ⟨Tryz.f114.name, by decide, Tryz.func114.trans (congrArg some (by kernel_rfl))⟩,
 f57 := ⟨Tryz.f115.name, by decide, Tryz.func115.trans (congrArg some (by kernel_rfl))⟩,
 t0 := Tryz.underlying0,
 a0 := Tryz.isAgg0,
 z0 := Tryz.sizeOf0,
 v0 := Tryz.zeroValue0,
 t3 := Tryz.underlying3,
 a3 := Tryz.isAgg3,
 z3 := Tryz.sizeOf3,
 v3 := Tryz.zeroValue3,
 t4 := Tryz.underlying4,
 a4 := Tryz.isAgg4,
 z4 := Tryz.sizeOf4,
 v4 := Tryz.zeroValue4,
 t5 := Tryz.underlying5,
 a5 := Tryz.isAgg5,
 z5 := Tryz.sizeOf5,
 v5 := Tryz.zeroValue5,
 t9 := Tryz.underlying9,
 a9 := Tryz.isAgg9,
 z9 := Tryz.sizeOf9,
 v9 := Tryz.zeroValue9,
 t22 := Tryz.underlying51,
 a22 := Tryz.isAgg51,
 z22 := Tryz.sizeOf51,
 v22 := Tryz.zeroValue51,
 t25 := Tryz.underlying95,
 a25 := Tryz.isAgg95,
 z25 := Tryz.sizeOf95,
 v25 := Tryz.zeroValue95,
 t39 := Tryz.underlying107,
 a39 := Tryz.isAgg107,
 z39 := Tryz.sizeOf107,
 v39 := Tryz.zeroValue107,
 t45 := Tryz.underlying123,
 a45 := Tryz.isAgg123,
 z45 := Tryz.sizeOf123,
 v45 := Tryz.zeroValue123,
 t46 := Tryz.underlying124,
 a46 := Tryz.isAgg124,
 z46 := Tryz.sizeOf124,
 v46 := Tryz.zeroValue124,
 t50 := Tryz.underlying101,
 a50 := Tryz.isAgg101,
 z50 := Tryz.sizeOf101,
 v50 := Tryz.zeroValue101,
 t53 := Tryz.underlying130,
 a53 := Tryz.isAgg130,
 z53 := Tryz.sizeOf130,
 v53 := Tryz.zeroValue130,
 t55 := Tryz.underlying132,
 a55 := Tryz.isAgg132,
 z55 := Tryz.sizeOf132,
 v55 := Tryz.zeroValue132,
 t66 := Tryz.underlying133,
 a66 := Tryz.isAgg133,
 z66 := Tryz.sizeOf133,
 v66 := Tryz.zeroValue133,
 t70 := Tryz.underlying137,
 a70 := Tryz.isAgg137,
 z70 := Tryz.sizeOf137,
 v70 := Tryz.zeroValue137,
 t76 := Tryz.underlying139,
 a76 := Tryz.isAgg139,
 z76 := Tryz.sizeOf139,
 v76 := Tryz.zeroValue139,
 t77 := Tryz.underlying140,
 a77 := Tryz.isAgg140,
 z77 := Tryz.sizeOf140,
 v77 := Tryz.zeroValue140 }
end Go.Proofs.YtkgobnnkcnnfhaaGreat
/- slices.SortFunc at ids by entry.Order: an array of ids is put in order. -/
namespace Go.Proofs.YtkgobnnkcnnfhaaGreat
open Go.RowKit
theorem cmpS_calls (a b : Int) (w : World) : Calls Tryz.prog 81 #[.int .i64 a, .int .i64 b] w fun e w' => e = .returned (.int .i64 (cmpI a b)) ∧ w = w' := by
 by_cases h1 : a < b
 ·
  go_enter Tryz.func81, Tryz.ntmps81
  go_wp2
  go_ret
  exact ⟨by simp [cmpI, h1], rfl⟩
 ·
  by_cases h2 : b < a
  ·
   go_enter Tryz.func81, Tryz.ntmps81
   go_wp2
   go_ret
   exact ⟨by simp [cmpI, h1, h2], rfl⟩
  ·
   go_enter Tryz.func81, Tryz.ntmps81
   go_wp2
   go_ret
   exact ⟨ret_int (by unfold cmpI; rw [if_neg (by omega), if_neg (by omega)]), rfl⟩
theorem orderS_calls (a b : Id) (w : World) : Calls Tryz.prog 68 #[.agg #[.int .i64 a.r, .int .i64 a.n], .agg #[.int .i64 b.r, .int .i64 b.n]] w fun e w' => e = .returned (.int .i64 (ordI a b)) ∧ ∃ q os', w' = Go.Sort.grow (w.drewN q) os' := by
 go_enter Tryz.func68, Tryz.ntmps68
 go_wp2_with (go_at_call 81; refine (cmpS_calls _ _ _).mono ?_; rintro e w' ⟨rfl, rfl⟩)
 ·
  go_ret
  have h : (cmpI a.r b.r != 0) = true := by assumption
  exact ⟨ret_int (by rw [ordI, if_neg (by simpa using h)]), 0, _, by rw [Go.Sort.alloc_eq_grow, Go.Sort.alloc_eq_grow, Go.Sort.grow_grow]; rfl⟩
 ·
  go_ret
  have h : (cmpI a.r b.r != 0) = false := by assumption
  exact ⟨ret_int (by rw [ordI, if_pos (by simpa using h)]), 0, _, by rw [Go.Sort.alloc_eq_grow, Go.Sort.alloc_eq_grow, Go.Sort.grow_grow]; rfl⟩
theorem cmpLaysI (blk off size : Nat) (w : World) : CmpLays Tryz.prog 68 #[] eId 2 ordI blk off size w := fun _ _ _ _ a b => orderS_calls a b _
theorem swoI : Go.Sort.SWO (ltOf ordI) where
 irrefl := fun x => by simp [ltOf, ordI_lt, lessB]
 trans := fun x y z h1 h2 => by
  simp only [ltOf, decide_eq_true_eq, ordI_lt, lessB] at h1 h2 ⊢
  omega
 ntrans := fun x y z h1 h2 => by
  simp only [ltOf, decide_eq_false_iff_not, ordI_lt, lessB, decide_eq_true_eq] at h1 h2 ⊢
  omega
theorem ordI_part (x y : Id) (h1 : ltOf ordI x y = false) (h2 : ltOf ordI y x = false) : x = y := by
 simp only [ltOf, decide_eq_false_iff_not, ordI_lt, lessB, decide_eq_true_eq] at h1 h2
 cases x; cases y
 simp at h1 h2 ⊢
 omega
def sortI (l : List Id) : List Id := l.mergeSort fun x y => !(ltOf ordI) y x
theorem sortIds_meets (l : List Id) (v T : Nat) (hl : l.length < 4611686018427387904) :
    Meets Tryz.prog 91 [.arr 0 v, .clo 68 []] [.arr v true false T 2 (l.map cId)] (.tup []) [.arr v true false T 2 ((sortI l).map cId)] := by
  intro x vs hx h0 hp
  obtain ⟨a, b, rfl, h1, h2⟩ := two_args hp.1
  have ha := hp.2 0 _ _ rfl h1
  have hb := hp.2 1 _ _ rfl h2
  obtain ⟨ws, rfl, hw, -⟩ := hb.clo_inv
  obtain rfl : ws = [] := List.length_eq_zero_iff.1 hw
  obtain ⟨e1, e2, e3⟩ := h0.row (id := 0) rfl ha
  rcases e3 with ⟨rfl, hnil⟩ | ⟨g, cap, cur, rfl, hc, hcap, hm, hz, hrow⟩
  · have : l = [] := by simpa using hnil
    subst this
    refine (AnyF.slices_SortFunc_none sortIdL none 0 (.func (.func 68) #[] #[]) x.w0).mono ?_
    rintro e w' ⟨rfl, rfl⟩
    exact ⟨_, x.C0, rfl, by simpa [sortI] using h0, .tup [] [] rfl (fun j p u h => by simp at h)⟩
  · have eg : ∀ args w, (callFunc 68 args).run Tryz.prog w = .ok (.enter 68 args) w := enters_of Tryz.func68 (by kernel_rfl) rfl
    have hH := flat_id.holds l hc hrow
    have hlt : g < x.w0.heap.size := (Array.getElem?_eq_some_iff.1 hc).1
    have key := AnyQ.slices_SortFunc_total sortIdL 2 (fun _ => by kernel_rfl) (fun _ => by kernel_rfl) eId flat_id.len flat_id.one ordI swoI 68 #[] g 0 cap l.toArray x.w0 eg (cmpLaysI g 0 _ x.w0) hH hlt (by simpa using hl) ordI_part
    rw [List.length_map] at *
    refine key.mono ?_
    rintro e w' ⟨rfl, n, os, rfl⟩
    obtain ⟨cur', c1, c2, c3, c4⟩ := row_world eId 2 x.w0 g n (l.toArray.toList.mergeSort fun x y => !(ltOf ordI) y x).toArray os hc
    have hsl : (sortI l).length = l.length := (List.mergeSort_perm l _).length_eq
    have hown : (x.C0.sv 0).ownBlock = some g := by rw [← e1]; rfl
    obtain ⟨C', k1, k2, k3⟩ := h0.rerow (id := 0) (v' := v) (g' := g) (cap' := cap) (rows' := (sortI l).map cId) (cur' := cur') rfl (by
      refine ⟨c4.size, c4.os, c4.tape, c4.output, fun b hb hne => c4.blk b hb fun e => hne (by rw [hown, e])⟩) (.inl hown) (.inl ⟨rfl, by rw [← e1, List.length_map, hsl]⟩) c1 (by rw [List.length_map, hsl]; exact hcap) hm (by rw [c2, hz])
      (fun row hr => by obtain ⟨y, -, rfl⟩ := List.mem_map.1 hr; rfl) (flat_id.rep c3 (l := sortI l) (sortI l).length (fun i hi => by
        rw [List.getElem?_eq_getElem hi]
        simp [sortI] at hi ⊢
        simp [hi]) rfl (by simp [sortI]))
    exact ⟨_, C', rfl, k1, .tup [] [] rfl (fun j p u h => by simp at h)⟩
end Go.Proofs.YtkgobnnkcnnfhaaGreat
/- Plain laws of logs: ids in order, what a right log has, pasts. No program in sight. -/
namespace Go.Proofs.YtkgobnnkcnnfhaaGreat
/-! ids in order -/
def Asc (l : List Id) : Prop := l.Pairwise fun a b => lessB a b = true
theorem lessB_trans {a b c : Id} (h1 : lessB a b = true) (h2 : lessB b c = true) : lessB a c = true := by
 simp only [lessB, decide_eq_true_eq] at *; omega
theorem lessB_irrefl (a : Id) : lessB a a = false := by simp [lessB]
theorem lessB_conn {a b : Id} (h1 : lessB a b = false) (h2 : lessB b a = false) : a = b := by
 cases a; cases b
 simp only [lessB, decide_eq_false_iff_not] at h1 h2
 simp
 omega
theorem asc_ext : ∀ {l m : List Id}, Asc l → Asc m → (∀ x, x ∈ l ↔ x ∈ m) → l = m
 | [], [], _, _, _ => rfl
 | [], y :: m, _, _, h => by have := (h y).2 (by simp); simp at this
 | x :: l, [], _, _, h => by have := (h x).1 (by simp); simp at this
 | x :: l, y :: m, h1, h2, h => by
  have h1' := List.pairwise_cons.1 h1
  have h2' := List.pairwise_cons.1 h2
  have hxy : x = y := by
   rcases List.mem_cons.1 ((h x).1 (by simp)) with e | e
   ·
    exact e
   rcases List.mem_cons.1 ((h y).2 (by simp)) with e' | e'
   ·
    exact e'.symm
   have := lessB_trans (h1'.1 y e') (h2'.1 x e)
   rw [lessB_irrefl] at this; cases this
  subst hxy
  rw [asc_ext h1'.2 h2'.2 fun z => ?_]
  constructor
  ·
   intro hz
   rcases List.mem_cons.1 ((h z).1 (by simp [hz])) with e | e
   ·
    subst e; have := h1'.1 z hz; rw [lessB_irrefl] at this; cases this
   ·
    exact e
  ·
   intro hz
   rcases List.mem_cons.1 ((h z).2 (by simp [hz])) with e | e
   ·
    subst e; have := h2'.1 z hz; rw [lessB_irrefl] at this; cases this
   ·
    exact e
theorem rise_len : ∀ (l : List Int) (a b : Int), l.Pairwise (· < ·) → (∀ x ∈ l, a ≤ x ∧ x < b) → a ≤ b → (l.length : Int) ≤ b - a
 | [], a, b, _, _, h => by simp; omega
 | x :: l, a, b, hp, hm, h => by
  have hp' := List.pairwise_cons.1 hp
  have hx := hm x (by simp)
  have := rise_len l (x + 1) b hp'.2 (fun y hy => ⟨hp'.1 y hy, (hm y (by simp [hy])).2⟩) (by omega)
  simp only [List.length_cons]; omega
theorem asc_len {l : List Id} (h : Asc l) (hk : ∀ x ∈ l, okId x = true) : l.length ≤ 40 := by
 have hb : ∀ x ∈ l, 0 ≤ x.r ∧ x.r ≤ 1 ∧ 1 ≤ x.n ∧ x.n ≤ 20 := fun x hx => by
  have := hk x hx
  simp only [okId, Bool.and_eq_true, wthn_iff] at this
  omega
 have := rise_len (l.map fun x => x.r * 20 + x.n) 1 41 (List.pairwise_map.2 (List.Pairwise.imp_of_mem (fun {a b} ha hb' hab => by
  have h1 := hb a ha
  have h2 := hb b hb'
  simp only [lessB, decide_eq_true_eq] at hab
  omega) h)) (fun y hy => by
   obtain ⟨x, hx, rfl⟩ := List.mem_map.1 hy
   have := hb x hx
   omega) (by omega)
 rw [List.length_map] at this
 omega
theorem sortI_mem {l : List Id} {x : Id} : x ∈ sortI l ↔ x ∈ l := (List.mergeSort_perm l _).mem_iff
theorem sortI_length (l : List Id) : (sortI l).length = l.length := (List.mergeSort_perm l _).length_eq
theorem sortI_sorted (l : List Id) : (sortI l).Pairwise fun a b => lessB b a = false := by
 have := List.pairwise_mergeSort (le := fun x y : Id => !(ltOf ordI) y x) (fun a b c h1 h2 => by
  simp only [ltOf, ordI_lt, Bool.not_eq_true', decide_eq_false_iff_not, Bool.not_eq_true] at *
  simp only [lessB, decide_eq_false_iff_not] at *; omega) (fun a b => by
  simp only [ltOf, ordI_lt, Bool.or_eq_true, Bool.not_eq_true', decide_eq_false_iff_not, lessB, decide_eq_true_eq]; omega) l
 exact this.imp fun {a b} h => by simpa [ltOf, ordI_lt] using h
theorem compI_mem {l : List Id} {x : Id} : x ∈ compI l ↔ x ∈ l := by
 unfold compI Lib.compact Lib.compactUpTo
 rw [List.mem_map]
 constructor
 ·
  rintro ⟨j, hj, rfl⟩
  have : j < l.length := by simpa using (List.mem_filter.1 hj).1
  simp [this]
 ·
  intro hx
  obtain ⟨j, hj, rfl⟩ := List.getElem_of_mem hx
  induction j using Nat.strongRecOn with
  | _ j ih =>
   by_cases hk : Lib.keeps l.toArray j = true
   ·
    exact ⟨j, List.mem_filter.2 ⟨List.mem_range.2 hj, hk⟩, by simp [hj]⟩
   ·
    simp only [Lib.keeps, decide_eq_true_eq, not_or, Decidable.not_not] at hk
    obtain ⟨h0, h1⟩ := hk
    have hj' : j - 1 < l.length := by omega
    obtain ⟨i, h2, h3⟩ := ih (j - 1) (by omega) hj' (List.getElem_mem hj')
    refine ⟨i, h2, ?_⟩
    rw [h3]
    have := h1
    simp only [hj, hj', List.getElem!_toArray, getElem!_pos] at this
    exact this.symm
theorem compI_asc {l : List Id} (h : l.Pairwise fun a b => lessB b a = false) : Asc (compI l) := by
 unfold compI Lib.compact Lib.compactUpTo Asc
 rw [List.pairwise_map]
 refine List.Pairwise.imp_of_mem (R := (· < ·)) (fun {i j} hi hj hij => ?_) (List.Pairwise.filter _ List.pairwise_lt_range)
 obtain ⟨h1, -⟩ := List.mem_filter.1 hi
 obtain ⟨h2, h3⟩ := List.mem_filter.1 hj
 have hjl : j < l.length := List.mem_range.1 h2
 simp only [Lib.keeps, decide_eq_true_eq] at h3
 have h3' := h3.resolve_left (by omega)
 have hj1 : j - 1 < l.length := by omega
 have hil : i < l.length := by omega
 simp only [List.getElem!_toArray, getElem!_pos, hjl, hj1] at h3'
 simp only [List.getElem!_toArray, getElem!_pos, hjl, hil]
 have a1 : lessB l[j] l[j - 1] = false := List.pairwise_iff_getElem.1 h (j - 1) j hj1 hjl (by omega)
 have a2 : lessB l[j - 1] l[j] = true := by
  cases e : lessB l[j - 1] l[j]
  ·
   exact (h3' (lessB_conn a1 e)).elim
  ·
   rfl
 by_cases e : i = j - 1
 ·
  subst e; exact a2
 ·
  have a3 : lessB l[j - 1] l[i] = false := List.pairwise_iff_getElem.1 h i (j - 1) hil hj1 (by omega)
  simp only [lessB, decide_eq_false_iff_not, decide_eq_true_eq] at *
  omega
def setI (l : List Id) : List Id := compI (sortI l)
theorem setI_mem {l : List Id} {x : Id} : x ∈ setI l ↔ x ∈ l := compI_mem.trans sortI_mem
theorem setI_asc (l : List Id) : Asc (setI l) := compI_asc (sortI_sorted l)
theorem sortI_asc {l : List Id} (h : l.Nodup) : Asc (sortI l) := by
 have h1 : (sortI l).Nodup := (List.mergeSort_perm l _).nodup_iff.2 h
 exact (List.Pairwise.and (sortI_sorted l) h1).imp fun {a b} ⟨h1, h2⟩ => by
  cases e : lessB a b
  ·
   exact (h2 (lessB_conn e h1)).elim
  ·
   rfl
/-! finding -/
theorem idxF_take {α : Type} (p : α → Bool) : ∀ (l : List α) (k i : Nat), 0 ≤ idxF p (l.take k) i → idxF p l i = idxF p (l.take k) i ∧ idxF p l i < i + k
 | [], k, i, h => by simp [idxF] at h
 | x :: l, 0, i, h => by simp [idxF] at h
 | x :: l, k + 1, i, h => by
  simp only [List.take_succ_cons, idxF] at h ⊢
  split
  ·
   exact ⟨rfl, by omega⟩
  ·
   rename_i hx
   rw [if_neg hx] at h
   have := idxF_take p l k (i + 1) h
   exact ⟨this.1, by omega⟩
theorem idxF_spec {α : Type} [Inhabited α] (p : α → Bool) : ∀ (l : List α) (i : Nat), 0 ≤ idxF p l i → ∃ k : Nat, idxF p l i = i + k ∧ k < l.length ∧ p (nth l k) = true
 | [], i, h => by simp [idxF] at h
 | x :: l, i, h => by
  simp only [idxF] at h ⊢
  split
  ·
   rename_i hx
   exact ⟨0, by simp, by simp, by simpa [nth] using hx⟩
  ·
   rename_i hx
   rw [if_neg hx] at h
   obtain ⟨k, h1, h2, h3⟩ := idxF_spec p l (i + 1) h
   exact ⟨k + 1, by omega, by simp; omega, by simpa [nth] using h3⟩
theorem findE_take {l : List Entry} {k : Nat} {x : Id} (h : 0 ≤ findE (l.take k) x) : findE l x = findE (l.take k) x ∧ findE l x < k := by
 have := idxF_take (fun e : Entry => decide (e.id = x)) l k 0 h
 exact ⟨this.1, by have := this.2; unfold findE; omega⟩
theorem findE_spec {l : List Entry} {x : Id} (h : 0 ≤ findE l x) : ∃ k : Nat, findE l x = k ∧ k < l.length ∧ (nth l k).id = x := by
 obtain ⟨k, h1, h2, h3⟩ := idxF_spec _ l 0 h
 exact ⟨k, by rw [findE, h1]; simp, h2, by simpa using h3⟩
theorem findE_neg {l : List Entry} {x : Id} : findE l x < 0 ↔ ∀ e ∈ l, e.id ≠ x := by
 rcases idxF_ge (fun e : Entry => decide (e.id = x)) l 0 with ⟨h1, h2⟩ | ⟨h1, h2⟩
 ·
  rw [findE, h1]
  rw [List.any_eq_false] at h2
  exact ⟨fun _ e he => by simpa using h2 e he, fun _ => by omega⟩
 ·
  rw [List.any_eq_true] at h2
  obtain ⟨e, he, hx⟩ := h2
  exact ⟨fun h => by rw [findE] at h; omega, fun h => (h e he (by simpa using hx)).elim⟩
/-! right logs -/
structure LogOk (l : List Entry) : Prop where
 len : l.length ≤ 40
 chk : ∀ k, k < l.length → checkEntry (nth l k) = 0
 new : ∀ k, k < l.length → findE (l.take k) (nth l k).id < 0
 num : ∀ k, k < l.length → (cntR (l.take k) (nth l k).id.r : Int) + 1 = (nth l k).id.n
 lnk : ∀ k, k < l.length → ∀ x ∈ (nth l k).ls, 0 ≤ findE (l.take k) x
theorem log_ok {l : List Entry} : checkLog l = 0 ↔ LogOk l := by
 have key : ∀ k, logErr l k = 0 ↔ checkEntry (nth l k) = 0 ∧ findE (l.take k) (nth l k).id < 0 ∧ (cntR (l.take k) (nth l k).id.r : Int) + 1 = (nth l k).id.n ∧ ∀ x ∈ (nth l k).ls, 0 ≤ findE (l.take k) x := by
  intro k
  unfold logErr
  split
  ·
   rename_i h; exact ⟨fun e => (h e).elim, fun e => (h e.1).elim⟩
  ·
   rename_i h0
   have h0' : checkEntry (nth l k) = 0 := by simpa using h0
   split
   ·
    rename_i h; exact ⟨fun e => (by cases e), fun e => by omega⟩
   ·
    rename_i h1
    split
    ·
     rename_i h; exact ⟨fun e => (by cases e), fun e => (h e.2.2.1).elim⟩
    ·
     rename_i h2
     have h2' : (cntR (l.take k) (nth l k).id.r : Int) + 1 = (nth l k).id.n := by simpa using h2
     have hr : readyB (l.take k) (nth l k) = true ↔ ∀ x ∈ (nth l k).ls, 0 ≤ findE (l.take k) x := by
      simp only [readyB, h2', decide_true, Bool.true_and, Bool.not_eq_true', List.any_eq_false, decide_eq_true_eq]
      exact ⟨fun h x hx => by have := h x hx; omega, fun h x hx => by have := h x hx; omega⟩
     rw [← hr]
     split
     ·
      rename_i h; exact ⟨fun e => (by cases e), fun e => by rw [h] at e; simp at e⟩
     ·
      rename_i h; exact ⟨fun _ => ⟨h0', by omega, h2', by simpa using h⟩, fun _ => rfl⟩
 unfold checkLog
 split
 ·
  rename_i h; exact ⟨fun e => (by cases e), fun e => by have := e.len; omega⟩
 ·
  rename_i h
  rw [firstNZ_zero]
  exact ⟨fun e => ⟨by omega, fun k hk => ((key k).1 (e k hk)).1, fun k hk => ((key k).1 (e k hk)).2.1, fun k hk => ((key k).1 (e k hk)).2.2.1, fun k hk => ((key k).1 (e k hk)).2.2.2⟩,
   fun e k hk => (key k).2 ⟨e.chk k hk, e.new k hk, e.num k hk, e.lnk k hk⟩⟩
theorem LogOk.id_ok {l : List Entry} (h : LogOk l) {k : Nat} (hk : k < l.length) : okId (nth l k).id = true := (check_ok_bounds (h.chk k hk)).1
theorem LogOk.links {l : List Entry} (h : LogOk l) {k : Nat} (hk : k < l.length) : (nth l k).ls.length ≤ 6 := (check_ok_bounds (h.chk k hk)).2.2.2.1
theorem LogOk.link_lt {l : List Entry} (h : LogOk l) {k : Nat} (hk : k < l.length) {x : Id} (hx : x ∈ (nth l k).ls) : 0 ≤ findE l x ∧ findE l x < k := by
 have h1 := h.lnk k hk x hx
 have h2 := findE_take h1
 exact ⟨by omega, h2.2⟩
theorem LogOk.inj {l : List Entry} (h : LogOk l) {i k : Nat} (hi : i < l.length) (hk : k < l.length) (e : (nth l i).id = (nth l k).id) : i = k := by
 have aux : ∀ i k, i < k → k < l.length → (nth l i).id = (nth l k).id → False := fun i k hik hk e => by
  have := findE_neg.1 (h.new k hk) (nth l i) (by rw [List.mem_take_iff_getElem]; exact ⟨i, by omega, by rw [nth_eq _ _ (by omega)]⟩)
  exact this e
 rcases Nat.lt_trichotomy i k with h1 | h1 | h1
 ·
  exact (aux i k h1 hk e).elim
 ·
  exact h1
 ·
  exact (aux k i h1 hi e.symm).elim
theorem LogOk.find {l : List Entry} (h : LogOk l) {k : Nat} (hk : k < l.length) : findE l (nth l k).id = k := by
 have h0 : ¬ findE l (nth l k).id < 0 := fun hn => findE_neg.1 hn (nth l k) (by rw [nth_eq _ _ hk]; exact List.getElem_mem hk) rfl
 obtain ⟨j, h1, h2, h3⟩ := findE_spec (by omega : 0 ≤ findE l (nth l k).id)
 rw [h1, h.inj h2 hk h3]
theorem LogOk.reg {l : List Entry} (h : LogOk l) : okReg l := by
 intro e he
 obtain ⟨k, hk, rfl⟩ := List.getElem_of_mem he
 rw [← nth_eq l k hk]
 exact reg_of_check (h.chk k hk)
/-! pasts -/
def pastAt (ps : List (List Id)) (l : List Entry) (x : Id) : List Id := nth ps (findE l x).toNat
def allOf (ps : List (List Id)) (l : List Entry) (ls : List Id) : List Id := ls.flatMap fun x => x :: pastAt ps l x
def pastsTo (l : List Entry) : Nat → List (List Id)
 | 0 => []
 | k + 1 => pastsTo l k ++ [setI (allOf (pastsTo l k) l (nth l k).ls)]
def pasts (l : List Entry) : List (List Id) := pastsTo l l.length
def pastOf (l : List Entry) (k : Nat) : List Id := nth (pasts l) k
@[simp] theorem pastsTo_length (l : List Entry) : ∀ k, (pastsTo l k).length = k
 | 0 => rfl
 | k + 1 => by simp [pastsTo, pastsTo_length l k]
theorem pastsTo_nth (l : List Entry) {i k : Nat} (h : i < k) : nth (pastsTo l k) i = nth (pastsTo l (i + 1)) i := by
 induction k with
 | zero => omega
 | succ k ih =>
  by_cases e : i = k
  ·
   rw [e]
  ·
   rw [← ih (by omega), nth_eq _ _ (by simp; omega), nth_eq _ _ (by simp; omega)]
   simp only [pastsTo]
   rw [List.getElem_append_left]
theorem nth_last (l : List Entry) (k : Nat) : nth (pastsTo l (k + 1)) k = setI (allOf (pastsTo l k) l (nth l k).ls) := by
 rw [nth_eq _ _ (by simp)]
 simp only [pastsTo]
 rw [List.getElem_append_right (by simp)]
 simp
theorem allOf_to {l : List Entry} (h : LogOk l) {k m : Nat} (hk : k < l.length) (hm : k ≤ m) : allOf (pastsTo l m) l (nth l k).ls = allOf (pastsTo l k) l (nth l k).ls := by
 unfold allOf
 have : ∀ x ∈ (nth l k).ls, pastAt (pastsTo l m) l x = pastAt (pastsTo l k) l x := fun x hx => by
  have := h.link_lt hk hx
  unfold pastAt
  rw [pastsTo_nth l (by omega : (findE l x).toNat < m), pastsTo_nth l (by omega : (findE l x).toNat < k)]
 rw [List.flatMap_def, List.flatMap_def]
 congr 1
 exact List.map_congr_left fun x hx => by rw [this x hx]
theorem pastOf_eq {l : List Entry} (h : LogOk l) {k : Nat} (hk : k < l.length) : pastOf l k = setI (allOf (pasts l) l (nth l k).ls) := by
 unfold pastOf pasts
 rw [pastsTo_nth l hk, nth_last, allOf_to h hk (Nat.le_of_lt hk)]
theorem pastOf_asc {l : List Entry} (h : LogOk l) {k : Nat} (hk : k < l.length) : Asc (pastOf l k) := by
 rw [pastOf_eq h hk]; exact setI_asc _
theorem mem_pastOf {l : List Entry} (h : LogOk l) {k : Nat} (hk : k < l.length) {y : Id} : y ∈ pastOf l k ↔ ∃ x ∈ (nth l k).ls, y = x ∨ y ∈ pastOf l (findE l x).toNat := by
 rw [pastOf_eq h hk, setI_mem, allOf, List.mem_flatMap]
 simp only [List.mem_cons]
 rfl
theorem pastOf_lt {l : List Entry} (h : LogOk l) : ∀ (k : Nat), k < l.length → ∀ y ∈ pastOf l k, ∃ j, j < k ∧ (nth l j).id = y := by
 intro k
 induction k using Nat.strongRecOn with
 | _ k ih =>
  intro hk y hy
  obtain ⟨x, hx, he⟩ := (mem_pastOf h hk).1 hy
  obtain ⟨h1, h2⟩ := h.link_lt hk hx
  obtain ⟨j, h3, h4, h5⟩ := findE_spec h1
  rcases he with rfl | he
  ·
   exact ⟨j, by omega, h5⟩
  ·
   obtain ⟨i, h6, h7⟩ := ih (findE l x).toNat (by omega) (by omega) y he
   exact ⟨i, by omega, h7⟩
theorem pastOf_ok {l : List Entry} (h : LogOk l) {k : Nat} (hk : k < l.length) : ∀ y ∈ pastOf l k, okId y = true := by
 intro y hy
 obtain ⟨j, h1, rfl⟩ := pastOf_lt h k hk y hy
 exact h.id_ok (by omega)
theorem pastOf_len {l : List Entry} (h : LogOk l) {k : Nat} (hk : k < l.length) : (pastOf l k).length ≤ 40 := asc_len (pastOf_asc h hk) (pastOf_ok h hk)
end Go.Proofs.YtkgobnnkcnnfhaaGreat
/- A struct that nobody writes any more: its pointer shows its cells, and its object is let go. -/
namespace Go.Proofs.YtkgobnnkcnnfhaaGreat
open Go.RowKit
theorem weak_rptr {x : Cx} {nt : Nat} {st : St} (t id : Nat) {cells : List PV} {H' : List AObj} {cells' : List PV} (h : st.env t = .ptr id 0) (hid : st.heap[id]? = some (.box cells)) (hc : cells.map (frz st.heap) = cells') (hp : cells'.all PV.isPure = true) (hH : st.heap.set id .gone = H') :
    Weak x nt st (st.put (some t) (.rptr cells') H') := by
  subst hc; subst hH
  intro a w ⟨⟨C, hr, he⟩, hdf, hs⟩
  have hlt : id < st.heap.length := (List.getElem?_eq_some_iff.1 hid).1
  obtain ⟨cs, T, g1, g2, g3⟩ := hr.obj id _ hid
  have hb : C.blk id < w.heap.size := (Array.getElem?_eq_some_iff.1 g1).1
  have hmp : ∀ p v, RepP (Stab x C st.heap w) w p v → RepP (Stab x C (st.heap.set id .gone) w) w p v := by
    intro p v h
    refine h.mono (fun b o h => ⟨h.1, h.2.1, fun i ob1 hi => ?_⟩) fun b o h => rfl
    by_cases e : i = id
    · subst e; rw [List.getElem?_set_self hlt] at hi; cases hi; trivial
    · rw [List.getElem?_set_ne (Ne.symm e)] at hi; exact h.2.2 i ob1 hi
  obtain ⟨k1, k2⟩ := hr.change (C' := C) hid (ob' := .gone) (step_refl w) rfl (fun _ => rfl) (fun _ _ => ⟨rfl, rfl⟩) (.inl ⟨rfl, rfl⟩)
    (fun b o hb hf => trivial) (fun b o hb hf => rfl) (fun b hb => hb.elim) (fun _ _ => trivial)
  have hfz := frz_cells (vs := cells) (us := cs.toList) hr (fun j q u hq hu => g3 j q u hq (by rw [← Array.getElem?_toList]; exact hu)) hp
  refine ⟨⟨C, k1, fun u => ?_⟩, hdf, hs⟩
  simp only [St.put, Option.some.injEq]
  by_cases e : t = u
  · subst e
    rw [if_pos rfl]
    have := he t
    rw [h] at this
    rw [this.ptr_inv.1]
    refine .rptr _ (C.blk id) 0 (fun j => cs[j]!) (fun j p hj => ?_) fun j p hj => ?_
    all_goals
      have hjl : j < cs.size := by
        have := (List.getElem?_eq_some_iff.1 hj).1
        rw [List.length_map] at this; omega
    · refine ⟨⟨?_, hb, fun i ob1 hi => ?_⟩, ?_⟩
      · rcases hr.mine id _ _ hid rfl with h | h
        · exact .inr (.inl h)
        · exact .inr (.inr h)
      · by_cases e : i = id
        · subst e; rw [List.getElem?_set_self hlt] at hi; cases hi; trivial
        · rw [List.getElem?_set_ne (Ne.symm e)] at hi
          exact AObj.free_of_not (fun hb => e (hr.apart i id ob1 _ _ hi hid hb rfl)) _
      · simp [World.cell?, g1, hjl]
    · exact hmp _ _ (hfz j p _ hj (by simp [hjl])).2
  · rw [if_neg e]; exact k2 _ _ (he u)
end Go.Proofs.YtkgobnnkcnnfhaaGreat
/- Pasts: contracts. -/
namespace Go.Proofs.YtkgobnnkcnnfhaaGreat
set_option linter.unusedSimpArgs false
set_option linter.unusedVariables false
open Go.RowKit
def ofRows (ps : List (List Id)) : List (List PV) := ps.map fun p => [.list (p.map cId)]
def pvPasts (l : List Entry) (ps : List (List Id)) : PV := .rptr [.list (l.map cE), .list (ofRows ps)]
theorem of_meets (l : List Entry) (ps : List (List Id)) (x : Id) (hl : l.length ≤ 9223372036854775806) (h0 : 0 ≤ findE l x) (h1 : findE l x < ps.length) :
    Meets Tryz.prog 93 [pvPasts l ps, .agg (cId x)] [] (.list ((pastAt ps l x).map cId)) [] := by
  have hg : ps[(findE l x).toNat]? = some (pastAt ps l x) := nth_get? _ _ (by omega)
  refine Meets.of_walk Tryz.func93 Tryz.ntmps93 low93 res93 (by simp) fun xx hx => ?_
  simp only [go_sem, Nat.reduceLT, Nat.reduceAdd, Nat.reduceEqDiff, Nat.reduceLeDiff, Nat.reduceSub, Nat.reduceMul, Int.reduceEq, reduceIte, L93, R93, cId, pvPasts, ofRows]
  refine ops_call (.pureE (find_meets l x hl) (by simp [go_sem, Nat.reduceLT, Nat.reduceAdd, Nat.reduceEqDiff, Nat.reduceLeDiff, Nat.reduceSub, Nat.reduceMul, Int.reduceEq, reduceIte, cId])) ?_
  simp only [go_sem, Nat.reduceLT, Nat.reduceAdd, Nat.reduceEqDiff, Nat.reduceLeDiff, Nat.reduceSub, Nat.reduceMul, Int.reduceEq, reduceIte, h0, h1, hg]
  refine ret_pure hx ?_
  simp [go_sem, Nat.reduceLT, Nat.reduceAdd, Nat.reduceEqDiff, Nat.reduceLeDiff, Nat.reduceSub, Nat.reduceMul, Int.reduceEq, reduceIte, L93, R93]
theorem ofA_meets (l : List Entry) (ps : List (List Id)) (x : Id) (v T : Nat) (hl : l.length ≤ 9223372036854775806) (h0 : 0 ≤ findE l x) (h1 : findE l x < ps.length) :
    Meets Tryz.prog 93 [.ptr 0 0, .agg (cId x)] [.box [.list (l.map cE), .arr 1 v], .arr v false false T 1 (ofRows ps)] (.list ((pastAt ps l x).map cId)) [.box [.list (l.map cE), .arr 1 v], .arr v false false T 1 (ofRows ps)] := by
  have hg : ps[(findE l x).toNat]? = some (pastAt ps l x) := nth_get? _ _ (by omega)
  refine Meets.of_walk Tryz.func93 Tryz.ntmps93 low93 res93 (by simp) fun xx hx => ?_
  simp only [go_sem, Nat.reduceLT, Nat.reduceAdd, Nat.reduceEqDiff, Nat.reduceLeDiff, Nat.reduceSub, Nat.reduceMul, Int.reduceEq, reduceIte, L93, R93, cId, ofRows]
  refine ops_call (.pureE (find_meets l x hl) (by simp [go_sem, Nat.reduceLT, Nat.reduceAdd, Nat.reduceEqDiff, Nat.reduceLeDiff, Nat.reduceSub, Nat.reduceMul, Int.reduceEq, reduceIte, cId])) ?_
  simp only [go_sem, Nat.reduceLT, Nat.reduceAdd, Nat.reduceEqDiff, Nat.reduceLeDiff, Nat.reduceSub, Nat.reduceMul, Int.reduceEq, reduceIte, h0, h1, hg]
  refine ret_keep [] (by simp) (by simp) (by simp [hx]) ?_ ?_
  · simp [go_sem, Nat.reduceLT, Nat.reduceAdd, Nat.reduceEqDiff, Nat.reduceLeDiff, Nat.reduceSub, Nat.reduceMul, Int.reduceEq, reduceIte, L93, R93, hx, pos, List.range_succ]
  · simp [subHeap, renObj, hx, go_sem, Nat.reduceLT, Nat.reduceAdd, Nat.reduceEqDiff, Nat.reduceLeDiff, Nat.reduceSub, Nat.reduceMul, Int.reduceEq, reduceIte, pos, List.range_succ]
theorem allOf_take {ps : List (List Id)} {l : List Entry} {ls : List Id} {j : Nat} (h : j < ls.length) : allOf ps l (ls.take (j + 1)) = allOf ps l (ls.take j) ++ [nth ls j] ++ pastAt ps l (nth ls j) := by
 unfold allOf
 rw [List.take_succ_eq_append_getElem h, nth_eq _ _ h, List.flatMap_append]
 simp only [List.flatMap_cons, List.flatMap_nil, List.append_nil, List.append_assoc, List.cons_append, List.nil_append]
theorem pastAt_to {l : List Entry} {k : Nat} {x : Id} (hk : k ≤ l.length) (h0 : 0 ≤ findE l x) (h1 : findE l x < k) : pastAt (pastsTo l k) l x = pastOf l (findE l x).toNat := by
 unfold pastAt pastOf pasts
 rw [pastsTo_nth l (by omega : (findE l x).toNat < k), pastsTo_nth l (by omega : (findE l x).toNat < l.length)]
theorem allOf_len {l : List Entry} (h : LogOk l) {k : Nat} (hk : k < l.length) : ∀ j, j ≤ (nth l k).ls.length → (allOf (pastsTo l k) l ((nth l k).ls.take j)).length ≤ 41 * j
 | 0, _ => by simp [allOf]
 | j + 1, hj => by
  have hlj : j < (nth l k).ls.length := by omega
  obtain ⟨f1, f2⟩ := h.link_lt hk (x := nth (nth l k).ls j) (by rw [nth_eq _ _ hlj]; exact List.getElem_mem hlj)
  have := allOf_len h hk j (by omega)
  have h2 := pastOf_len h (k := (findE l (nth (nth l k).ls j)).toNat) (by omega)
  rw [allOf_take hlj, pastAt_to (by omega) f1 f2]
  simp only [List.length_append, List.length_cons, List.length_nil]
  omega
set_option maxHeartbeats 1000000 in
theorem before_meets (l : List Entry) (h : LogOk l) : Meets Tryz.prog 87 [.list (l.map cE)] [] (pvPasts l (pasts l)) [] := by
 have hm := h.len
 refine Meets.of_walk Tryz.func87 Tryz.ntmps87 low87 res87 (by simp) fun x hx => ?_
 simp only [go_sem, Nat.reduceLT, Nat.reduceAdd, Nat.reduceEqDiff, Nat.reduceLeDiff, Nat.reduceSub, Nat.reduceMul, Int.reduceEq, reduceIte, L87, R87]
 refine W_weak (weak_ownc 0 1 0 51 1 false false rfl rfl (by omega)) ?_
 refine loop_inv [3, 12, 13, 14] 2 (fun n st => ∃ k : Nat, k + n = l.length ∧
  st = ⟨mkE .top [(3, .ptr 0 0), (12, .list (l.map cE)), (13, .int .i64 l.length), (14, .int .i64 k)], [.box [.list (l.map cE), .arr 1 k], .arr k false false 51 1 (ofRows (pastsTo l k))]⟩) l.length (by simp [hx]) (by simp) ?_ ?_
 ·
  refine ⟨0, by omega, ?_⟩
  simp [trim_mk, go_sem, Nat.reduceLT, Nat.reduceAdd, Nat.reduceEqDiff, Nat.reduceLeDiff, Nat.reduceSub, Nat.reduceMul, Int.reduceEq, reduceIte, subHeap, renObj, pos, List.range_succ, pastsTo, ofRows]
 ·
  rintro n st ⟨k, hk, rfl⟩
  by_cases hlt : k < l.length
  ·
   have hg : l[k]? = some (nth l k) := nth_get? _ _ hlt
   have wk := i64_up (k := k) (by omega)
   have hls := h.links hlt
   simp only [go_sem, Nat.reduceLT, Nat.reduceAdd, Nat.reduceEqDiff, Nat.reduceLeDiff, Nat.reduceSub, Nat.reduceMul, Int.reduceEq, reduceIte, hlt, hg, cE]
   refine W_weak (weak_own 6 0 50 2 true false rfl (by omega)) ?_
   refine loop_inv [3, 6, 12, 13, 14, 19, 20, 21] 4 (fun n st => ∃ j : Nat, j + n = (nth l k).ls.length ∧
    st = ⟨mkE .top [(3, .ptr 0 0), (6, .arr 3 (2 * j)), (12, .list (l.map cE)), (13, .int .i64 l.length), (14, .int .i64 k), (19, .list ((nth l k).ls.map cId)), (20, .int .i64 (nth l k).ls.length), (21, .int .i64 j)],
     [.box [.list (l.map cE), .arr 1 k], .arr k false false 51 1 (ofRows (pastsTo l k)), .box (cE (nth l k)), .arr (2 * j) true false 50 2 ((allOf (pastsTo l k) l ((nth l k).ls.take j)).map cId)]⟩) (nth l k).ls.length (by simp [hx]) (by simp [St.put]) ?_ ?_
   ·
    refine ⟨0, by omega, ?_⟩
    simp [trim_mk, go_sem, Nat.reduceLT, Nat.reduceAdd, Nat.reduceEqDiff, Nat.reduceLeDiff, Nat.reduceSub, Nat.reduceMul, Int.reduceEq, reduceIte, subHeap, renObj, pos, List.range_succ, cE, allOf]
   ·
    rintro n2 st ⟨j, hj, rfl⟩
    by_cases hlj : j < (nth l k).ls.length
    ·
     have hgj : (nth l k).ls[j]? = some (nth (nth l k).ls j) := nth_get? _ _ hlj
     have wj := i64_up (k := j) (by omega)
     have hmem : nth (nth l k).ls j ∈ (nth l k).ls := by rw [nth_eq _ _ hlj]; exact List.getElem_mem hlj
     obtain ⟨f1, f2⟩ := h.link_lt hlt hmem
     simp only [go_sem, Nat.reduceLT, Nat.reduceAdd, Nat.reduceEqDiff, Nat.reduceLeDiff, Nat.reduceSub, Nat.reduceMul, Int.reduceEq, reduceIte, hlj, hgj, cId]
     have b1 := allOf_len h hlt j (by omega)
     have b2 := pastOf_len h (k := (findE l (nth (nth l k).ls j)).toNat) (by omega)
     rw [← pastAt_to (k := k) (by omega) f1 f2] at b2
     rw [app_arr rfl rfl (by simp) (by simp; omega)]
     simp only [go_sem, Nat.reduceLT, Nat.reduceAdd, Nat.reduceEqDiff, Nat.reduceLeDiff, Nat.reduceSub, Nat.reduceMul, Int.reduceEq, reduceIte]
     refine ops_call (.heapE [0, 1] (r' := .list ((pastAt (pastsTo l k) l (nth (nth l k).ls j)).map cId)) (H' := [.box [.list (l.map cE), .arr 1 k], .arr k false false 51 1 (ofRows (pastsTo l k)), .box (cE (nth l k)), .arr (2 * j + 1) true false 50 2 ((allOf (pastsTo l k) l ((nth l k).ls.take j)).map cId ++ [cId (nth (nth l k).ls j)]), .box (cId (nth (nth l k).ls j))]) (ofA_meets l (pastsTo l k) (nth (nth l k).ls j) k 51 (by omega) f1 (by simp; omega))
      (by simp) (by simp) (by simp [go_sem, Nat.reduceLT, Nat.reduceAdd, Nat.reduceEqDiff, Nat.reduceLeDiff, Nat.reduceSub, Nat.reduceMul, Int.reduceEq, reduceIte, pos, cId]) (by simp [subHeap, renObj, go_sem, Nat.reduceLT, Nat.reduceAdd, Nat.reduceEqDiff, Nat.reduceLeDiff, Nat.reduceSub, Nat.reduceMul, Int.reduceEq, reduceIte, pos]) rfl (by simp [merge, mergeObj, callId, renObj, pos, go_sem, Nat.reduceLT, Nat.reduceAdd, Nat.reduceEqDiff, Nat.reduceLeDiff, Nat.reduceSub, Nat.reduceMul, Int.reduceEq, reduceIte, List.range_succ, backF, backId, cE, cId])) ?_
     simp only [go_sem, Nat.reduceLT, Nat.reduceAdd, Nat.reduceEqDiff, Nat.reduceLeDiff, Nat.reduceSub, Nat.reduceMul, Int.reduceEq, reduceIte]
     rw [app_arr rfl rfl (by simp [cId]) (by simp; omega)]
     simp only [go_sem, Nat.reduceLT, Nat.reduceAdd, Nat.reduceEqDiff, Nat.reduceLeDiff, Nat.reduceSub, Nat.reduceMul, Int.reduceEq, reduceIte, wj]
     refine ⟨rfl, ?_⟩
     refine ⟨by simp, n2 - 1, by omega, j + 1, by omega, ?_⟩
     simp [trim_mk, go_sem, Nat.reduceLT, Nat.reduceAdd, Nat.reduceEqDiff, Nat.reduceLeDiff, Nat.reduceSub, Nat.reduceMul, Int.reduceEq, reduceIte, subHeap, renObj, pos, List.range_succ, cE, allOf_take hlj, show 2 * (j + 1) = 2 * j + 1 + 1 by omega]
    ·
     have htl : (nth l k).ls.take j = (nth l k).ls := List.take_of_length_le (by omega)
     have b1 := allOf_len h hlt j (by omega)
     rw [htl] at b1
     simp only [go_sem, Nat.reduceLT, Nat.reduceAdd, Nat.reduceEqDiff, Nat.reduceLeDiff, Nat.reduceSub, Nat.reduceMul, Int.reduceEq, reduceIte, hlj, htl]
     have hso := sortIds_meets (allOf (pastsTo l k) l (nth l k).ls) (2 * j) 50 (by omega)
     refine ops_call (.heapE [3] (r' := .tup []) (H' := [.box [.list (l.map cE), .arr 1 k], .arr k false false 51 1 (ofRows (pastsTo l k)), .box (cE (nth l k)), .arr (2 * j) true false 50 2 ((sortI (allOf (pastsTo l k) l (nth l k).ls)).map cId)]) hso
      (by simp) (by simp) (by simp [go_sem, Nat.reduceLT, Nat.reduceAdd, Nat.reduceEqDiff, Nat.reduceLeDiff, Nat.reduceSub, Nat.reduceMul, Int.reduceEq, reduceIte, pos]) (by simp [subHeap, renObj, go_sem, Nat.reduceLT, Nat.reduceAdd, Nat.reduceEqDiff, Nat.reduceLeDiff, Nat.reduceSub, Nat.reduceMul, Int.reduceEq, reduceIte, pos]) rfl (by simp [merge, mergeObj, callId, renObj, pos, go_sem, Nat.reduceLT, Nat.reduceAdd, Nat.reduceEqDiff, Nat.reduceLeDiff, Nat.reduceSub, Nat.reduceMul, Int.reduceEq, reduceIte, List.range_succ, backF, backId, cE])) ?_
     simp only [go_sem, Nat.reduceLT, Nat.reduceAdd, Nat.reduceEqDiff, Nat.reduceLeDiff, Nat.reduceSub, Nat.reduceMul, Int.reduceEq, reduceIte]
     have hco := compactIds_meets (sortI (allOf (pastsTo l k) l (nth l k).ls)) (2 * j) 50 (by rw [sortI_length]; omega)
     refine ops_call1 3 hco rfl rfl rfl rfl (by simp [go_sem, Nat.reduceLT, Nat.reduceAdd, Nat.reduceEqDiff, Nat.reduceLeDiff, Nat.reduceSub, Nat.reduceMul, Int.reduceEq, reduceIte]) (by simp [go_sem, Nat.reduceLT, Nat.reduceAdd, Nat.reduceEqDiff, Nat.reduceLeDiff, Nat.reduceSub, Nat.reduceMul, Int.reduceEq, reduceIte, pos]) rfl ?_
     simp only [go_sem, Nat.reduceLT, Nat.reduceAdd, Nat.reduceEqDiff, Nat.reduceLeDiff, Nat.reduceSub, Nat.reduceMul, Int.reduceEq, reduceIte]
     rw [app_arr rfl rfl (by simp) (by simp [ofRows]; omega)]
     simp only [go_sem, Nat.reduceLT, Nat.reduceAdd, Nat.reduceEqDiff, Nat.reduceLeDiff, Nat.reduceSub, Nat.reduceMul, Int.reduceEq, reduceIte, wk]
     refine ⟨rfl, rfl, rfl, ?_⟩
     refine ⟨by simp, n - 1, by omega, k + 1, by omega, ?_⟩
     simp [trim_mk, go_sem, Nat.reduceLT, Nat.reduceAdd, Nat.reduceEqDiff, Nat.reduceLeDiff, Nat.reduceSub, Nat.reduceMul, Int.reduceEq, reduceIte, subHeap, renObj, pos, List.range_succ, cE, ofRows, pastsTo, setI]
  ·
   have hke : k = l.length := by omega
   subst hke
   simp only [go_sem, Nat.reduceLT, Nat.reduceAdd, Nat.reduceEqDiff, Nat.reduceLeDiff, Nat.reduceSub, Nat.reduceMul, Int.reduceEq, reduceIte, Nat.lt_irrefl]
   refine ret_weak (weak_rptr (cells' := [.list (l.map cE), .list (ofRows (pastsTo l l.length))]) 2 0 rfl rfl (by simp [frz]) rfl rfl) ?_
   refine ret_pure hx ?_
   simp [go_sem, Nat.reduceLT, Nat.reduceAdd, Nat.reduceEqDiff, Nat.reduceLeDiff, Nat.reduceSub, Nat.reduceMul, Int.reduceEq, reduceIte, L87, R87, pvPasts, pasts]
end Go.Proofs.YtkgobnnkcnnfhaaGreat
/- Logs, in the law text's words: counting, finding, being right; colors; ids among others: contracts. -/
namespace Go.Proofs.YtkgobnnkcnnfhaaGreat
set_option linter.unusedSimpArgs false
set_option linter.unusedVariables false
open Go.RowKit
theorem countOf_meets (l : List Entry) (h : okReg l) (hl : l.length ≤ 1000000000000000) : Meets Tryz.prog 45 [.list (l.map cE)] [] (.agg [.int .i64 (cntR l 0), .int .i64 (cntR l 1)]) [] := by
 refine Meets.of_walk Tryz.func45 Tryz.ntmps45 low45 res45 (by simp) fun x hx => ?_
 simp only [go_sem, Nat.reduceLT, Nat.reduceAdd, Nat.reduceEqDiff, Nat.reduceLeDiff, Nat.reduceSub, Nat.reduceMul, Int.reduceEq, reduceIte, L45, R45]
 refine loop_inv [0, 2, 3, 4] 2 (fun n st => ∃ k : Nat, k + n = l.length ∧
  st = ⟨mkE .top [(0, .list (l.map cE)), (2, .ptr 0 0), (3, .ptr 1 0), (4, .int .i64 k)], [.box [.int .i64 0, .int .i64 0], .box [.int .i64 (cntR (l.take k) 0), .int .i64 (cntR (l.take k) 1)]]⟩) l.length (by simp [hx]) (by simp) ?_ ?_
 ·
  refine ⟨0, by omega, ?_⟩
  simp [trim_mk, go_sem, Nat.reduceLT, Nat.reduceAdd, Nat.reduceEqDiff, Nat.reduceLeDiff, Nat.reduceSub, Nat.reduceMul, Int.reduceEq, reduceIte, subHeap, renObj, pos, List.range_succ, cntR]
 ·
  rintro n st ⟨k, hk, rfl⟩
  by_cases hlt : k < l.length
  ·
   have hg : l[k]? = some (nth l k) := nth_get? _ _ hlt
   have wk := i64_up (k := k) (by omega)
   have hle : ∀ r, cntR (l.take k) r ≤ 1000000000000000 := fun r => by have := cntR_le (l.take k) r; rw [List.length_take] at this; omega
   have w0 := i64_up (k := cntR (l.take k) 0) (by have := hle 0; omega)
   have w1 := i64_up (k := cntR (l.take k) 1) (by have := hle 1; omega)
   have c0 := cntR_take l k 0 hlt
   have c1 := cntR_take l k 1 hlt
   rcases h (nth l k) (by rw [nth_eq _ _ hlt]; exact List.getElem_mem hlt) with hr | hr
   ·
    rw [hr] at c0 c1
    simp only [go_sem, Nat.reduceLT, Nat.reduceAdd, Nat.reduceEqDiff, Nat.reduceLeDiff, Nat.reduceSub, Nat.reduceMul, Int.reduceEq, reduceIte, hlt, hg, cE, hr, w0, w1, wk, Int.reduceLE, Int.reduceLT, Int.reduceToNat, Int.cast_ofNat_Int, Int.ofNat_zero, Int.toNat_zero, Int.le_refl]
    refine ⟨by simp, n - 1, by omega, k + 1, by omega, ?_⟩
    simp [trim_mk, go_sem, Nat.reduceLT, Nat.reduceAdd, Nat.reduceEqDiff, Nat.reduceLeDiff, Nat.reduceSub, Nat.reduceMul, Int.reduceEq, reduceIte, subHeap, renObj, pos, List.range_succ, c0, c1]
   ·
    rw [hr] at c0 c1
    simp only [go_sem, Nat.reduceLT, Nat.reduceAdd, Nat.reduceEqDiff, Nat.reduceLeDiff, Nat.reduceSub, Nat.reduceMul, Int.reduceEq, reduceIte, hlt, hg, cE, hr, w0, w1, wk, Int.reduceLE, Int.reduceLT, Int.reduceToNat, Int.cast_ofNat_Int, Int.ofNat_zero, Int.toNat_zero, Int.le_refl]
    refine ⟨by simp, n - 1, by omega, k + 1, by omega, ?_⟩
    simp [trim_mk, go_sem, Nat.reduceLT, Nat.reduceAdd, Nat.reduceEqDiff, Nat.reduceLeDiff, Nat.reduceSub, Nat.reduceMul, Int.reduceEq, reduceIte, subHeap, renObj, pos, List.range_succ, c0, c1]
  ·
   have : l.take k = l := List.take_of_length_le (by omega)
   simp only [go_sem, Nat.reduceLT, Nat.reduceAdd, Nat.reduceEqDiff, Nat.reduceLeDiff, Nat.reduceSub, Nat.reduceMul, Int.reduceEq, reduceIte, hlt]
   refine ret_pure hx ?_
   simp [go_sem, Nat.reduceLT, Nat.reduceAdd, Nat.reduceEqDiff, Nat.reduceLeDiff, Nat.reduceSub, Nat.reduceMul, Int.reduceEq, reduceIte, L45, R45, this]
theorem entryAt_meets (l : List Entry) (y : Id) (hl : l.length ≤ 9223372036854775806) : Meets Tryz.prog 41 [.list (l.map cE), .agg (cId y)] [] (.int .i64 (findE l y)) [] := by
 refine Meets.of_walk Tryz.func41 Tryz.ntmps41 low41 res41 (by simp) fun x hx => ?_
 simp only [go_sem, Nat.reduceLT, Nat.reduceAdd, Nat.reduceEqDiff, Nat.reduceLeDiff, Nat.reduceSub, Nat.reduceMul, Int.reduceEq, reduceIte, L41, R41, cId]
 refine loop_inv [0, 3, 5] 1 (fun n st => ∃ k : Nat, k + n = l.length ∧ idxF (fun e => decide (e.id = y)) (l.drop k) k = findE l y ∧
  st = ⟨mkE .top [(0, .list (l.map cE)), (3, .ptr 0 0), (5, .int .i64 k)], [.box (cId y)]⟩) l.length (by simp [hx]) (by simp) ?_ ?_
 ·
  refine ⟨0, by omega, by simp [findE], ?_⟩
  simp [trim_mk, go_sem, Nat.reduceLT, Nat.reduceAdd, Nat.reduceEqDiff, Nat.reduceLeDiff, Nat.reduceSub, Nat.reduceMul, Int.reduceEq, reduceIte, subHeap, renObj, pos, List.range_succ, cId]
 ·
  rintro n st ⟨k, hk, hi, rfl⟩
  by_cases hlt : k < l.length
  ·
   have hg : l[k]? = some (nth l k) := nth_get? _ _ hlt
   have wk := i64_up (k := k) (by omega)
   rw [idxF_drop _ l k hlt] at hi
   by_cases he : (nth l k).id = y
   ·
    simp only [go_sem, Nat.reduceLT, Nat.reduceAdd, Nat.reduceEqDiff, Nat.reduceLeDiff, Nat.reduceSub, Nat.reduceMul, Int.reduceEq, reduceIte, hlt, hg, cE, cId, beqId, he]
    refine ret_pure hx ?_
    simp [he] at hi
    simp [go_sem, Nat.reduceLT, Nat.reduceAdd, Nat.reduceEqDiff, Nat.reduceLeDiff, Nat.reduceSub, Nat.reduceMul, Int.reduceEq, reduceIte, L41, R41, hi]
   ·
    simp only [go_sem, Nat.reduceLT, Nat.reduceAdd, Nat.reduceEqDiff, Nat.reduceLeDiff, Nat.reduceSub, Nat.reduceMul, Int.reduceEq, reduceIte, hlt, hg, cE, cId, beqId, he, wk]
    refine ⟨by simp, n - 1, by omega, k + 1, by omega, by simpa [he] using hi, ?_⟩
    simp [trim_mk, go_sem, Nat.reduceLT, Nat.reduceAdd, Nat.reduceEqDiff, Nat.reduceLeDiff, Nat.reduceSub, Nat.reduceMul, Int.reduceEq, reduceIte, subHeap, renObj, pos, List.range_succ, cId]
  ·
   have : l.drop k = [] := List.drop_eq_nil_of_le (by omega)
   rw [this] at hi
   simp only [go_sem, Nat.reduceLT, Nat.reduceAdd, Nat.reduceEqDiff, Nat.reduceLeDiff, Nat.reduceSub, Nat.reduceMul, Int.reduceEq, reduceIte, hlt]
   refine ret_pure hx ?_
   simp [go_sem, Nat.reduceLT, Nat.reduceAdd, Nat.reduceEqDiff, Nat.reduceLeDiff, Nat.reduceSub, Nat.reduceMul, Int.reduceEq, reduceIte, L41, R41, ← hi, idxF]
theorem checkLog_meets (l : List Entry) (hm : l.length ≤ 9223372036854775806) : Meets Tryz.prog 39 [.list (l.map cE)] [] (.int .i64 (checkLog l)) [] := by
 refine Meets.of_walk Tryz.func39 Tryz.ntmps39 low39 res39 (by simp) fun x hx => ?_
 by_cases h40 : 40 < l.length
 ·
  have d40 : decide ((40 : Int) < (l.length : Nat)) = true := by simp; omega
  simp only [go_sem, Nat.reduceLT, Nat.reduceAdd, Nat.reduceEqDiff, Nat.reduceLeDiff, Nat.reduceSub, Nat.reduceMul, Int.reduceEq, reduceIte, L39, R39, d40]
  refine ret_pure hx ?_
  simp [go_sem, Nat.reduceLT, Nat.reduceAdd, Nat.reduceEqDiff, Nat.reduceLeDiff, Nat.reduceSub, Nat.reduceMul, Int.reduceEq, reduceIte, L39, R39, checkLog, h40]
 have d40 : decide ((40 : Int) < (l.length : Nat)) = false := by simp; omega
 have hcl : checkLog l = firstNZ (logErr l) l.length := by simp [checkLog, h40]
 simp only [go_sem, Nat.reduceLT, Nat.reduceAdd, Nat.reduceEqDiff, Nat.reduceLeDiff, Nat.reduceSub, Nat.reduceMul, Int.reduceEq, reduceIte, L39, R39, d40, hcl]
 refine loop_inv [0, 3] 0 (fun n st => ∃ k : Nat, k + n = l.length ∧ firstNZ (logErr l) k = 0 ∧
  st = ⟨mkE .top [(0, .list (l.map cE)), (3, .int .i64 k)], []⟩) l.length (by simp [hx]) (by simp) ?_ ?_
 ·
  refine ⟨0, by omega, rfl, ?_⟩
  simp [trim_mk, go_sem, Nat.reduceLT, Nat.reduceAdd, Nat.reduceEqDiff, Nat.reduceLeDiff, Nat.reduceSub, Nat.reduceMul, Int.reduceEq, reduceIte, subHeap, renObj, pos]
 ·
  rintro n st ⟨k, hk, hz, rfl⟩
  by_cases hlt : k < l.length
  ·
   have hg : l[k]? = some (nth l k) := nth_get? _ _ hlt
   have wk := i64_up (k := k) (by omega)
   have hle : k ≤ l.length := by omega
   have hrow : (∀ row ∈ List.map cE l, row.length = 5) = True := eq_true (cE_row l)
   have htk : List.take k (List.map cE l) = List.map cE (List.take k l) := List.map_take.symm
   have hlk : (l.take k).length ≤ 40 := by rw [List.length_take]; omega
   have hreg := okReg_take hz hle
   have fin : ∀ r : Int, logErr l k = r → r ≠ 0 → firstNZ (logErr l) l.length = r := fun r h1 h2 => by rw [firstNZ_hit hz (by rw [h1]; exact h2) hlt, h1]
   simp only [go_sem, Nat.reduceLT, Nat.reduceAdd, Nat.reduceEqDiff, Nat.reduceLeDiff, Nat.reduceSub, Nat.reduceMul, Int.reduceEq, reduceIte, hlt, hg, cE]
   refine ops_call (.pureE (checkEntry_meets (nth l k)) (by simp [go_sem, Nat.reduceLT, Nat.reduceAdd, Nat.reduceEqDiff, Nat.reduceLeDiff, Nat.reduceSub, Nat.reduceMul, Int.reduceEq, reduceIte, cE])) ?_
   by_cases h1 : checkEntry (nth l k) = 0
   ·
    have hr := reg_of_check h1
    have hls := (check_ok_bounds h1).2.2.2.1
    simp only [go_sem, Nat.reduceLT, Nat.reduceAdd, Nat.reduceEqDiff, Nat.reduceLeDiff, Nat.reduceSub, Nat.reduceMul, Int.reduceEq, reduceIte, h1, hlt, hg, hle, hrow, htk, Int.le_refl, Int.sub_zero, Int.toNat_zero, Int.natCast_nonneg, cE]
    refine ops_call (.pureE (entryAt_meets (l.take k) (nth l k).id (by omega)) (by simp [go_sem, Nat.reduceLT, Nat.reduceAdd, Nat.reduceEqDiff, Nat.reduceLeDiff, Nat.reduceSub, Nat.reduceMul, Int.reduceEq, reduceIte, cId])) ?_
    by_cases h2 : 0 ≤ findE (l.take k) (nth l k).id
    ·
     simp only [go_sem, Nat.reduceLT, Nat.reduceAdd, Nat.reduceEqDiff, Nat.reduceLeDiff, Nat.reduceSub, Nat.reduceMul, Int.reduceEq, reduceIte, h2]
     refine ret_pure hx ?_
     have : logErr l k = 6 := by simp [logErr, h1, h2]
     simp [go_sem, Nat.reduceLT, Nat.reduceAdd, Nat.reduceEqDiff, Nat.reduceLeDiff, Nat.reduceSub, Nat.reduceMul, Int.reduceEq, reduceIte, L39, R39, fin _ this (by decide)]
    simp only [go_sem, Nat.reduceLT, Nat.reduceAdd, Nat.reduceEqDiff, Nat.reduceLeDiff, Nat.reduceSub, Nat.reduceMul, Int.reduceEq, reduceIte, h2, hlt, hg, hle, hrow, htk, Int.le_refl, Int.sub_zero, Int.toNat_zero, Int.natCast_nonneg, cE]
    refine ops_call (.pureE (countOf_meets (l.take k) hreg (by omega)) (by simp [go_sem, Nat.reduceLT, Nat.reduceAdd, Nat.reduceEqDiff, Nat.reduceLeDiff, Nat.reduceSub, Nat.reduceMul, Int.reduceEq, reduceIte])) ?_
    have hw : ∀ r, IntKind.i64.wrap ((cntR (l.take k) r : Int) + 1) = (cntR (l.take k) r : Int) + 1 := fun r => by have := cntR_le (l.take k) r; rw [IntWalk.i64_in _ (by omega)]
    by_cases h3 : (cntR (l.take k) (nth l k).id.r : Int) + 1 = (nth l k).id.n
    ·
     have h3e : logErr l k = if readyB (l.take k) (nth l k) = false then 5 else 0 := by simp [logErr, h1, h2, h3]
     have hrb : readyB (l.take k) (nth l k) = !((nth l k).ls.any fun x => decide (findE (l.take k) x < 0)) := by simp [readyB, h3]
     have looped : ∀ j, (nth l k).ls.any (fun x => decide (findE (l.take k) x < 0)) = false ∨ j ≤ (nth l k).ls.length → True := fun _ _ => trivial
     rcases hr with hr | hr
     all_goals
      have h3' := h3
      rw [hr] at h3'
      have dc := decide_eq_true h3'
      simp only [go_sem, Nat.reduceLT, Nat.reduceAdd, Nat.reduceEqDiff, Nat.reduceLeDiff, Nat.reduceSub, Nat.reduceMul, Int.reduceEq, reduceIte, hr, hw, dc, hlt, hg, hle, hrow, htk, Int.sub_zero, Int.natCast_nonneg, cE, Int.reduceLE, Int.reduceLT, Int.reduceToNat, Int.cast_ofNat_Int, Int.ofNat_zero, Int.toNat_zero, Int.le_refl]
      refine loop_inv [0, 3, 5] 0 (fun n st => ∃ j : Nat, j + n = (nth l k).ls.length ∧ ((nth l k).ls.take j).any (fun x => decide (findE (l.take k) x < 0)) = false ∧
       st = ⟨mkE .top [(0, .list (l.map cE)), (3, .int .i64 k), (5, .int .i64 j)], []⟩) (nth l k).ls.length (by simp [hx]) (by simp) ?_ ?_
      ·
       refine ⟨0, by omega, by simp, ?_⟩
       simp [trim_mk, go_sem, Nat.reduceLT, Nat.reduceAdd, Nat.reduceEqDiff, Nat.reduceLeDiff, Nat.reduceSub, Nat.reduceMul, Int.reduceEq, reduceIte, subHeap, renObj, pos]
      ·
       rintro n2 st ⟨j, hj, ha, rfl⟩
       by_cases hlj : j < (nth l k).ls.length
       ·
        have hgj : (nth l k).ls[j]? = some (nth (nth l k).ls j) := nth_get? _ _ hlj
        have wj := i64_up (k := j) (by omega)
        simp only [go_sem, Nat.reduceLT, Nat.reduceAdd, Nat.reduceEqDiff, Nat.reduceLeDiff, Nat.reduceSub, Nat.reduceMul, Int.reduceEq, reduceIte, hlt, hg, hlj, hgj, hle, hrow, htk, Int.sub_zero, Int.natCast_nonneg, Int.toNat_zero, Int.le_refl, cE, cId]
        refine ops_call (.pureE (entryAt_meets (l.take k) (nth (nth l k).ls j) (by omega)) (by simp [go_sem, Nat.reduceLT, Nat.reduceAdd, Nat.reduceEqDiff, Nat.reduceLeDiff, Nat.reduceSub, Nat.reduceMul, Int.reduceEq, reduceIte, cId])) ?_
        have hsucc : ((nth l k).ls.take (j + 1)).any (fun x => decide (findE (l.take k) x < 0)) = decide (findE (l.take k) (nth (nth l k).ls j) < 0) := by
         rw [List.take_succ_eq_append_getElem hlj, List.any_append, ha, nth_eq _ _ hlj]; simp
        by_cases h5 : findE (l.take k) (nth (nth l k).ls j) < 0
        ·
         simp only [go_sem, Nat.reduceLT, Nat.reduceAdd, Nat.reduceEqDiff, Nat.reduceLeDiff, Nat.reduceSub, Nat.reduceMul, Int.reduceEq, reduceIte, h5]
         refine ret_pure hx ?_
         have hall : (nth l k).ls.any (fun x => decide (findE (l.take k) x < 0)) = true := by
          rw [List.any_eq_true]
          exact ⟨nth (nth l k).ls j, by rw [nth_eq _ _ hlj]; exact List.getElem_mem hlj, by simp [h5]⟩
         have : logErr l k = 5 := by rw [h3e, hrb, hall]; rfl
         simp [go_sem, Nat.reduceLT, Nat.reduceAdd, Nat.reduceEqDiff, Nat.reduceLeDiff, Nat.reduceSub, Nat.reduceMul, Int.reduceEq, reduceIte, L39, R39, fin _ this (by decide)]
        ·
         simp only [go_sem, Nat.reduceLT, Nat.reduceAdd, Nat.reduceEqDiff, Nat.reduceLeDiff, Nat.reduceSub, Nat.reduceMul, Int.reduceEq, reduceIte, h5, wj]
         refine ⟨by simp, n2 - 1, by omega, j + 1, by omega, by rw [hsucc]; simp [h5], ?_⟩
         simp [trim_mk, go_sem, Nat.reduceLT, Nat.reduceAdd, Nat.reduceEqDiff, Nat.reduceLeDiff, Nat.reduceSub, Nat.reduceMul, Int.reduceEq, reduceIte, subHeap, renObj, pos]
       ·
        have htl : (nth l k).ls.take j = (nth l k).ls := List.take_of_length_le (by omega)
        rw [htl] at ha
        simp only [go_sem, Nat.reduceLT, Nat.reduceAdd, Nat.reduceEqDiff, Nat.reduceLeDiff, Nat.reduceSub, Nat.reduceMul, Int.reduceEq, reduceIte, hlt, hg, hlj, cE, wk]
        refine ⟨by simp, n - 1, by omega, k + 1, by omega, firstNZ_succ hz (by rw [h3e, hrb, ha]; rfl), ?_⟩
        simp [trim_mk, go_sem, Nat.reduceLT, Nat.reduceAdd, Nat.reduceEqDiff, Nat.reduceLeDiff, Nat.reduceSub, Nat.reduceMul, Int.reduceEq, reduceIte, subHeap, renObj, pos]
    ·
     rcases hr with hr | hr
     all_goals
      have h3' := h3
      rw [hr] at h3'
      have dc := decide_eq_false h3'
      simp only [go_sem, Nat.reduceLT, Nat.reduceAdd, Nat.reduceEqDiff, Nat.reduceLeDiff, Nat.reduceSub, Nat.reduceMul, Int.reduceEq, reduceIte, hr, hw, dc, hlt, hg, cE, Int.reduceLE, Int.reduceLT, Int.reduceToNat, Int.cast_ofNat_Int, Int.ofNat_zero, Int.toNat_zero, Int.le_refl]
      refine ret_pure hx ?_
      have : logErr l k = 4 := by simp [logErr, h1, h2, h3]
      simp [go_sem, Nat.reduceLT, Nat.reduceAdd, Nat.reduceEqDiff, Nat.reduceLeDiff, Nat.reduceSub, Nat.reduceMul, Int.reduceEq, reduceIte, L39, R39, fin _ this (by decide)]
   ·
    simp only [go_sem, Nat.reduceLT, Nat.reduceAdd, Nat.reduceEqDiff, Nat.reduceLeDiff, Nat.reduceSub, Nat.reduceMul, Int.reduceEq, reduceIte, h1]
    refine ret_pure hx ?_
    have : logErr l k = checkEntry (nth l k) := by simp [logErr, h1]
    simp [go_sem, Nat.reduceLT, Nat.reduceAdd, Nat.reduceEqDiff, Nat.reduceLeDiff, Nat.reduceSub, Nat.reduceMul, Int.reduceEq, reduceIte, L39, R39, fin _ this h1]
  ·
   have hke : k = l.length := by omega
   subst hke
   simp only [go_sem, Nat.reduceLT, Nat.reduceAdd, Nat.reduceEqDiff, Nat.reduceLeDiff, Nat.reduceSub, Nat.reduceMul, Int.reduceEq, reduceIte, Nat.lt_irrefl, hz]
   refine ret_pure hx ?_
   simp [go_sem, Nat.reduceLT, Nat.reduceAdd, Nat.reduceEqDiff, Nat.reduceLeDiff, Nat.reduceSub, Nat.reduceMul, Int.reduceEq, reduceIte, L39, R39, hz]
end Go.Proofs.YtkgobnnkcnnfhaaGreat
/- Pasts, heads, counts: contracts. -/
namespace Go.Proofs.YtkgobnnkcnnfhaaGreat
set_option linter.unusedSimpArgs false
set_option linter.unusedVariables false
open Go.RowKit
def hasI (l : List Id) (y : Id) : Bool := l.any fun x => decide (y = x)
theorem hasI_iff {l : List Id} {y : Id} : hasI l y = true ↔ y ∈ l := by simp [hasI]
theorem indexI2_meets (l : List Id) (y : Id) (hl : l.length ≤ 9223372036854775806) : Meets Tryz.prog 99 [.list (l.map cId), .agg (cId y)] [] (.int .i64 (idxF (fun x => decide (y = x)) l 0)) [] := by
 refine Meets.of_walk Tryz.func99 Tryz.ntmps99 low99 res99 (by simp) fun x hx => ?_
 simp only [go_sem, Nat.reduceLT, Nat.reduceAdd, Nat.reduceEqDiff, Nat.reduceLeDiff, Nat.reduceSub, Nat.reduceMul, Int.reduceEq, reduceIte, L99, R99, cId]
 refine loop_inv [0, 3, 7, 8] 1 (fun n st => ∃ k : Nat, k + n = l.length ∧ idxF (fun x => decide (y = x)) (l.drop k) k = idxF (fun x => decide (y = x)) l 0 ∧
  st = ⟨mkE .top [(0, .list (l.map cId)), (3, .ptr 0 0), (7, .int .i64 l.length), (8, .int .i64 k)], [.box (cId y)]⟩) l.length (by simp [hx]) (by simp) ?_ ?_
 ·
  refine ⟨0, by omega, by simp, ?_⟩
  simp [trim_mk, go_sem, Nat.reduceLT, Nat.reduceAdd, Nat.reduceEqDiff, Nat.reduceLeDiff, Nat.reduceSub, Nat.reduceMul, Int.reduceEq, reduceIte, subHeap, renObj, pos, List.range_succ, cId]
 ·
  rintro n st ⟨k, hk, hi, rfl⟩
  by_cases hlt : k < l.length
  ·
   have hg : l[k]? = some (nth l k) := nth_get? _ _ hlt
   have wk := i64_up (k := k) (by omega)
   rw [idxF_drop _ l k hlt] at hi
   by_cases he : y = nth l k
   ·
    simp only [go_sem, Nat.reduceLT, Nat.reduceAdd, Nat.reduceEqDiff, Nat.reduceLeDiff, Nat.reduceSub, Nat.reduceMul, Int.reduceEq, reduceIte, hlt, hg, cId, beqId, he]
    refine ret_pure hx ?_
    simp [he] at hi
    simp [go_sem, Nat.reduceLT, Nat.reduceAdd, Nat.reduceEqDiff, Nat.reduceLeDiff, Nat.reduceSub, Nat.reduceMul, Int.reduceEq, reduceIte, L99, R99, hi, he]
   ·
    simp only [go_sem, Nat.reduceLT, Nat.reduceAdd, Nat.reduceEqDiff, Nat.reduceLeDiff, Nat.reduceSub, Nat.reduceMul, Int.reduceEq, reduceIte, hlt, hg, cId, beqId, he, wk]
    refine ⟨by simp, n - 1, by omega, k + 1, by omega, by simpa [he] using hi, ?_⟩
    simp [trim_mk, go_sem, Nat.reduceLT, Nat.reduceAdd, Nat.reduceEqDiff, Nat.reduceLeDiff, Nat.reduceSub, Nat.reduceMul, Int.reduceEq, reduceIte, subHeap, renObj, pos, List.range_succ, cId]
  ·
   have : l.drop k = [] := List.drop_eq_nil_of_le (by omega)
   rw [this] at hi
   simp only [go_sem, Nat.reduceLT, Nat.reduceAdd, Nat.reduceEqDiff, Nat.reduceLeDiff, Nat.reduceSub, Nat.reduceMul, Int.reduceEq, reduceIte, hlt]
   refine ret_pure hx ?_
   simp [go_sem, Nat.reduceLT, Nat.reduceAdd, Nat.reduceEqDiff, Nat.reduceLeDiff, Nat.reduceSub, Nat.reduceMul, Int.reduceEq, reduceIte, L99, R99, ← hi, idxF]
theorem containsI_meets (l : List Id) (y : Id) (hl : l.length ≤ 9223372036854775806) : Meets Tryz.prog 95 [.list (l.map cId), .agg (cId y)] [] (.bool (hasI l y)) [] := by
 refine Meets.of_walk Tryz.func95 Tryz.ntmps95 low95 res95 (by simp) fun x hx => ?_
 simp only [go_sem, Nat.reduceLT, Nat.reduceAdd, Nat.reduceEqDiff, Nat.reduceLeDiff, Nat.reduceSub, Nat.reduceMul, Int.reduceEq, reduceIte, L95, R95, cId]
 refine ops_call (.pureE (indexI2_meets l y hl) (by simp [go_sem, Nat.reduceLT, Nat.reduceAdd, Nat.reduceEqDiff, Nat.reduceLeDiff, Nat.reduceSub, Nat.reduceMul, Int.reduceEq, reduceIte, cId])) ?_
 simp only [go_sem, Nat.reduceLT, Nat.reduceAdd, Nat.reduceEqDiff, Nat.reduceLeDiff, Nat.reduceSub, Nat.reduceMul, Int.reduceEq, reduceIte]
 refine ret_pure hx ?_
 simp [go_sem, Nat.reduceLT, Nat.reduceAdd, Nat.reduceEqDiff, Nat.reduceLeDiff, Nat.reduceSub, Nat.reduceMul, Int.reduceEq, reduceIte, L95, R95, hasI, idxF_any]
theorem ahead_meets (l : List Entry) (ps : List (List Id)) (y z : Id) (hl : l.length ≤ 9223372036854775806) (h0 : 0 ≤ findE l z) (h1 : findE l z < ps.length) (h2 : (pastAt ps l z).length ≤ 9223372036854775806) :
    Meets Tryz.prog 90 [pvPasts l ps, .agg (cId y), .agg (cId z)] [] (.bool (hasI (pastAt ps l z) y)) [] := by
  refine Meets.of_walk Tryz.func90 Tryz.ntmps90 low90 res90 (by simp) fun x hx => ?_
  simp only [go_sem, Nat.reduceLT, Nat.reduceAdd, Nat.reduceEqDiff, Nat.reduceLeDiff, Nat.reduceSub, Nat.reduceMul, Int.reduceEq, reduceIte, L90, R90, cId, pvPasts]
  refine ops_call (.pureE (of_meets l ps z hl h0 h1) (by simp [go_sem, Nat.reduceLT, Nat.reduceAdd, Nat.reduceEqDiff, Nat.reduceLeDiff, Nat.reduceSub, Nat.reduceMul, Int.reduceEq, reduceIte, cId, pvPasts])) ?_
  simp only [go_sem, Nat.reduceLT, Nat.reduceAdd, Nat.reduceEqDiff, Nat.reduceLeDiff, Nat.reduceSub, Nat.reduceMul, Int.reduceEq, reduceIte]
  refine ops_call (.pureE (containsI_meets (pastAt ps l z) y h2) (by simp [go_sem, Nat.reduceLT, Nat.reduceAdd, Nat.reduceEqDiff, Nat.reduceLeDiff, Nat.reduceSub, Nat.reduceMul, Int.reduceEq, reduceIte, cId])) ?_
  simp only [go_sem, Nat.reduceLT, Nat.reduceAdd, Nat.reduceEqDiff, Nat.reduceLeDiff, Nat.reduceSub, Nat.reduceMul, Int.reduceEq, reduceIte]
  refine ret_pure hx ?_
  simp [go_sem, Nat.reduceLT, Nat.reduceAdd, Nat.reduceEqDiff, Nat.reduceLeDiff, Nat.reduceSub, Nat.reduceMul, Int.reduceEq, reduceIte, L90, R90]
def bitB (c : Int) (i : Nat) : Bool := decide (c / 2 ^ i % 2 = 1)
def meetB (a b : Int) : Bool := (bitB a 0 && bitB b 0) || (bitB a 1 && bitB b 1) || (bitB a 2 && bitB b 2)
theorem and_meet0 {a b : Int} (ha : wthn a 1 7 = true) (hb : wthn b 1 7 = true) : (!decide (IntKind.i64.wrap ((BitVec.ofInt IntKind.i64.bits a &&& BitVec.ofInt IntKind.i64.bits b).toNat : Int) = 0)) = meetB a b := by
 have key : ∀ a b : Fin 8, (!decide (IntKind.i64.wrap ((BitVec.ofInt IntKind.i64.bits (a.val : Int) &&& BitVec.ofInt IntKind.i64.bits (b.val : Int)).toNat : Int) = 0)) = meetB (a.val : Int) (b.val : Int) := by decide +kernel
 rw [wthn_iff] at ha hb
 have := key ⟨a.toNat, by omega⟩ ⟨b.toNat, by omega⟩
 simp only [Int.toNat_of_nonneg (show 0 ≤ a by omega), Int.toNat_of_nonneg (show 0 ≤ b by omega)] at this
 exact this
theorem and_meet {a b : Int} (ha : wthn a 1 7 = true) (hb : wthn b 1 7 = true) : (!decide (IntKind.i64.wrap ((@HAnd.hAnd (BitVec 64) (BitVec 64) (BitVec 64) (@instHAndOfAndOp (BitVec IntKind.i64.bits) _) (BitVec.ofInt 64 a) (BitVec.ofInt 64 b)).toNat : Int) = 0)) = meetB a b := and_meet0 ha hb
def withC (l : List Entry) (c : Int) : List Entry := l.filter fun e => meetB e.c c
theorem withC_take {l : List Entry} {c : Int} {k : Nat} (h : k < l.length) : withC (l.take (k + 1)) c = withC (l.take k) c ++ if meetB (nth l k).c c then [nth l k] else [] := by
 unfold withC
 rw [List.take_succ_eq_append_getElem h, List.filter_append, nth_eq _ _ h]
 simp only [List.filter_cons, List.filter_nil]
theorem withC_len (l : List Entry) (c : Int) : (withC l c).length ≤ l.length := List.length_filter_le _ _
theorem LogOk.col {l : List Entry} (h : LogOk l) {k : Nat} (hk : k < l.length) : wthn (nth l k).c 1 7 = true := (check_ok_bounds (h.chk k hk)).2.1
theorem with_meets (l : List Entry) (c : Int) (h : LogOk l) (hc : wthn c 1 7 = true) : Meets Tryz.prog 88 [.list (l.map cE), .int .i64 c] [] (.list ((withC l c).map cE)) [] := by
 have hm := h.len
 refine Meets.of_walk Tryz.func88 Tryz.ntmps88 low88 res88 (by simp) fun x hx => ?_
 simp only [go_sem, Nat.reduceLT, Nat.reduceAdd, Nat.reduceEqDiff, Nat.reduceLeDiff, Nat.reduceSub, Nat.reduceMul, Int.reduceEq, reduceIte, L88, R88]
 refine W_weak (weak_own 5 0 53 5 false false rfl (by omega)) ?_
 refine loop_inv [1, 5, 8, 9, 10] 1 (fun n st => ∃ k v : Nat, k + n = l.length ∧
  st = ⟨mkE .top [(1, .int .i64 c), (5, .arr 0 v), (8, .list (l.map cE)), (9, .int .i64 l.length), (10, .int .i64 k)], [.arr v false false 53 5 ((withC (l.take k) c).map cE)]⟩) l.length (by simp [hx]) (by simp [St.put]) ?_ ?_
 ·
  refine ⟨0, 0, by omega, ?_⟩
  simp [trim_mk, go_sem, Nat.reduceLT, Nat.reduceAdd, Nat.reduceEqDiff, Nat.reduceLeDiff, Nat.reduceSub, Nat.reduceMul, Int.reduceEq, reduceIte, subHeap, renObj, pos, List.range_succ, withC]
 ·
  rintro n st ⟨k, v, hk, rfl⟩
  by_cases hlt : k < l.length
  ·
   have hg : l[k]? = some (nth l k) := nth_get? _ _ hlt
   have wk := i64_up (k := k) (by omega)
   have hw := withC_take (c := c) hlt
   have hle := withC_len (l.take k) c
   rw [List.length_take] at hle
   have ha := and_meet (h.col hlt) hc
   cases hb : meetB (nth l k).c c
   ·
    rw [hb] at ha hw
    simp only [go_sem, Nat.reduceLT, Nat.reduceAdd, Nat.reduceEqDiff, Nat.reduceLeDiff, Nat.reduceSub, Nat.reduceMul, Int.reduceEq, reduceIte, hlt, hg, cE, ha, wk]
    refine ⟨by simp, n - 1, by omega, k + 1, v, by omega, ?_⟩
    simp [trim_mk, go_sem, Nat.reduceLT, Nat.reduceAdd, Nat.reduceEqDiff, Nat.reduceLeDiff, Nat.reduceSub, Nat.reduceMul, Int.reduceEq, reduceIte, subHeap, renObj, pos, List.range_succ, hw]
   ·
    rw [hb] at ha hw
    simp only [go_sem, Nat.reduceLT, Nat.reduceAdd, Nat.reduceEqDiff, Nat.reduceLeDiff, Nat.reduceSub, Nat.reduceMul, Int.reduceEq, reduceIte, hlt, hg, cE, ha, wk]
    rw [app_arr rfl rfl (by simp) (by simp; omega)]
    simp only [go_sem, Nat.reduceLT, Nat.reduceAdd, Nat.reduceEqDiff, Nat.reduceLeDiff, Nat.reduceSub, Nat.reduceMul, Int.reduceEq, reduceIte, wk]
    refine ⟨by simp, n - 1, by omega, k + 1, v + 1, by omega, ?_⟩
    simp [trim_mk, go_sem, Nat.reduceLT, Nat.reduceAdd, Nat.reduceEqDiff, Nat.reduceLeDiff, Nat.reduceSub, Nat.reduceMul, Int.reduceEq, reduceIte, subHeap, renObj, pos, List.range_succ, hw, cE]
  ·
   have : l.take k = l := List.take_of_length_le (by omega)
   simp only [go_sem, Nat.reduceLT, Nat.reduceAdd, Nat.reduceEqDiff, Nat.reduceLeDiff, Nat.reduceSub, Nat.reduceMul, Int.reduceEq, reduceIte, hlt, this]
   refine ret_pure hx ?_
   simp [go_sem, Nat.reduceLT, Nat.reduceAdd, Nat.reduceEqDiff, Nat.reduceLeDiff, Nat.reduceSub, Nat.reduceMul, Int.reduceEq, reduceIte, L88, R88, frzAt, pos]
theorem closed2 (c d : List PV) (h : c.map (renCell false (pos [0, 1]) (frzAt false [.box c, .box d])) = c) (h2 : c.map (renCell false (pos [0, 1]) (frzAt true [.box c, .box d])) = c) (h3 : c.map (renCell false (backF 2 [0, 1]) noFz) = c)
    (g : d.map (renCell false (pos [0, 1]) (frzAt false [.box c, .box d])) = d) (g2 : d.map (renCell false (pos [0, 1]) (frzAt true [.box c, .box d])) = d) (g3 : d.map (renCell false (backF 2 [0, 1]) noFz) = d) :
    ClosedH [.box c, .box d] [.ptr 0 0, .ptr 1 0] := by
  refine ⟨?_, ?_, ?_, ?_, ?_⟩
  · simp [renLeaf, pos, List.range_succ]
  · simp [ren, renCell, renLeaf, pos, List.range_succ]
  · simp only [List.length_cons, List.length_nil, List.range_succ, List.range_zero, List.nil_append, List.cons_append, subHeap, List.map_cons, List.map_nil, List.getElem?_cons_zero, List.getElem?_cons_succ, Option.getD_some, renObj, h, g]
  · simp only [List.length_cons, List.length_nil, List.range_succ, List.range_zero, List.nil_append, List.cons_append, merge, List.map_cons, List.map_nil, mergeObj, callId, Nat.zero_add, Nat.sub_self, Nat.add_zero]
    simp [pos, renObj, h3, g3]
  · simp only [List.length_cons, List.length_nil, List.range_succ, List.range_zero, List.nil_append, List.cons_append, subHeap, List.map_cons, List.map_nil, List.getElem?_cons_zero, List.getElem?_cons_succ, Option.getD_some, renObj, h2, g2]
theorem closedT (l : List Entry) (ps : List (List Id)) (e : Entry) : ClosedH [.box [pvPasts l ps], .box (cE e)] [.ptr 0 0, .ptr 1 0] := by
 refine closed2 _ _ ?_ ?_ ?_ ?_ ?_ ?_ <;> simp [pvPasts, cE, renCell, renLeaf]
theorem top1_meets (l : List Entry) (ps : List (List Id)) (e f : Entry) (hl : l.length ≤ 9223372036854775806) (h0 : 0 ≤ findE l f.id) (h1 : findE l f.id < ps.length) (h2 : (pastAt ps l f.id).length ≤ 9223372036854775806) :
    Meets Tryz.prog 89 [.agg (cE f), .ptr 0 0, .ptr 1 0] [.box [pvPasts l ps], .box (cE e)] (.bool (hasI (pastAt ps l f.id) e.id)) [.box [pvPasts l ps], .box (cE e)] := by
  refine Meets.of_walk Tryz.func89 Tryz.ntmps89 low89 res89 (by simp) fun x hx => ?_
  simp only [go_sem, Nat.reduceLT, Nat.reduceAdd, Nat.reduceEqDiff, Nat.reduceLeDiff, Nat.reduceSub, Nat.reduceMul, Int.reduceEq, reduceIte, L89, R89, cE]
  refine ops_call (.pureE (ahead_meets l ps e.id f.id hl h0 h1 h2) (by simp [go_sem, Nat.reduceLT, Nat.reduceAdd, Nat.reduceEqDiff, Nat.reduceLeDiff, Nat.reduceSub, Nat.reduceMul, Int.reduceEq, reduceIte, cId, pvPasts])) ?_
  simp only [go_sem, Nat.reduceLT, Nat.reduceAdd, Nat.reduceEqDiff, Nat.reduceLeDiff, Nat.reduceSub, Nat.reduceMul, Int.reduceEq, reduceIte]
  refine ret_keep [] (by simp) (by simp) (by simp [hx]) ?_ ?_
  · simp [go_sem, Nat.reduceLT, Nat.reduceAdd, Nat.reduceEqDiff, Nat.reduceLeDiff, Nat.reduceSub, Nat.reduceMul, Int.reduceEq, reduceIte, L89, R89, hx]
  · simp [subHeap, renObj, hx, go_sem, Nat.reduceLT, Nat.reduceAdd, Nat.reduceEqDiff, Nat.reduceLeDiff, Nat.reduceSub, Nat.reduceMul, Int.reduceEq, reduceIte, pos, List.range_succ, cE, pvPasts]
def underB (l : List Entry) (c : Int) (e : Entry) : Bool := (withC l c).any fun f => hasI (pastAt (pasts l) l f.id) e.id
def headsC (l : List Entry) (c : Int) : List Id := ((withC l c).filter fun e => !underB l c e).map (·.id)
theorem headsC_take {l : List Entry} {c : Int} {s : List Entry} {k : Nat} (h : k < s.length) : ((s.take (k + 1)).filter fun e => !underB l c e).map (·.id) = ((s.take k).filter fun e => !underB l c e).map (·.id) ++ if underB l c (nth s k) then [] else [(nth s k).id] := by
 rw [List.take_succ_eq_append_getElem h, List.filter_append, nth_eq _ _ h, List.map_append]
 simp only [List.filter_cons, List.filter_nil]
 cases underB l c s[k] <;> rfl
theorem withC_mem {l : List Entry} {c : Int} {e : Entry} (h : e ∈ withC l c) : ∃ k, k < l.length ∧ nth l k = e := by
 obtain ⟨k, hk, rfl⟩ := List.getElem_of_mem (List.mem_filter.1 h).1
 exact ⟨k, hk, nth_eq _ _ hk⟩
theorem pastAt_eq {l : List Entry} (x : Id) : pastAt (pasts l) l x = pastOf l (findE l x).toNat := rfl
set_option maxHeartbeats 1000000 in
theorem top_meets (l : List Entry) (c : Int) (h : LogOk l) (hc : wthn c 1 7 = true) : Meets Tryz.prog 83 [.list (l.map cE), .int .i64 c] [] (.list ((sortI (headsC l c)).map cId)) [] := by
 have hm := h.len
 have hle := withC_len l c
 refine Meets.of_walk Tryz.func83 Tryz.ntmps83 low83 res83 (by simp) fun x hx => ?_
 simp only [go_sem, Nat.reduceLT, Nat.reduceAdd, Nat.reduceEqDiff, Nat.reduceLeDiff, Nat.reduceSub, Nat.reduceMul, Int.reduceEq, reduceIte, L83, R83]
 refine ops_call (.pureE (before_meets l h) (by simp [go_sem, Nat.reduceLT, Nat.reduceAdd, Nat.reduceEqDiff, Nat.reduceLeDiff, Nat.reduceSub, Nat.reduceMul, Int.reduceEq, reduceIte])) ?_
 simp only [go_sem, Nat.reduceLT, Nat.reduceAdd, Nat.reduceEqDiff, Nat.reduceLeDiff, Nat.reduceSub, Nat.reduceMul, Int.reduceEq, reduceIte, pvPasts]
 refine ops_call (.pureE (with_meets l c h hc) (by simp [go_sem, Nat.reduceLT, Nat.reduceAdd, Nat.reduceEqDiff, Nat.reduceLeDiff, Nat.reduceSub, Nat.reduceMul, Int.reduceEq, reduceIte])) ?_
 simp only [go_sem, Nat.reduceLT, Nat.reduceAdd, Nat.reduceEqDiff, Nat.reduceLeDiff, Nat.reduceSub, Nat.reduceMul, Int.reduceEq, reduceIte]
 refine W_weak (weak_own 7 0 50 2 true false rfl (by omega)) ?_
 refine loop_inv [5, 6, 7, 15, 16, 17] 2 (fun n st => ∃ k v : Nat, k + n = (withC l c).length ∧
  st = ⟨mkE .top [(5, .ptr 0 0), (6, .list ((withC l c).map cE)), (7, .arr 1 v), (15, .list ((withC l c).map cE)), (16, .int .i64 (withC l c).length), (17, .int .i64 k)],
   [.box [pvPasts l (pasts l)], .arr v true false 50 2 ((((withC l c).take k).filter fun e => !underB l c e).map (·.id) |>.map cId)]⟩) (withC l c).length (by simp [hx]) (by simp [St.put]) ?_ ?_
 ·
  refine ⟨0, 0, by omega, ?_⟩
  simp [trim_mk, go_sem, Nat.reduceLT, Nat.reduceAdd, Nat.reduceEqDiff, Nat.reduceLeDiff, Nat.reduceSub, Nat.reduceMul, Int.reduceEq, reduceIte, subHeap, renObj, pos, List.range_succ, pvPasts]
 ·
  rintro n st ⟨k, v, hk, rfl⟩
  by_cases hlt : k < (withC l c).length
  ·
   have hg : (withC l c)[k]? = some (nth (withC l c) k) := nth_get? _ _ hlt
   have wk := i64_up (k := k) (by omega)
   have hw := headsC_take (l := l) (c := c) hlt
   have hle2 : ((((withC l c).take k).filter fun e => !underB l c e).map (·.id)).length ≤ 40 := by
    rw [List.length_map]
    refine Nat.le_trans (List.length_filter_le _ _) ?_
    rw [List.length_take]; omega
   simp only [go_sem, Nat.reduceLT, Nat.reduceAdd, Nat.reduceEqDiff, Nat.reduceLeDiff, Nat.reduceSub, Nat.reduceMul, Int.reduceEq, reduceIte, hlt, hg, cE]
   have hcf := contFE_meets (withC l c) 89 [.ptr 0 0, .ptr 1 0] [.box [pvPasts l (pasts l)], .box (cE (nth (withC l c) k))] (fun f => hasI (pastAt (pasts l) l f.id) (nth (withC l c) k).id) (by kernel_rfl) (by omega) (closedT _ _ _) (fun f hf => by
    obtain ⟨j, hj, rfl⟩ := withC_mem hf
    have e := h.find hj
    exact top1_meets l (pasts l) _ _ (by omega) (by omega) (by simp [pasts]; omega) (by rw [pastAt_eq, e, Int.toNat_natCast]; have := pastOf_len h hj; omega))
   refine ops_call (.heapE [0, 2] (r' := .bool (underB l c (nth (withC l c) k))) (H' := [.box [pvPasts l (pasts l)], .arr v true false 50 2 ((((withC l c).take k).filter fun e => !underB l c e).map (·.id) |>.map cId), .box (cE (nth (withC l c) k))]) hcf
    (by simp) (by simp) (by simp [go_sem, Nat.reduceLT, Nat.reduceAdd, Nat.reduceEqDiff, Nat.reduceLeDiff, Nat.reduceSub, Nat.reduceMul, Int.reduceEq, reduceIte, pos]) (by simp [subHeap, renObj, go_sem, Nat.reduceLT, Nat.reduceAdd, Nat.reduceEqDiff, Nat.reduceLeDiff, Nat.reduceSub, Nat.reduceMul, Int.reduceEq, reduceIte, pos, cE, pvPasts]) rfl (by simp [merge, mergeObj, callId, renObj, pos, go_sem, Nat.reduceLT, Nat.reduceAdd, Nat.reduceEqDiff, Nat.reduceLeDiff, Nat.reduceSub, Nat.reduceMul, Int.reduceEq, reduceIte, List.range_succ, backF, backId, cE, pvPasts])) ?_
   cases hu : underB l c (nth (withC l c) k)
   ·
    rw [hu] at hw
    simp only [go_sem, Nat.reduceLT, Nat.reduceAdd, Nat.reduceEqDiff, Nat.reduceLeDiff, Nat.reduceSub, Nat.reduceMul, Int.reduceEq, reduceIte, cE]
    rw [app_arr rfl rfl (by simp) (by simp at hle2 ⊢; omega)]
    simp only [go_sem, Nat.reduceLT, Nat.reduceAdd, Nat.reduceEqDiff, Nat.reduceLeDiff, Nat.reduceSub, Nat.reduceMul, Int.reduceEq, reduceIte, wk]
    refine ⟨by simp, n - 1, by omega, k + 1, v + 1, by omega, ?_⟩
    rw [hw]
    simp [trim_mk, go_sem, Nat.reduceLT, Nat.reduceAdd, Nat.reduceEqDiff, Nat.reduceLeDiff, Nat.reduceSub, Nat.reduceMul, Int.reduceEq, reduceIte, subHeap, renObj, pos, List.range_succ, cId, pvPasts]
   ·
    rw [hu] at hw
    simp only [go_sem, Nat.reduceLT, Nat.reduceAdd, Nat.reduceEqDiff, Nat.reduceLeDiff, Nat.reduceSub, Nat.reduceMul, Int.reduceEq, reduceIte, wk]
    refine ⟨by simp, n - 1, by omega, k + 1, v, by omega, ?_⟩
    rw [hw]
    simp [trim_mk, go_sem, Nat.reduceLT, Nat.reduceAdd, Nat.reduceEqDiff, Nat.reduceLeDiff, Nat.reduceSub, Nat.reduceMul, Int.reduceEq, reduceIte, subHeap, renObj, pos, List.range_succ, cId, pvPasts]
  ·
   have : (withC l c).take k = withC l c := List.take_of_length_le (by omega)
   have hle2 : (headsC l c).length ≤ 40 := by
    unfold headsC
    rw [List.length_map]
    refine Nat.le_trans (List.length_filter_le _ _) ?_
    omega
   simp only [go_sem, Nat.reduceLT, Nat.reduceAdd, Nat.reduceEqDiff, Nat.reduceLeDiff, Nat.reduceSub, Nat.reduceMul, Int.reduceEq, reduceIte, hlt, this]
   have hso := sortIds_meets (headsC l c) v 50 (by omega)
   refine ops_call (.heapE [1] (r' := .tup []) (H' := [.box [pvPasts l (pasts l)], .arr v true false 50 2 ((sortI (headsC l c)).map cId)]) hso
    (by simp) (by simp) (by simp [go_sem, Nat.reduceLT, Nat.reduceAdd, Nat.reduceEqDiff, Nat.reduceLeDiff, Nat.reduceSub, Nat.reduceMul, Int.reduceEq, reduceIte, pos]) (by simp [subHeap, renObj, go_sem, Nat.reduceLT, Nat.reduceAdd, Nat.reduceEqDiff, Nat.reduceLeDiff, Nat.reduceSub, Nat.reduceMul, Int.reduceEq, reduceIte, pos, headsC]) rfl (by simp [merge, mergeObj, callId, renObj, pos, go_sem, Nat.reduceLT, Nat.reduceAdd, Nat.reduceEqDiff, Nat.reduceLeDiff, Nat.reduceSub, Nat.reduceMul, Int.reduceEq, reduceIte, List.range_succ, backF, backId, pvPasts])) ?_
   simp only [go_sem, Nat.reduceLT, Nat.reduceAdd, Nat.reduceEqDiff, Nat.reduceLeDiff, Nat.reduceSub, Nat.reduceMul, Int.reduceEq, reduceIte]
   refine ret_pure hx ?_
   simp [go_sem, Nat.reduceLT, Nat.reduceAdd, Nat.reduceEqDiff, Nat.reduceLeDiff, Nat.reduceSub, Nat.reduceMul, Int.reduceEq, reduceIte, L83, R83, frzAt, pos]
end Go.Proofs.YtkgobnnkcnnfhaaGreat
/- dag.Past, dag.Heads, dag.Count: contracts. -/
namespace Go.Proofs.YtkgobnnkcnnfhaaGreat
set_option linter.unusedSimpArgs false
set_option linter.unusedVariables false
open Go.RowKit
/-! the same in the law text's words -/
theorem isOf_meets (c : Int) (i : Nat) (hi : i < 3) (h0 : 0 ≤ c) (h7 : c ≤ 7) : Meets Tryz.prog 79 [.int .i64 c, .int .i64 i] [] (.bool (bitB c i)) [] := by
 obtain ⟨m, rfl⟩ : ∃ m : Fin 8, c = (m.val : Int) := ⟨⟨c.toNat, by omega⟩, by simp; omega⟩
 have key : ∀ (m : Fin 8) (d : Fin 3), decide (((IntKind.i64.wrap ((m.val : Int).tdiv (2 ^ d.val))).tmod 2) = 1) = bitB (m.val : Int) d.val := by decide +kernel
 refine Meets.of_walk Tryz.func79 Tryz.ntmps79 low79 res79 (by simp) fun x hx => ?_
 rcases i with _ | _ | _ | i
 ·
  have k0 := key m 0
  simp only [Fin.isValue, Fin.val_zero, Int.pow_zero] at k0
  simp only [go_sem, Nat.reduceLT, Nat.reduceAdd, Nat.reduceEqDiff, Nat.reduceLeDiff, Nat.reduceSub, Nat.reduceMul, Int.reduceEq, reduceIte, L79, R79, Int.ofNat_zero, Int.toNat_zero, Int.reduceLT, Int.reduceLE, Int.reduceNe, Int.cast_ofNat_Int, Int.reduceToNat, ne_eq, k0]
  refine ret_pure hx ?_
  simp [go_sem, Nat.reduceLT, Nat.reduceAdd, Nat.reduceEqDiff, Nat.reduceLeDiff, Nat.reduceSub, Nat.reduceMul, Int.reduceEq, reduceIte, L79, R79, k0]
 ·
  have k0 := key m 1
  simp only [Fin.isValue, Fin.val_one, Int.pow_succ, Int.pow_zero, Int.one_mul] at k0
  simp only [go_sem, Nat.reduceLT, Nat.reduceAdd, Nat.reduceEqDiff, Nat.reduceLeDiff, Nat.reduceSub, Nat.reduceMul, Int.reduceEq, reduceIte, L79, R79, Int.ofNat_zero, Int.toNat_zero, Int.reduceLT, Int.reduceLE, Int.reduceNe, Int.cast_ofNat_Int, Int.reduceToNat, ne_eq, Int.natCast_one, Int.reduceAdd, Int.natCast_add, k0]
  refine ret_pure hx ?_
  simp [go_sem, Nat.reduceLT, Nat.reduceAdd, Nat.reduceEqDiff, Nat.reduceLeDiff, Nat.reduceSub, Nat.reduceMul, Int.reduceEq, reduceIte, L79, R79, k0]
 ·
  have k0 := key m 2
  simp only [Fin.isValue, Fin.val_two, Int.pow_succ, Int.pow_zero, Int.one_mul, Int.reduceMul] at k0
  simp only [go_sem, Nat.reduceLT, Nat.reduceAdd, Nat.reduceEqDiff, Nat.reduceLeDiff, Nat.reduceSub, Nat.reduceMul, Int.reduceEq, reduceIte, L79, R79, Int.ofNat_zero, Int.toNat_zero, Int.reduceLT, Int.reduceLE, Int.reduceNe, Int.cast_ofNat_Int, Int.reduceToNat, ne_eq, Int.natCast_one, Int.reduceAdd, Int.natCast_add, k0]
  refine ret_pure hx ?_
  simp [go_sem, Nat.reduceLT, Nat.reduceAdd, Nat.reduceEqDiff, Nat.reduceLeDiff, Nat.reduceSub, Nat.reduceMul, Int.reduceEq, reduceIte, L79, R79, k0]
 ·
  omega
end Go.Proofs.YtkgobnnkcnnfhaaGreat
/- Pasts and heads in the law text's words: contracts. -/
namespace Go.Proofs.YtkgobnnkcnnfhaaGreat
set_option linter.unusedSimpArgs false
set_option linter.unusedVariables false
open Go.RowKit
theorem meets_meets (a b : Int) (ha : 0 ≤ a ∧ a ≤ 7) (hb : 0 ≤ b ∧ b ≤ 7) : Meets Tryz.prog 62 [.int .i64 a, .int .i64 b] [] (.bool (meetB a b)) [] := by
 refine Meets.of_walk Tryz.func62 Tryz.ntmps62 low62 res62 (by simp) fun x hx => ?_
 simp only [go_sem, Nat.reduceLT, Nat.reduceAdd, Nat.reduceEqDiff, Nat.reduceLeDiff, Nat.reduceSub, Nat.reduceMul, Int.reduceEq, reduceIte, L62, R62]
 refine loop_inv [0, 1, 5] 0 (fun n st => ∃ k : Nat, k + n = 3 ∧ (∀ j, j < k → (bitB a j && bitB b j) = false) ∧
  st = ⟨mkE .top [(0, .int .i64 a), (1, .int .i64 b), (5, .int .i64 k)], []⟩) 3 (by simp [hx]) (by simp) ?_ ?_
 ·
  refine ⟨0, by omega, by simp, ?_⟩
  simp [trim_mk, go_sem, Nat.reduceLT, Nat.reduceAdd, Nat.reduceEqDiff, Nat.reduceLeDiff, Nat.reduceSub, Nat.reduceMul, Int.reduceEq, reduceIte, subHeap, renObj, pos]
 ·
  rintro n st ⟨k, hk, hi, rfl⟩
  by_cases hlt : k < 3
  ·
   have d3 : decide ((k : Int) < 3) = true := by simp; omega
   have wk := i64_up (k := k) (by omega)
   simp only [go_sem, Nat.reduceLT, Nat.reduceAdd, Nat.reduceEqDiff, Nat.reduceLeDiff, Nat.reduceSub, Nat.reduceMul, Int.reduceEq, reduceIte, d3]
   refine ops_call (.pureE (isOf_meets a k hlt ha.1 ha.2) (by simp [go_sem, Nat.reduceLT, Nat.reduceAdd, Nat.reduceEqDiff, Nat.reduceLeDiff, Nat.reduceSub, Nat.reduceMul, Int.reduceEq, reduceIte])) ?_
   cases h1 : bitB a k
   ·
    simp only [go_sem, Nat.reduceLT, Nat.reduceAdd, Nat.reduceEqDiff, Nat.reduceLeDiff, Nat.reduceSub, Nat.reduceMul, Int.reduceEq, reduceIte, wk]
    refine ⟨by simp, n - 1, by omega, k + 1, by omega, fun j hj => ?_, ?_⟩
    ·
     by_cases e : j = k
     ·
      subst e; simp [h1]
     ·
      exact hi j (by omega)
    ·
     simp [trim_mk, go_sem, Nat.reduceLT, Nat.reduceAdd, Nat.reduceEqDiff, Nat.reduceLeDiff, Nat.reduceSub, Nat.reduceMul, Int.reduceEq, reduceIte, subHeap, renObj, pos]
   ·
    simp only [go_sem, Nat.reduceLT, Nat.reduceAdd, Nat.reduceEqDiff, Nat.reduceLeDiff, Nat.reduceSub, Nat.reduceMul, Int.reduceEq, reduceIte]
    refine ops_call (.pureE (isOf_meets b k hlt hb.1 hb.2) (by simp [go_sem, Nat.reduceLT, Nat.reduceAdd, Nat.reduceEqDiff, Nat.reduceLeDiff, Nat.reduceSub, Nat.reduceMul, Int.reduceEq, reduceIte])) ?_
    cases h2 : bitB b k
    ·
     simp only [go_sem, Nat.reduceLT, Nat.reduceAdd, Nat.reduceEqDiff, Nat.reduceLeDiff, Nat.reduceSub, Nat.reduceMul, Int.reduceEq, reduceIte, wk]
     refine ⟨by simp, n - 1, by omega, k + 1, by omega, fun j hj => ?_, ?_⟩
     ·
      by_cases e : j = k
      ·
       subst e; simp [h2]
      ·
       exact hi j (by omega)
     ·
      simp [trim_mk, go_sem, Nat.reduceLT, Nat.reduceAdd, Nat.reduceEqDiff, Nat.reduceLeDiff, Nat.reduceSub, Nat.reduceMul, Int.reduceEq, reduceIte, subHeap, renObj, pos]
    ·
     simp only [go_sem, Nat.reduceLT, Nat.reduceAdd, Nat.reduceEqDiff, Nat.reduceLeDiff, Nat.reduceSub, Nat.reduceMul, Int.reduceEq, reduceIte]
     refine ret_pure hx ?_
     have : meetB a b = true := by
      rcases k with _ | _ | _ | k
      ·
       simp [meetB, h1, h2]
      ·
       simp [meetB, h1, h2]
      ·
       simp [meetB, h1, h2]
      ·
       omega
     simp [go_sem, Nat.reduceLT, Nat.reduceAdd, Nat.reduceEqDiff, Nat.reduceLeDiff, Nat.reduceSub, Nat.reduceMul, Int.reduceEq, reduceIte, L62, R62, this]
  ·
   have d3 : decide ((k : Int) < 3) = false := by simp; omega
   simp only [go_sem, Nat.reduceLT, Nat.reduceAdd, Nat.reduceEqDiff, Nat.reduceLeDiff, Nat.reduceSub, Nat.reduceMul, Int.reduceEq, reduceIte, d3]
   refine ret_pure hx ?_
   have : meetB a b = false := by simp only [meetB, hi 0 (by omega), hi 1 (by omega), hi 2 (by omega)]; rfl
   simp [go_sem, Nat.reduceLT, Nat.reduceAdd, Nat.reduceEqDiff, Nat.reduceLeDiff, Nat.reduceSub, Nat.reduceMul, Int.reduceEq, reduceIte, L62, R62, this]
def rB (b : Bool) : List PV := [.bool b]
def markL (l : List Entry) (ls : List Id) (M : List Bool) : List Bool := ls.foldl (fun M x => M.set (findE l x).toNat true) M
def markS (l : List Entry) (a i : Nat) (M : List Bool) : List Bool := if i = a ∨ nth M i = true then markL l (nth l i).ls M else M
def marks (l : List Entry) (a : Nat) : Nat → List Bool
 | 0 => List.replicate l.length false
 | s + 1 => markS l a (a - s) (marks l a s)
def marksOf (l : List Entry) (a : Nat) : List Bool := marks l a (a + 1)
theorem markL_length (l : List Entry) : ∀ (ls : List Id) (M : List Bool), (markL l ls M).length = M.length
 | [], _ => rfl
 | x :: ls, M => by
  show (markL l ls (M.set _ true)).length = _
  rw [markL_length l ls]; simp
theorem markL_take {l : List Entry} {ls : List Id} {M : List Bool} {j : Nat} (h : j < ls.length) : markL l (ls.take (j + 1)) M = (markL l (ls.take j) M).set (findE l (nth ls j)).toNat true := by
 unfold markL
 rw [List.take_succ_eq_append_getElem h, List.foldl_append, nth_eq _ _ h]
 rfl
theorem marks_length (l : List Entry) (a : Nat) : ∀ s, (marks l a s).length = l.length
 | 0 => by simp [marks]
 | s + 1 => by
  simp only [marks, markS]
  split
  ·
   rw [markL_length, marks_length l a s]
  ·
   exact marks_length l a s
set_option maxHeartbeats 1000000 in
theorem pastOfR_meets (l : List Entry) (a : Nat) (h : LogOk l) (ha : a < l.length) : Meets Tryz.prog 63 [.list (l.map cE), .int .i64 a] [] (.list ((marksOf l a).map rB)) [] := by
 have hm := h.len
 refine Meets.of_walk Tryz.func63 Tryz.ntmps63 low63 res63 (by simp) fun x hx => ?_
 have hb : (l.length : Int) * ((1 : Nat) : Int) ≤ 140737488355328 := by omega
 have hn0 : (0 : Int) ≤ (l.length : Int) := by omega
 simp only [go_sem, Nat.reduceLT, Nat.reduceAdd, Nat.reduceEqDiff, Nat.reduceLeDiff, Nat.reduceSub, Nat.reduceMul, Int.reduceEq, reduceIte, L63, R63, hb, hn0]
 refine loop_inv [0, 1, 5, 6] 1 (fun n st => ∃ m : Nat, m = n ∧ m ≤ a + 1 ∧
  st = ⟨mkE .top [(0, .list (l.map cE)), (1, .int .i64 a), (5, .arr 0 0), (6, .int .i64 ((m : Int) - 1))], [.arr 0 true false 4 1 ((marks l a (a + 1 - m)).map rB)]⟩) (a + 1) (by simp [hx]) (by simp) ?_ ?_
 ·
  refine ⟨a + 1, rfl, by omega, ?_⟩
  simp [trim_mk, go_sem, Nat.reduceLT, Nat.reduceAdd, Nat.reduceEqDiff, Nat.reduceLeDiff, Nat.reduceSub, Nat.reduceMul, Int.reduceEq, reduceIte, subHeap, renObj, pos, List.range_succ, marks, rB]
 ·
  rintro n st ⟨m, rfl, hma, rfl⟩
  have hml := marks_length l a (a + 1 - m)
  rcases m with _ | i
  ·
   have d0 : decide ((0 : Int) ≤ ((0 : Nat) : Int) - 1) = false := by simp
   simp only [go_sem, Nat.reduceLT, Nat.reduceAdd, Nat.reduceEqDiff, Nat.reduceLeDiff, Nat.reduceSub, Nat.reduceMul, Int.reduceEq, reduceIte, d0]
   refine ret_pure hx ?_
   simp [go_sem, Nat.reduceLT, Nat.reduceAdd, Nat.reduceEqDiff, Nat.reduceLeDiff, Nat.reduceSub, Nat.reduceMul, Int.reduceEq, reduceIte, L63, R63, frzAt, pos, marksOf]
  ·
   have e1 : (((i + 1 : Nat) : Int) - 1) = (i : Int) := by omega
   have hil : i < l.length := by omega
   have hg : l[i]? = some (nth l i) := nth_get? _ _ hil
   have hls := h.links hil
   have hM : (marks l a (a + 1 - (i + 1)))[i]? = some (nth (marks l a (a + 1 - (i + 1))) i) := nth_get? _ _ (by omega)
   have wi : IntKind.i64.wrap ((i : Int) - 1) = (i : Int) - 1 := by rw [IntWalk.i64_in _ (by omega)]
   have hstep : marks l a (a + 1 - i) = markS l a i (marks l a (a + 1 - (i + 1))) := by
    rw [show a + 1 - i = (a + 1 - (i + 1)) + 1 by omega]
    simp only [marks]
    rw [show a - (a + 1 - (i + 1)) = i by omega]
   generalize hMd : marks l a (a + 1 - (i + 1)) = M at *
   by_cases hia : i = a
   ·
    have da : decide ((i : Int) = (a : Int)) = true := by simp; omega
    simp only [go_sem, Nat.reduceLT, Nat.reduceAdd, Nat.reduceEqDiff, Nat.reduceLeDiff, Nat.reduceSub, Nat.reduceMul, Int.reduceEq, reduceIte, e1, da]
    refine loop_inv [0, 1, 5, 6, 7] 1 (fun n st => ∃ j : Nat, j + n = (nth l i).ls.length ∧
     st = ⟨mkE .top [(0, .list (l.map cE)), (1, .int .i64 a), (5, .arr 0 0), (6, .int .i64 i), (7, .int .i64 j)], [.arr 0 true false 4 1 ((markL l ((nth l i).ls.take j) M).map rB)]⟩) (nth l i).ls.length (by simp [hx]) (by simp) ?_ ?_
    ·
     refine ⟨0, by omega, ?_⟩
     simp [trim_mk, go_sem, Nat.reduceLT, Nat.reduceAdd, Nat.reduceEqDiff, Nat.reduceLeDiff, Nat.reduceSub, Nat.reduceMul, Int.reduceEq, reduceIte, subHeap, renObj, pos, List.range_succ, markL, rB]
    ·
     rintro n2 st ⟨j, hj, rfl⟩
     by_cases hlj : j < (nth l i).ls.length
     ·
      have hgj : (nth l i).ls[j]? = some (nth (nth l i).ls j) := nth_get? _ _ hlj
      have wj := i64_up (k := j) (by omega)
      obtain ⟨f1, f2⟩ := h.link_lt hil (x := nth (nth l i).ls j) (by rw [nth_eq _ _ hlj]; exact List.getElem_mem hlj)
      have hL : (markL l ((nth l i).ls.take j) M).length = l.length := by rw [markL_length]; exact hml
      have f3 : findE l (nth (nth l i).ls j) < ((markL l ((nth l i).ls.take j) M).length : Nat) := by omega
      have hM2 : (markL l ((nth l i).ls.take j) M)[(findE l (nth (nth l i).ls j)).toNat]? = some (nth (markL l ((nth l i).ls.take j) M) (findE l (nth (nth l i).ls j)).toNat) := nth_get? _ _ (by omega)
      simp only [go_sem, Nat.reduceLT, Nat.reduceAdd, Nat.reduceEqDiff, Nat.reduceLeDiff, Nat.reduceSub, Nat.reduceMul, Int.reduceEq, reduceIte, hil, hg, cE, hlj, hgj, cId]
      refine ops_call (.pureE (entryAt_meets l (nth (nth l i).ls j) (by omega)) (by simp [go_sem, Nat.reduceLT, Nat.reduceAdd, Nat.reduceEqDiff, Nat.reduceLeDiff, Nat.reduceSub, Nat.reduceMul, Int.reduceEq, reduceIte, cId])) ?_
      simp only [go_sem, Nat.reduceLT, Nat.reduceAdd, Nat.reduceEqDiff, Nat.reduceLeDiff, Nat.reduceSub, Nat.reduceMul, Int.reduceEq, reduceIte, f1, f3, hM2, rB, wj, Nat.le_refl, frz, or_true, false_or]
      refine ⟨by simp, n2 - 1, by omega, j + 1, by omega, ?_⟩
      simp [trim_mk, go_sem, Nat.reduceLT, Nat.reduceAdd, Nat.reduceEqDiff, Nat.reduceLeDiff, Nat.reduceSub, Nat.reduceMul, Int.reduceEq, reduceIte, subHeap, renObj, pos, List.range_succ, markL_take hlj, rB, List.map_set]
     ·
      have htl : (nth l i).ls.take j = (nth l i).ls := List.take_of_length_le (by omega)
      simp only [go_sem, Nat.reduceLT, Nat.reduceAdd, Nat.reduceEqDiff, Nat.reduceLeDiff, Nat.reduceSub, Nat.reduceMul, Int.reduceEq, reduceIte, hil, hg, cE, hlj, htl, wi]
      refine ⟨by simp, i, by omega, i, rfl, by omega, ?_⟩
      rw [hstep, markS, if_pos (.inl hia)]
      simp [trim_mk, go_sem, Nat.reduceLT, Nat.reduceAdd, Nat.reduceEqDiff, Nat.reduceLeDiff, Nat.reduceSub, Nat.reduceMul, Int.reduceEq, reduceIte, subHeap, renObj, pos, List.range_succ, rB]
   ·
    have da : decide ((i : Int) = (a : Int)) = false := by simp; omega
    have hil' : i < M.length := by omega
    simp only [go_sem, Nat.reduceLT, Nat.reduceAdd, Nat.reduceEqDiff, Nat.reduceLeDiff, Nat.reduceSub, Nat.reduceMul, Int.reduceEq, reduceIte, e1, da, hil, hM, hml, rB, Nat.le_refl]
    cases hMi : nth M i
    ·
     simp only [go_sem, Nat.reduceLT, Nat.reduceAdd, Nat.reduceEqDiff, Nat.reduceLeDiff, Nat.reduceSub, Nat.reduceMul, Int.reduceEq, reduceIte, wi]
     refine ⟨by simp, i, by omega, i, rfl, by omega, ?_⟩
     rw [hstep, markS, if_neg (by simp [hia, hMi])]
     simp [trim_mk, go_sem, Nat.reduceLT, Nat.reduceAdd, Nat.reduceEqDiff, Nat.reduceLeDiff, Nat.reduceSub, Nat.reduceMul, Int.reduceEq, reduceIte, subHeap, renObj, pos, List.range_succ, rB]
    ·
     simp only [go_sem, Nat.reduceLT, Nat.reduceAdd, Nat.reduceEqDiff, Nat.reduceLeDiff, Nat.reduceSub, Nat.reduceMul, Int.reduceEq, reduceIte]
     refine loop_inv [0, 1, 5, 6, 7] 1 (fun n st => ∃ j : Nat, j + n = (nth l i).ls.length ∧
      st = ⟨mkE .top [(0, .list (l.map cE)), (1, .int .i64 a), (5, .arr 0 0), (6, .int .i64 i), (7, .int .i64 j)], [.arr 0 true false 4 1 ((markL l ((nth l i).ls.take j) M).map rB)]⟩) (nth l i).ls.length (by simp [hx]) (by simp) ?_ ?_
     ·
      refine ⟨0, by omega, ?_⟩
      simp [trim_mk, go_sem, Nat.reduceLT, Nat.reduceAdd, Nat.reduceEqDiff, Nat.reduceLeDiff, Nat.reduceSub, Nat.reduceMul, Int.reduceEq, reduceIte, subHeap, renObj, pos, List.range_succ, markL, rB]
     ·
      rintro n2 st ⟨j, hj, rfl⟩
      by_cases hlj : j < (nth l i).ls.length
      ·
       have hgj : (nth l i).ls[j]? = some (nth (nth l i).ls j) := nth_get? _ _ hlj
       have wj := i64_up (k := j) (by omega)
       obtain ⟨f1, f2⟩ := h.link_lt hil (x := nth (nth l i).ls j) (by rw [nth_eq _ _ hlj]; exact List.getElem_mem hlj)
       have hL : (markL l ((nth l i).ls.take j) M).length = l.length := by rw [markL_length]; exact hml
       have f3 : findE l (nth (nth l i).ls j) < ((markL l ((nth l i).ls.take j) M).length : Nat) := by omega
       have hM2 : (markL l ((nth l i).ls.take j) M)[(findE l (nth (nth l i).ls j)).toNat]? = some (nth (markL l ((nth l i).ls.take j) M) (findE l (nth (nth l i).ls j)).toNat) := nth_get? _ _ (by omega)
       simp only [go_sem, Nat.reduceLT, Nat.reduceAdd, Nat.reduceEqDiff, Nat.reduceLeDiff, Nat.reduceSub, Nat.reduceMul, Int.reduceEq, reduceIte, hil, hg, cE, hlj, hgj, cId]
       refine ops_call (.pureE (entryAt_meets l (nth (nth l i).ls j) (by omega)) (by simp [go_sem, Nat.reduceLT, Nat.reduceAdd, Nat.reduceEqDiff, Nat.reduceLeDiff, Nat.reduceSub, Nat.reduceMul, Int.reduceEq, reduceIte, cId])) ?_
       simp only [go_sem, Nat.reduceLT, Nat.reduceAdd, Nat.reduceEqDiff, Nat.reduceLeDiff, Nat.reduceSub, Nat.reduceMul, Int.reduceEq, reduceIte, f1, f3, hM2, rB, wj, Nat.le_refl, frz, or_true, false_or]
       refine ⟨by simp, n2 - 1, by omega, j + 1, by omega, ?_⟩
       simp [trim_mk, go_sem, Nat.reduceLT, Nat.reduceAdd, Nat.reduceEqDiff, Nat.reduceLeDiff, Nat.reduceSub, Nat.reduceMul, Int.reduceEq, reduceIte, subHeap, renObj, pos, List.range_succ, markL_take hlj, rB, List.map_set]
      ·
       have htl : (nth l i).ls.take j = (nth l i).ls := List.take_of_length_le (by omega)
       simp only [go_sem, Nat.reduceLT, Nat.reduceAdd, Nat.reduceEqDiff, Nat.reduceLeDiff, Nat.reduceSub, Nat.reduceMul, Int.reduceEq, reduceIte, hil, hg, cE, hlj, htl, wi]
       refine ⟨by simp, i, by omega, i, rfl, by omega, ?_⟩
       rw [hstep, markS, if_pos (.inr hMi)]
       simp [trim_mk, go_sem, Nat.reduceLT, Nat.reduceAdd, Nat.reduceEqDiff, Nat.reduceLeDiff, Nat.reduceSub, Nat.reduceMul, Int.reduceEq, reduceIte, subHeap, renObj, pos, List.range_succ, rB]
end Go.Proofs.YtkgobnnkcnnfhaaGreat
/- Ids that are told, rising: a contract. -/
namespace Go.Proofs.YtkgobnnkcnnfhaaGreat
set_option linter.unusedSimpArgs false
set_option linter.unusedVariables false
open Go.RowKit
def idRow (r n : Nat) : List Id := (List.range n).map fun m => ⟨r, ((m + 1 : Nat) : Int)⟩
def idsUp (r n : Nat) : List Id := (List.range r).flatMap (fun q => idRow q 20) ++ idRow r n
theorem idsUp_n (r n : Nat) : idsUp r (n + 1) = idsUp r n ++ [⟨r, ((n + 1 : Nat) : Int)⟩] := by
 simp only [idsUp, idRow, List.range_succ, List.map_append, List.map_cons, List.map_nil, List.append_assoc]
theorem idsUp_r (r : Nat) : idsUp (r + 1) 0 = idsUp r 20 := by
 simp only [idsUp, idRow, List.range_succ, List.flatMap_append, List.flatMap_cons, List.flatMap_nil, List.range_zero, List.map_nil, List.append_nil]
theorem idsUp_length (r n : Nat) : (idsUp r n).length = 20 * r + n := by
 induction r generalizing n with
 | zero => simp [idsUp, idRow]
 | succ r ih =>
  induction n with
  | zero => rw [idsUp_r, ih]; omega
  | succ n ihn => rw [idsUp_n, List.length_append, ihn]; simp; omega
def allIds : List Id := idsUp 2 0
def tellB (l : List Entry) (M : List Bool) (x : Id) : Bool := decide (0 ≤ findE l x) && nth M (findE l x).toNat
def risingI (l : List Entry) (M : List Bool) : List Id := allIds.filter (tellB l M)
set_option maxHeartbeats 1000000 in
theorem rising_meets (l : List Entry) (M : List Bool) (hm : l.length ≤ 40) (hM : M.length = l.length) : Meets Tryz.prog 64 [.list (l.map cE), .list (M.map rB)] [] (.list ((risingI l M).map cId)) [] := by
 refine Meets.of_walk Tryz.func64 Tryz.ntmps64 low64 res64 (by simp) fun x hx => ?_
 simp only [go_sem, Nat.reduceLT, Nat.reduceAdd, Nat.reduceEqDiff, Nat.reduceLeDiff, Nat.reduceSub, Nat.reduceMul, Int.reduceEq, reduceIte, L64, R64]
 refine W_weak (weak_own 5 0 50 2 false false rfl (by omega)) ?_
 refine loop_inv [0, 1, 5, 6] 1 (fun n st => ∃ r v : Nat, r + n = 2 ∧
  st = ⟨mkE .top [(0, .list (l.map cE)), (1, .list (M.map rB)), (5, .arr 0 v), (6, .int .i64 r)], [.arr v false false 50 2 (((idsUp r 0).filter (tellB l M)).map cId)]⟩) 2 (by simp [hx]) (by simp [St.put]) ?_ ?_
 ·
  refine ⟨0, 0, by omega, ?_⟩
  simp [trim_mk, go_sem, Nat.reduceLT, Nat.reduceAdd, Nat.reduceEqDiff, Nat.reduceLeDiff, Nat.reduceSub, Nat.reduceMul, Int.reduceEq, reduceIte, subHeap, renObj, pos, List.range_succ, idsUp, idRow]
 ·
  rintro n st ⟨r, v, hr, rfl⟩
  by_cases hlt : r < 2
  ·
   have d2 : decide ((r : Int) < 2) = true := by simp; omega
   have wr := i64_up (k := r) (by omega)
   simp only [go_sem, Nat.reduceLT, Nat.reduceAdd, Nat.reduceEqDiff, Nat.reduceLeDiff, Nat.reduceSub, Nat.reduceMul, Int.reduceEq, reduceIte, d2]
   refine loop_inv [0, 1, 5, 6, 7] 1 (fun n st => ∃ k v : Nat, k + n = 20 ∧
    st = ⟨mkE .top [(0, .list (l.map cE)), (1, .list (M.map rB)), (5, .arr 0 v), (6, .int .i64 r), (7, .int .i64 ((k + 1 : Nat) : Int))], [.arr v false false 50 2 (((idsUp r k).filter (tellB l M)).map cId)]⟩) 20 (by simp [hx]) (by simp) ?_ ?_
   ·
    refine ⟨0, v, by omega, ?_⟩
    simp [trim_mk, go_sem, Nat.reduceLT, Nat.reduceAdd, Nat.reduceEqDiff, Nat.reduceLeDiff, Nat.reduceSub, Nat.reduceMul, Int.reduceEq, reduceIte, subHeap, renObj, pos, List.range_succ]
   ·
    rintro n2 st ⟨k, v2, hk, rfl⟩
    have wk := i64_up (k := k + 1) (by omega)
    by_cases hk20 : k < 20
    ·
     have d20 : decide (((k + 1 : Nat) : Int) ≤ 20) = true := by simp; omega
     have hb := idsUp_length r k
     have hfl := List.length_filter_le (tellB l M) (idsUp r k)
     have hn := idsUp_n r k
     simp only [go_sem, Nat.reduceLT, Nat.reduceAdd, Nat.reduceEqDiff, Nat.reduceLeDiff, Nat.reduceSub, Nat.reduceMul, Int.reduceEq, reduceIte, d20]
     refine ops_call (.pureE (entryAt_meets l ⟨r, ((k + 1 : Nat) : Int)⟩ (by omega)) (by simp [go_sem, Nat.reduceLT, Nat.reduceAdd, Nat.reduceEqDiff, Nat.reduceLeDiff, Nat.reduceSub, Nat.reduceMul, Int.reduceEq, reduceIte, cId])) ?_
     generalize (⟨r, ((k + 1 : Nat) : Int)⟩ : Id) = q at *
     generalize hz : findE l q = z
     by_cases hz0 : 0 ≤ z
     ·
      obtain ⟨i, f1, f2, f3⟩ := findE_spec (l := l) (x := q) (by rw [hz]; exact hz0)
      obtain rfl : z = (i : Int) := by rw [← hz]; exact f1
      have hMi : M[i]? = some (nth M i) := nth_get? _ _ (by omega)
      have hiM : i < M.length := by omega
      have hg : l[i]? = some (nth l i) := nth_get? _ _ f2
      have i0 : (0 : Int) ≤ (i : Int) := by omega
      have ht : tellB l M q = nth M i := by simp [tellB, f1]
      cases hb : nth M i
      ·
       rw [hb] at ht hMi
       simp only [go_sem, Nat.reduceLT, Nat.reduceAdd, Nat.reduceEqDiff, Nat.reduceLeDiff, Nat.reduceSub, Nat.reduceMul, Int.reduceEq, reduceIte, i0, hiM, hMi, rB, wk]
       refine ⟨by simp, n2 - 1, by omega, k + 1, v2, by omega, ?_⟩
       rw [hn, List.filter_append]
       simp [trim_mk, go_sem, Nat.reduceLT, Nat.reduceAdd, Nat.reduceEqDiff, Nat.reduceLeDiff, Nat.reduceSub, Nat.reduceMul, Int.reduceEq, reduceIte, subHeap, renObj, pos, List.range_succ, ht, rB]
      ·
       rw [hb] at ht hMi
       simp only [go_sem, Nat.reduceLT, Nat.reduceAdd, Nat.reduceEqDiff, Nat.reduceLeDiff, Nat.reduceSub, Nat.reduceMul, Int.reduceEq, reduceIte, i0, hiM, hMi, rB, f2, hg, cE, f3]
       rw [app_arr rfl rfl (by simp) (by simp; omega)]
       simp only [go_sem, Nat.reduceLT, Nat.reduceAdd, Nat.reduceEqDiff, Nat.reduceLeDiff, Nat.reduceSub, Nat.reduceMul, Int.reduceEq, reduceIte, wk]
       refine ⟨by simp, n2 - 1, by omega, k + 1, v2 + 1, by omega, ?_⟩
       rw [hn, List.filter_append]
       simp [trim_mk, go_sem, Nat.reduceLT, Nat.reduceAdd, Nat.reduceEqDiff, Nat.reduceLeDiff, Nat.reduceSub, Nat.reduceMul, Int.reduceEq, reduceIte, subHeap, renObj, pos, List.range_succ, ht, rB, cId]
     ·
      have ht : tellB l M q = false := by simp [tellB, hz, hz0]
      simp only [go_sem, Nat.reduceLT, Nat.reduceAdd, Nat.reduceEqDiff, Nat.reduceLeDiff, Nat.reduceSub, Nat.reduceMul, Int.reduceEq, reduceIte, hz0, wk]
      refine ⟨by simp, n2 - 1, by omega, k + 1, v2, by omega, ?_⟩
      rw [hn, List.filter_append]
      simp [trim_mk, go_sem, Nat.reduceLT, Nat.reduceAdd, Nat.reduceEqDiff, Nat.reduceLeDiff, Nat.reduceSub, Nat.reduceMul, Int.reduceEq, reduceIte, subHeap, renObj, pos, List.range_succ, ht, rB]
    ·
     obtain rfl : k = 20 := by omega
     have d20 : decide (((20 + 1 : Nat) : Int) ≤ 20) = false := by simp
     simp only [go_sem, Nat.reduceLT, Nat.reduceAdd, Nat.reduceEqDiff, Nat.reduceLeDiff, Nat.reduceSub, Nat.reduceMul, Int.reduceEq, reduceIte, d20, wr]
     refine ⟨by simp, n - 1, by omega, r + 1, v2, by omega, ?_⟩
     simp [trim_mk, go_sem, Nat.reduceLT, Nat.reduceAdd, Nat.reduceEqDiff, Nat.reduceLeDiff, Nat.reduceSub, Nat.reduceMul, Int.reduceEq, reduceIte, subHeap, renObj, pos, List.range_succ, idsUp_r]
  ·
   obtain rfl : r = 2 := by omega
   have d2 : decide (((2 : Nat) : Int) < 2) = false := by simp
   simp only [go_sem, Nat.reduceLT, Nat.reduceAdd, Nat.reduceEqDiff, Nat.reduceLeDiff, Nat.reduceSub, Nat.reduceMul, Int.reduceEq, reduceIte, d2]
   refine ret_pure hx ?_
   simp [go_sem, Nat.reduceLT, Nat.reduceAdd, Nat.reduceEqDiff, Nat.reduceLeDiff, Nat.reduceSub, Nat.reduceMul, Int.reduceEq, reduceIte, L64, R64, frzAt, pos, risingI, allIds]
end Go.Proofs.YtkgobnnkcnnfhaaGreat
/- Heads in the law text's words: a contract. -/
namespace Go.Proofs.YtkgobnnkcnnfhaaGreat
set_option linter.unusedSimpArgs false
set_option linter.unusedVariables false
open Go.RowKit
def mix (A B : List Bool) (j : Nat) : List Bool := A.take j ++ B.drop j
theorem mix_length {A B : List Bool} {j : Nat} (h : A.length = B.length) : (mix A B j).length = B.length := by
 simp [mix]; omega
theorem mix_get {A B : List Bool} {j : Nat} (h : A.length = B.length) (hj : j < B.length) : (mix A B j)[j]? = some (nth B j) := by
 unfold mix
 rw [List.getElem?_append_right (by simp; omega)]
 simp [show j - min j A.length = 0 by omega, nth, hj]
theorem mix_set {A B : List Bool} {j : Nat} (h : A.length = B.length) (hj : j < B.length) : (mix A B j).set j (nth A j) = mix A B (j + 1) := by
 unfold mix
 rw [List.set_append_right _ _ (by simp; omega)]
 rw [List.take_succ_eq_append_getElem (by omega), nth_eq _ _ (by omega)]
 simp only [List.length_take, show j - min j A.length = 0 by omega, List.append_assoc]
 rw [List.drop_eq_getElem_cons hj]
 rfl
theorem mix_zero (A B : List Bool) : mix A B 0 = B := by simp [mix]
theorem mix_all {A B : List Bool} (h : A.length = B.length) : mix A B B.length = A := by simp [mix, ← h]
def cutM (M P : List Bool) : List Bool := List.zipWith (fun a p => a && !p) M P
def meetsL (l : List Entry) (c : Int) : List Bool := l.map fun e => meetB e.c c
def headM (l : List Entry) (c : Int) : Nat → List Bool
 | 0 => meetsL l c
 | k + 1 => if meetB (nth l k).c c then cutM (headM l c k) (marksOf l k) else headM l c k
theorem marksOf_length (l : List Entry) (a : Nat) : (marksOf l a).length = l.length := marks_length l a (a + 1)
theorem headM_length (l : List Entry) (c : Int) : ∀ k, (headM l c k).length = l.length
 | 0 => by simp [headM, meetsL]
 | k + 1 => by
  simp only [headM]
  split
  ·
   simp [cutM, headM_length l c k, marksOf_length]
  ·
   exact headM_length l c k
def headsR (l : List Entry) (c : Int) : List Id := risingI l (headM l c l.length)
theorem LogOk.col07 {l : List Entry} (h : LogOk l) {k : Nat} (hk : k < l.length) : 0 ≤ (nth l k).c ∧ (nth l k).c ≤ 7 := by
 have := h.col hk
 rw [wthn_iff] at this
 omega
set_option maxHeartbeats 2000000 in
theorem headsOf_meets (l : List Entry) (c : Int) (h : LogOk l) (hc : wthn c 1 7 = true) : Meets Tryz.prog 46 [.list (l.map cE), .int .i64 c] [] (.list ((headsR l c).map cId)) [] := by
 have hm := h.len
 have hc' : 0 ≤ c ∧ c ≤ 7 := by rw [wthn_iff] at hc; omega
 have hb : (l.length : Int) * ((1 : Nat) : Int) ≤ 140737488355328 := by omega
 have hn0 : (0 : Int) ≤ (l.length : Int) := by omega
 refine Meets.of_parts Tryz.func46 Tryz.ntmps46 low46 res46 (by simp) fun x hx => ?_
 simp only [LC.flat, L46, R46, List.cons_append, List.nil_append]
 refine WL_join 6 [0, 5] 1 (fun st => st = ⟨mkE .top [(0, .list (l.map cE)), (5, .arr 0 0)], [.arr 0 false false 4 1 ((headM l c l.length).map rB)]⟩) (by simp [hx]) (by simp) ?_ ?_
 ·
  simp only [go_sem, Nat.reduceLT, Nat.reduceAdd, Nat.reduceEqDiff, Nat.reduceLeDiff, Nat.reduceSub, Nat.reduceMul, Int.reduceEq, reduceIte, L46, R46, List.take_succ_cons, List.take_zero, hb, hn0]
  refine loop_inv [0, 1, 5, 6] 1 (fun n st => ∃ k : Nat, k + n = l.length ∧
   st = ⟨mkE .top [(0, .list (l.map cE)), (1, .int .i64 c), (5, .arr 0 0), (6, .int .i64 k)], [.arr 0 true false 4 1 ((mix (meetsL l c) (List.replicate l.length false) k).map rB)]⟩) l.length (by simp [hx]) (by simp) ?_ ?_
  ·
   refine ⟨0, by omega, ?_⟩
   simp [trim_mk, go_sem, Nat.reduceLT, Nat.reduceAdd, Nat.reduceEqDiff, Nat.reduceLeDiff, Nat.reduceSub, Nat.reduceMul, Int.reduceEq, reduceIte, subHeap, renObj, pos, List.range_succ, mix_zero, rB]
  ·
   rintro n st ⟨k, hk, rfl⟩
   have hl1 : (meetsL l c).length = (List.replicate l.length false).length := by simp [meetsL]
   have hl2 : (List.replicate l.length false).length = l.length := by simp
   by_cases hlt : k < l.length
   ·
    have hg : l[k]? = some (nth l k) := nth_get? _ _ hlt
    have wk := i64_up (k := k) (by omega)
    have hmx := mix_get (j := k) hl1 (by omega)
    have hms := mix_set (j := k) hl1 (by omega)
    have hml := mix_length (j := k) hl1
    rw [hl2] at hml
    have hmb : nth (meetsL l c) k = meetB (nth l k).c c := by rw [nth_eq _ _ (by rw [hl1, hl2]; exact hlt)]; simp [meetsL, nth_eq _ _ hlt]
    rw [hmb] at hms
    simp only [go_sem, Nat.reduceLT, Nat.reduceAdd, Nat.reduceEqDiff, Nat.reduceLeDiff, Nat.reduceSub, Nat.reduceMul, Int.reduceEq, reduceIte, hlt, hg, cE]
    refine ops_call (.pureE (meets_meets (nth l k).c c (h.col07 hlt) hc') (by simp [go_sem, Nat.reduceLT, Nat.reduceAdd, Nat.reduceEqDiff, Nat.reduceLeDiff, Nat.reduceSub, Nat.reduceMul, Int.reduceEq, reduceIte])) ?_
    simp only [go_sem, Nat.reduceLT, Nat.reduceAdd, Nat.reduceEqDiff, Nat.reduceLeDiff, Nat.reduceSub, Nat.reduceMul, Int.reduceEq, reduceIte, hlt, hml, hmx, rB, wk, Nat.le_refl, frz, or_true, false_or]
    refine ⟨by simp, n - 1, by omega, k + 1, by omega, ?_⟩
    rw [← hms]
    simp [trim_mk, go_sem, Nat.reduceLT, Nat.reduceAdd, Nat.reduceEqDiff, Nat.reduceLeDiff, Nat.reduceSub, Nat.reduceMul, Int.reduceEq, reduceIte, subHeap, renObj, pos, List.range_succ, rB, List.map_set]
   ·
    obtain rfl : k = l.length := by omega
    have hma := mix_all hl1
    rw [hl2] at hma
    simp only [go_sem, Nat.reduceLT, Nat.reduceAdd, Nat.reduceEqDiff, Nat.reduceLeDiff, Nat.reduceSub, Nat.reduceMul, Int.reduceEq, reduceIte, Nat.lt_irrefl, hma]
    refine loop_inv [0, 1, 5, 7] 1 (fun n st => ∃ k : Nat, k + n = l.length ∧
     st = ⟨mkE .top [(0, .list (l.map cE)), (1, .int .i64 c), (5, .arr 0 0), (7, .int .i64 k)], [.arr 0 true false 4 1 ((headM l c k).map rB)]⟩) l.length (by simp [hx]) (by simp) ?_ ?_
    ·
     refine ⟨0, by omega, ?_⟩
     simp [trim_mk, go_sem, Nat.reduceLT, Nat.reduceAdd, Nat.reduceEqDiff, Nat.reduceLeDiff, Nat.reduceSub, Nat.reduceMul, Int.reduceEq, reduceIte, subHeap, renObj, pos, List.range_succ, headM]
    ·
     rintro n2 st ⟨k, hk, rfl⟩
     have hhl := headM_length l c k
     by_cases hlt : k < l.length
     ·
      have hg : l[k]? = some (nth l k) := nth_get? _ _ hlt
      have wk := i64_up (k := k) (by omega)
      simp only [go_sem, Nat.reduceLT, Nat.reduceAdd, Nat.reduceEqDiff, Nat.reduceLeDiff, Nat.reduceSub, Nat.reduceMul, Int.reduceEq, reduceIte, hlt, hg, cE]
      refine ops_call (.pureE (meets_meets (nth l k).c c (h.col07 hlt) hc') (by simp [go_sem, Nat.reduceLT, Nat.reduceAdd, Nat.reduceEqDiff, Nat.reduceLeDiff, Nat.reduceSub, Nat.reduceMul, Int.reduceEq, reduceIte])) ?_
      cases hmt : meetB (nth l k).c c
      ·
       simp only [go_sem, Nat.reduceLT, Nat.reduceAdd, Nat.reduceEqDiff, Nat.reduceLeDiff, Nat.reduceSub, Nat.reduceMul, Int.reduceEq, reduceIte, wk]
       refine ⟨by simp, n2 - 1, by omega, k + 1, by omega, ?_⟩
       simp [trim_mk, go_sem, Nat.reduceLT, Nat.reduceAdd, Nat.reduceEqDiff, Nat.reduceLeDiff, Nat.reduceSub, Nat.reduceMul, Int.reduceEq, reduceIte, subHeap, renObj, pos, List.range_succ, headM, hmt]
      ·
       simp only [go_sem, Nat.reduceLT, Nat.reduceAdd, Nat.reduceEqDiff, Nat.reduceLeDiff, Nat.reduceSub, Nat.reduceMul, Int.reduceEq, reduceIte]
       refine ops_call (.pureE (pastOfR_meets l k h hlt) (by simp [go_sem, Nat.reduceLT, Nat.reduceAdd, Nat.reduceEqDiff, Nat.reduceLeDiff, Nat.reduceSub, Nat.reduceMul, Int.reduceEq, reduceIte])) ?_
       simp only [go_sem, Nat.reduceLT, Nat.reduceAdd, Nat.reduceEqDiff, Nat.reduceLeDiff, Nat.reduceSub, Nat.reduceMul, Int.reduceEq, reduceIte]
       have hml := marksOf_length l k
       have hcl : (cutM (headM l c k) (marksOf l k)).length = (headM l c k).length := by simp [cutM, hhl, hml]
       refine loop_inv [0, 1, 5, 7, 8, 9] 1 (fun n st => ∃ j : Nat, j + n = l.length ∧
        st = ⟨mkE .top [(0, .list (l.map cE)), (1, .int .i64 c), (5, .arr 0 0), (7, .int .i64 k), (8, .list ((marksOf l k).map rB)), (9, .int .i64 j)], [.arr 0 true false 4 1 ((mix (cutM (headM l c k) (marksOf l k)) (headM l c k) j).map rB)]⟩) l.length (by simp [hx]) (by simp) ?_ ?_
       ·
        refine ⟨0, by omega, ?_⟩
        simp [trim_mk, go_sem, Nat.reduceLT, Nat.reduceAdd, Nat.reduceEqDiff, Nat.reduceLeDiff, Nat.reduceSub, Nat.reduceMul, Int.reduceEq, reduceIte, subHeap, renObj, pos, List.range_succ, mix_zero]
       ·
        rintro n3 st ⟨j, hj, rfl⟩
        by_cases hlj : j < l.length
        ·
         have wj := i64_up (k := j) (by omega)
         have hmx := mix_get (j := j) hcl (by omega)
         have hms := mix_set (j := j) hcl (by omega)
         have hmxl := mix_length (j := j) hcl
         rw [hhl] at hmxl
         have hP : (marksOf l k)[j]? = some (nth (marksOf l k) j) := nth_get? _ _ (by omega)
         have hcj : nth (cutM (headM l c k) (marksOf l k)) j = (nth (headM l c k) j && !nth (marksOf l k) j) := by
          rw [nth_eq _ _ (by omega), nth_eq _ _ (by omega), nth_eq _ _ (by omega)]; simp [cutM]
         rw [hcj] at hms
         cases hb1 : nth (headM l c k) j
         ·
          rw [hb1] at hmx hms
          simp only [go_sem, Nat.reduceLT, Nat.reduceAdd, Nat.reduceEqDiff, Nat.reduceLeDiff, Nat.reduceSub, Nat.reduceMul, Int.reduceEq, reduceIte, hlj, hmxl, hmx, rB]
          simp only [go_sem, Nat.reduceLT, Nat.reduceAdd, Nat.reduceEqDiff, Nat.reduceLeDiff, Nat.reduceSub, Nat.reduceMul, Int.reduceEq, reduceIte, hlj, hmxl, hmx, rB, wj, Nat.le_refl, frz, or_true, false_or]
          refine ⟨by simp, n3 - 1, by omega, j + 1, by omega, ?_⟩
          rw [← hms]
          simp [trim_mk, go_sem, Nat.reduceLT, Nat.reduceAdd, Nat.reduceEqDiff, Nat.reduceLeDiff, Nat.reduceSub, Nat.reduceMul, Int.reduceEq, reduceIte, subHeap, renObj, pos, List.range_succ, rB, List.map_set]
         ·
          rw [hb1] at hmx hms
          simp only [go_sem, Nat.reduceLT, Nat.reduceAdd, Nat.reduceEqDiff, Nat.reduceLeDiff, Nat.reduceSub, Nat.reduceMul, Int.reduceEq, reduceIte, hlj, hmxl, hmx, hml, hP, rB]
          simp only [go_sem, Nat.reduceLT, Nat.reduceAdd, Nat.reduceEqDiff, Nat.reduceLeDiff, Nat.reduceSub, Nat.reduceMul, Int.reduceEq, reduceIte, hlj, hmxl, hmx, rB, wj, Nat.le_refl, frz, or_true, false_or]
          refine ⟨by simp, n3 - 1, by omega, j + 1, by omega, ?_⟩
          rw [← hms]
          simp [trim_mk, go_sem, Nat.reduceLT, Nat.reduceAdd, Nat.reduceEqDiff, Nat.reduceLeDiff, Nat.reduceSub, Nat.reduceMul, Int.reduceEq, reduceIte, subHeap, renObj, pos, List.range_succ, rB, List.map_set]
        ·
         obtain rfl : j = l.length := by omega
         have hma := mix_all hcl
         rw [hhl] at hma
         simp only [go_sem, Nat.reduceLT, Nat.reduceAdd, Nat.reduceEqDiff, Nat.reduceLeDiff, Nat.reduceSub, Nat.reduceMul, Int.reduceEq, reduceIte, Nat.lt_irrefl, hma, wk]
         refine ⟨by simp, n2 - 1, by omega, k + 1, by omega, ?_⟩
         simp [trim_mk, go_sem, Nat.reduceLT, Nat.reduceAdd, Nat.reduceEqDiff, Nat.reduceLeDiff, Nat.reduceSub, Nat.reduceMul, Int.reduceEq, reduceIte, subHeap, renObj, pos, List.range_succ, headM, hmt]
     ·
      obtain rfl : k = l.length := by omega
      simp only [go_sem, Nat.reduceLT, Nat.reduceAdd, Nat.reduceEqDiff, Nat.reduceLeDiff, Nat.reduceSub, Nat.reduceMul, Int.reduceEq, reduceIte, Nat.lt_irrefl]
      rw [join_normal]
      refine ⟨by simp, _, ?_, rfl⟩
      rw [show (St.mk (mkE .top [(0, .list (l.map cE)), (5, .arr 0 0)]) [AObj.arr 0 false false 4 1 ((headM l c l.length).map rB)]) = (⟨(St.mk (mkE .top [(0, .list (l.map cE)), (5, .arr 0 0)]) [AObj.arr 0 true false 4 1 ((headM l c l.length).map rB)]).env, [AObj.arr 0 true false 4 1 ((headM l c l.length).map rB)].set 0 (AObj.arr 0 false false 4 1 ((headM l c l.length).map rB))⟩ : St) from rfl]
      have e := weak_shut (x := x) (nt := 68) (st := St.mk (mkE .top [(0, .list (l.map cE)), (5, .arr 0 0)]) [AObj.arr 0 true false 4 1 ((headM l c l.length).map rB)]) 0 rfl
      refine cast ?_ e
      congr 1
      simp [trim_mk, go_sem, Nat.reduceLT, Nat.reduceAdd, Nat.reduceEqDiff, Nat.reduceLeDiff, Nat.reduceSub, Nat.reduceMul, Int.reduceEq, reduceIte, subHeap, renObj, pos, List.range_succ]
 ·
  rintro st rfl
  refine WL_walk ?_
  simp only [go_sem, Nat.reduceLT, Nat.reduceAdd, Nat.reduceEqDiff, Nat.reduceLeDiff, Nat.reduceSub, Nat.reduceMul, Int.reduceEq, reduceIte, L46, R46, List.drop_succ_cons, List.drop_zero]
  refine ops_call (.pureE (rising_meets l (headM l c l.length) (by omega) (headM_length l c _)) (by simp [go_sem, Nat.reduceLT, Nat.reduceAdd, Nat.reduceEqDiff, Nat.reduceLeDiff, Nat.reduceSub, Nat.reduceMul, Int.reduceEq, reduceIte, frzAt, pos])) ?_
  simp only [go_sem, Nat.reduceLT, Nat.reduceAdd, Nat.reduceEqDiff, Nat.reduceLeDiff, Nat.reduceSub, Nat.reduceMul, Int.reduceEq, reduceIte]
  refine ret_pure hx ?_
  simp [go_sem, Nat.reduceLT, Nat.reduceAdd, Nat.reduceEqDiff, Nat.reduceLeDiff, Nat.reduceSub, Nat.reduceMul, Int.reduceEq, reduceIte, L46, R46, headsR]
end Go.Proofs.YtkgobnnkcnnfhaaGreat
/- Plain laws of pasts and heads: what the marks tell. No program in sight. -/
namespace Go.Proofs.YtkgobnnkcnnfhaaGreat
theorem pastOf_trans {l : List Entry} (h : LogOk l) {j : Nat} (hj : j < l.length) : ∀ (a : Nat), a < l.length → (nth l j).id ∈ pastOf l a → ∀ y ∈ pastOf l j, y ∈ pastOf l a := by
 intro a
 induction a using Nat.strongRecOn with
 | _ a ih =>
  intro ha hm y hy
  obtain ⟨x, hx, he⟩ := (mem_pastOf h ha).1 hm
  obtain ⟨f1, f2⟩ := h.link_lt ha hx
  refine (mem_pastOf h ha).2 ⟨x, hx, .inr ?_⟩
  rcases he with rfl | he
  ·
   rw [h.find hj, Int.toNat_natCast]; exact hy
  ·
   exact ih _ (by omega) (by omega) he y hy
theorem nth_set {M : List Bool} {i k : Nat} (hk : k < M.length) : nth (M.set i true) k = (nth M k || decide (i = k)) := by
 rw [nth_eq _ _ (by simpa using hk), nth_eq _ _ hk, List.getElem_set]
 by_cases e : i = k
 ·
  simp [e]
 ·
  simp [e]
theorem nth_markL {l : List Entry} : ∀ (ls : List Id) (M : List Bool) (k : Nat), k < M.length → nth (markL l ls M) k = (nth M k || ls.any fun x => decide ((findE l x).toNat = k))
 | [], M, k, _ => by simp [markL]
 | x :: ls, M, k, h => by
  show nth (markL l ls (M.set (findE l x).toNat true)) k = _
  rw [nth_markL ls _ k (by simpa using h), nth_set h]
  simp [Bool.or_assoc]
theorem markL_link {l : List Entry} (h : LogOk l) {i k : Nat} (hi : i < l.length) (hk : k < l.length) {M : List Bool} (hM : M.length = l.length) :
    nth (markL l (nth l i).ls M) k = true ↔ nth M k = true ∨ (nth l k).id ∈ (nth l i).ls := by
  rw [nth_markL _ _ _ (by omega), Bool.or_eq_true, List.any_eq_true]
  constructor
  · rintro (h1 | ⟨x, hx, hd⟩)
    · exact .inl h1
    · obtain ⟨f1, f2⟩ := h.link_lt hi hx
      obtain ⟨m, g1, g2, g3⟩ := findE_spec f1
      have : m = k := by simpa [g1] using hd
      subst this
      exact .inr (by rw [g3]; exact hx)
  · rintro (h1 | hx)
    · exact .inl h1
    · exact .inr ⟨_, hx, by simp [h.find hk]⟩
theorem nth_repl {n k : Nat} (h : k < n) : nth (List.replicate n false) k = false := by
 rw [nth_eq _ _ (by simpa using h)]; simp
theorem marks_inv {l : List Entry} (h : LogOk l) {a : Nat} (ha : a < l.length) : ∀ s, s ≤ a →
    (∀ k, k < l.length → nth (marks l a (s + 1)) k = true → (nth l k).id ∈ pastOf l a) ∧
    (∀ k, k < l.length → (nth l k).id ∈ pastOf l a → nth (marks l a (s + 1)) k = true ∨ ∃ j, j < a - s ∧ nth (marks l a (s + 1)) j = true ∧ (nth l k).id ∈ pastOf l j)
  | 0, _ => by
    have e : marks l a 1 = markL l (nth l a).ls (List.replicate l.length false) := by simp [marks, markS]
    rw [Nat.zero_add, e]
    have hlk : ∀ k, k < l.length → (nth (markL l (nth l a).ls (List.replicate l.length false)) k = true ↔ (nth l k).id ∈ (nth l a).ls) := fun k hk => by
      rw [markL_link h ha hk (by simp), nth_repl hk]; simp
    refine ⟨fun k hk hm => (mem_pastOf h ha).2 ⟨_, (hlk k hk).1 hm, .inl rfl⟩, fun k hk hp => ?_⟩
    obtain ⟨x, hx, he⟩ := (mem_pastOf h ha).1 hp
    rcases he with rfl | he
    · exact .inl ((hlk k hk).2 hx)
    · obtain ⟨f1, f2⟩ := h.link_lt ha hx
      obtain ⟨m, g1, g2, g3⟩ := findE_spec f1
      rw [g1, Int.toNat_natCast] at he
      exact .inr ⟨m, by omega, (hlk m g2).2 (by rw [g3]; exact hx), he⟩
  | s + 1, hs => by
    obtain ⟨iA, iB⟩ := marks_inv h ha s (by omega)
    have hi : a - (s + 1) < l.length := by omega
    have e : marks l a (s + 1 + 1) = markS l a (a - (s + 1)) (marks l a (s + 1)) := rfl
    rw [e]
    generalize hM : marks l a (s + 1) = M at *
    have hMl : M.length = l.length := by rw [← hM]; exact marks_length l a _
    generalize hid : a - (s + 1) = i at *
    have hne : ¬ i = a := by omega
    unfold markS
    by_cases hm : nth M i = true
    · rw [if_pos (.inr hm)]
      have hlk : ∀ k, k < l.length → (nth (markL l (nth l i).ls M) k = true ↔ nth M k = true ∨ (nth l k).id ∈ (nth l i).ls) := fun k hk => markL_link h hi hk hMl
      refine ⟨fun k hk hkm => ?_, fun k hk hp => ?_⟩
      · rcases (hlk k hk).1 hkm with h1 | h1
        · exact iA k hk h1
        · exact pastOf_trans h hi a ha (iA i hi hm) _ ((mem_pastOf h hi).2 ⟨_, h1, .inl rfl⟩)
      · rcases iB k hk hp with h1 | ⟨j, hj, h2, h3⟩
        · exact .inl ((hlk k hk).2 (.inl h1))
        · by_cases hji : j = i
          · subst hji
            obtain ⟨x, hx, he⟩ := (mem_pastOf h hi).1 h3
            rcases he with rfl | he
            · exact .inl ((hlk k hk).2 (.inr hx))
            · obtain ⟨f1, f2⟩ := h.link_lt hi hx
              obtain ⟨m, g1, g2, g3⟩ := findE_spec f1
              rw [g1, Int.toNat_natCast] at he
              exact .inr ⟨m, by omega, (hlk m g2).2 (.inr (by rw [g3]; exact hx)), he⟩
          · exact .inr ⟨j, by omega, (hlk j (by omega)).2 (.inl h2), h3⟩
    · rw [if_neg (by simp [hne, hm])]
      refine ⟨iA, fun k hk hp => ?_⟩
      rcases iB k hk hp with h1 | ⟨j, hj, h2, h3⟩
      · exact .inl h1
      · have : j ≠ i := fun e => hm (e ▸ h2)
        exact .inr ⟨j, by omega, h2, h3⟩
theorem marksOf_iff {l : List Entry} (h : LogOk l) {a k : Nat} (ha : a < l.length) (hk : k < l.length) : nth (marksOf l a) k = true ↔ (nth l k).id ∈ pastOf l a := by
 obtain ⟨h1, h2⟩ := marks_inv h ha a (Nat.le_refl _)
 refine ⟨h1 k hk, fun hp => ?_⟩
 rcases h2 k hk hp with h3 | ⟨j, hj, -⟩
 ·
  exact h3
 ·
  omega
theorem allIds_asc : Asc allIds := by
 unfold Asc
 have : (allIds.Pairwise fun a b => lessB a b = true) := by decide +kernel
 exact this
theorem mem_allIds {x : Id} : x ∈ allIds ↔ okId x = true := by
 obtain ⟨r, n⟩ := x
 simp only [okId, Bool.and_eq_true, wthn_iff]
 constructor
 ·
  intro h
  have key : ∀ y ∈ allIds, (0 ≤ y.r ∧ y.r ≤ 1) ∧ 1 ≤ y.n ∧ y.n ≤ 20 := by decide +kernel
  exact key _ h
 ·
  rintro ⟨⟨h1, h2⟩, h3, h4⟩
  have key : ∀ (a : Fin 2) (b : Fin 20), (⟨(a.val : Int), (b.val : Int) + 1⟩ : Id) ∈ allIds := by decide +kernel
  have := key ⟨r.toNat, by omega⟩ ⟨(n - 1).toNat, by omega⟩
  simp only [Int.toNat_of_nonneg h1, Int.toNat_of_nonneg (show 0 ≤ n - 1 by omega), Int.sub_add_cancel] at this
  exact this
theorem risingI_asc (l : List Entry) (M : List Bool) : Asc (risingI l M) := allIds_asc.filter _
theorem mem_risingI {l : List Entry} (h : LogOk l) {M : List Bool} {x : Id} : x ∈ risingI l M ↔ ∃ k, k < l.length ∧ (nth l k).id = x ∧ nth M k = true := by
 unfold risingI
 rw [List.mem_filter, mem_allIds, tellB, Bool.and_eq_true, decide_eq_true_eq]
 constructor
 ·
  rintro ⟨h1, h2, h3⟩
  obtain ⟨k, g1, g2, g3⟩ := findE_spec h2
  rw [g1, Int.toNat_natCast] at h3
  exact ⟨k, g2, g3, h3⟩
 ·
  rintro ⟨k, hk, rfl, h3⟩
  rw [h.find hk, Int.toNat_natCast]
  exact ⟨h.id_ok hk, by omega, h3⟩
theorem nth_cut {M P : List Bool} {k : Nat} (h1 : k < M.length) (h2 : k < P.length) : nth (cutM M P) k = (nth M k && !nth P k) := by
 rw [nth_eq _ _ (by simp [cutM]; omega), nth_eq _ _ h1, nth_eq _ _ h2]; simp [cutM]
theorem headM_iff {l : List Entry} (h : LogOk l) {c : Int} {k : Nat} (hk : k < l.length) : ∀ n, n ≤ l.length → (nth (headM l c n) k = true ↔ meetB (nth l k).c c = true ∧ ∀ i, i < n → meetB (nth l i).c c = true → (nth l k).id ∉ pastOf l i)
 | 0, _ => by
  have : nth (headM l c 0) k = meetB (nth l k).c c := by
   simp only [headM, meetsL]
   rw [nth_eq _ _ (by simpa using hk)]; simp [nth_eq _ _ hk]
  rw [this]
  exact ⟨fun e => ⟨e, fun i hi => by omega⟩, fun e => e.1⟩
 | n + 1, hn => by
  have ih := headM_iff h (c := c) hk n (by omega)
  simp only [headM]
  split
  ·
   rename_i hm
   rw [nth_cut (by rw [headM_length]; exact hk) (by rw [marksOf_length]; exact hk), Bool.and_eq_true, ih, Bool.not_eq_true', ← Bool.not_eq_true, marksOf_iff h (by omega) hk]
   constructor
   ·
    rintro ⟨⟨h1, h2⟩, h3⟩
    refine ⟨h1, fun i hi hmi => ?_⟩
    by_cases e : i = n
    ·
     subst e; exact h3
    ·
     exact h2 i (by omega) hmi
   ·
    rintro ⟨h1, h2⟩
    exact ⟨⟨h1, fun i hi => h2 i (by omega)⟩, h2 n (by omega) hm⟩
  ·
   rename_i hm
   rw [ih]
   constructor
   ·
    rintro ⟨h1, h2⟩
    refine ⟨h1, fun i hi hmi => ?_⟩
    by_cases e : i = n
    ·
     subst e; exact (hm hmi).elim
    ·
     exact h2 i (by omega) hmi
   ·
    rintro ⟨h1, h2⟩
    exact ⟨h1, fun i hi => h2 i (by omega)⟩
theorem ids_nodup {l : List Entry} (h : LogOk l) : (l.map (·.id)).Nodup := by
 rw [List.Nodup, List.pairwise_map, List.pairwise_iff_getElem]
 intro i j hi hj hij e
 rw [← nth_eq l i hi, ← nth_eq l j hj] at e
 have := h.inj hi hj e
 omega
theorem headsC_nodup {l : List Entry} (h : LogOk l) (c : Int) : (headsC l c).Nodup := by
 refine List.Nodup.sublist (List.Sublist.map _ ?_) (ids_nodup h)
 exact List.filter_sublist.trans List.filter_sublist
theorem mem_withC {l : List Entry} {c : Int} {e : Entry} : e ∈ withC l c ↔ ∃ k, k < l.length ∧ nth l k = e ∧ meetB e.c c = true := by
 unfold withC
 rw [List.mem_filter]
 constructor
 ·
  rintro ⟨h1, h2⟩
  obtain ⟨k, hk, rfl⟩ := List.getElem_of_mem h1
  exact ⟨k, hk, nth_eq _ _ hk, h2⟩
 ·
  rintro ⟨k, hk, rfl, h2⟩
  exact ⟨by rw [nth_eq _ _ hk]; exact List.getElem_mem hk, h2⟩
theorem mem_headsC {l : List Entry} (h : LogOk l) {c : Int} {x : Id} : x ∈ headsC l c ↔ ∃ k, k < l.length ∧ (nth l k).id = x ∧ meetB (nth l k).c c = true ∧ ∀ i, i < l.length → meetB (nth l i).c c = true → x ∉ pastOf l i := by
 unfold headsC
 rw [List.mem_map]
 constructor
 ·
  rintro ⟨e, he, rfl⟩
  obtain ⟨h1, h2⟩ := List.mem_filter.1 he
  obtain ⟨k, hk, rfl, hm⟩ := mem_withC.1 h1
  refine ⟨k, hk, rfl, hm, fun i hi hmi hp => ?_⟩
  simp only [Bool.not_eq_true', underB, List.any_eq_false] at h2
  have := h2 (nth l i) (mem_withC.2 ⟨i, hi, rfl, hmi⟩)
  rw [pastAt_eq, h.find hi, Int.toNat_natCast] at this
  exact this (hasI_iff.2 hp)
 ·
  rintro ⟨k, hk, rfl, hm, hp⟩
  refine ⟨nth l k, List.mem_filter.2 ⟨mem_withC.2 ⟨k, hk, rfl, hm⟩, ?_⟩, rfl⟩
  simp only [Bool.not_eq_true', underB, List.any_eq_false]
  intro f hf
  obtain ⟨i, hi, rfl, hmi⟩ := mem_withC.1 hf
  rw [pastAt_eq, h.find hi, Int.toNat_natCast]
  exact fun hh => hp i hi hmi (hasI_iff.1 hh)
theorem heads_eq {l : List Entry} (h : LogOk l) (c : Int) : headsR l c = sortI (headsC l c) := by
 refine asc_ext (risingI_asc _ _) (sortI_asc (headsC_nodup h c)) fun x => ?_
 rw [headsR, mem_risingI h, sortI_mem, mem_headsC h]
 constructor
 ·
  rintro ⟨k, hk, rfl, hm⟩
  obtain ⟨h1, h2⟩ := (headM_iff h hk l.length (Nat.le_refl _)).1 hm
  exact ⟨k, hk, rfl, h1, h2⟩
 ·
  rintro ⟨k, hk, rfl, hm, hp⟩
  exact ⟨k, hk, rfl, (headM_iff h hk l.length (Nat.le_refl _)).2 ⟨hm, hp⟩⟩
end Go.Proofs.YtkgobnnkcnnfhaaGreat
/- Players of a log: contracts. -/
namespace Go.Proofs.YtkgobnnkcnnfhaaGreat
set_option linter.unusedSimpArgs false
set_option linter.unusedVariables false
open Go.RowKit
theorem cloneI_meets (l : List Id) (hb : l.length ≤ 1000000000) : Meets Tryz.prog 59 [.list (l.map cId)] [] (.list (l.map cId)) [] := by
 refine Meets.of_walk Tryz.func59 Tryz.ntmps59 low59 res59 (by simp) fun x hx => ?_
 simp only [go_sem, Nat.reduceLT, Nat.reduceAdd, Nat.reduceEqDiff, Nat.reduceLeDiff, Nat.reduceSub, Nat.reduceMul, Int.reduceEq, reduceIte, L59, R59]
 refine ops_isnil rfl fun b hb' => ?_
 cases b
 ·
  simp only [go_sem, Nat.reduceLT, Nat.reduceAdd, Nat.reduceEqDiff, Nat.reduceLeDiff, Nat.reduceSub, Nat.reduceMul, Int.reduceEq, reduceIte]
  rw [app_arr rfl rfl (by simp [cId]) (by simp; omega)]
  simp only [go_sem, Nat.reduceLT, Nat.reduceAdd, Nat.reduceEqDiff, Nat.reduceLeDiff, Nat.reduceSub, Nat.reduceMul, Int.reduceEq, reduceIte]
  refine ret_pure hx ?_
  simp [go_sem, Nat.reduceLT, Nat.reduceAdd, Nat.reduceEqDiff, Nat.reduceLeDiff, Nat.reduceSub, Nat.reduceMul, Int.reduceEq, reduceIte, L59, R59, pos, frzAt]
 ·
  simp only [go_sem, Nat.reduceLT, Nat.reduceAdd, Nat.reduceEqDiff, Nat.reduceLeDiff, Nat.reduceSub, Nat.reduceMul, Int.reduceEq, reduceIte]
  have : l = [] := by simpa using hb' rfl
  subst this
  refine ret_pure hx ?_
  simp [go_sem, Nat.reduceLT, Nat.reduceAdd, Nat.reduceEqDiff, Nat.reduceLeDiff, Nat.reduceSub, Nat.reduceMul, Int.reduceEq, reduceIte, L59, R59]
def blkB (l : List Entry) (out : List Id) (y : Id) (e : Entry) : Bool := hasI (pastAt (pasts l) l y) e.id && !hasI out e.id
def mayB (l : List Entry) (c : Int) (out : List Id) (y : Id) : Bool := !(withC l c).any (blkB l out y)
end Go.Proofs.YtkgobnnkcnnfhaaGreat
/- Plain laws of orders: what comes next, and what comes at all. No program in sight. -/
namespace Go.Proofs.YtkgobnnkcnnfhaaGreat
def candB (l : List Entry) (c : Int) (out : List Id) (x : Id) : Bool := decide (0 ≤ findE l x) && meetB (nth l (findE l x).toNat).c c && !hasI out x && mayB l c out x
def nextR (l : List Entry) (c : Int) (out : List Id) : Option Id := allIds.find? (candB l c out)
def mOut (l : List Entry) (c : Int) (out : List Id) : Nat := (withC l c).countP fun e => !hasI out e.id
def moreN (l : List Entry) (c : Int) : Nat → List Id → List Id
 | 0, out => out
 | n + 1, out => match nextR l c out with
  | some x => moreN l c n (out ++ [x])
  | none => out
def more (l : List Entry) (c : Int) (out : List Id) : List Id := moreN l c (mOut l c out) out
end Go.Proofs.YtkgobnnkcnnfhaaGreat
/- A loop whose objects change places: what stays is chosen anew in each round. -/
namespace Go.Proofs.YtkgobnnkcnnfhaaGreat
open Go.RowKit
section
variable {P : Program} {x : Cx} {nt : Nat} {st : St}
end
end Go.Proofs.YtkgobnnkcnnfhaaGreat
/- Orders: contracts. -/
namespace Go.Proofs.YtkgobnnkcnnfhaaGreat
set_option linter.unusedSimpArgs false
set_option linter.unusedVariables false
open Go.RowKit
structure SomeOk (l : List Entry) (ids : List Id) : Prop where
 there : ∀ x ∈ ids, 0 ≤ findE l x
 once : ids.Nodup
end Go.Proofs.YtkgobnnkcnnfhaaGreat
/- order.Begun, Is, More, First: contracts. -/
namespace Go.Proofs.YtkgobnnkcnnfhaaGreat
set_option linter.unusedSimpArgs false
set_option linter.unusedVariables false
open Go.RowKit
end Go.Proofs.YtkgobnnkcnnfhaaGreat
/- Orders in the law text's words: contracts. -/
namespace Go.Proofs.YtkgobnnkcnnfhaaGreat
set_option linter.unusedSimpArgs false
set_option linter.unusedVariables false
open Go.RowKit
theorem nthM {α : Type} [Inhabited α] {l : List α} {k : Nat} (h : k < l.length) : nth l k ∈ l := by rw [nth_eq _ _ h]; exact List.getElem_mem h
end Go.Proofs.YtkgobnnkcnnfhaaGreat
/- All that comes, in the law text's words: a contract. -/
namespace Go.Proofs.YtkgobnnkcnnfhaaGreat
set_option linter.unusedSimpArgs false
set_option linter.unusedVariables false
open Go.RowKit
end Go.Proofs.YtkgobnnkcnnfhaaGreat
/- Sites: copies of one's own, those that wait and are ready: contracts. -/
namespace Go.Proofs.YtkgobnnkcnnfhaaGreat
set_option linter.unusedSimpArgs false
set_option linter.unusedVariables false
open Go.RowKit
def cSi (r : Int) (lg ws : List Entry) : List PV := [.int .i64 r, .list (lg.map cE), .list (ws.map cE)]
def fitE (l : List Entry) : Prop := ∀ e ∈ l, (e.id.r = 0 ∨ e.id.r = 1) ∧ e.ls.length ≤ 1000000
theorem fit_reg {l : List Entry} (h : fitE l) : okReg l := fun e he => (h e he).1
theorem insIdx_mapE {α β : Type} (f : α → β) (w : α) : ∀ (ws : List α) (i : Nat), (ws.map f).insertIdx i (f w) = (ws.insertIdx i w).map f
 | [], 0 => rfl
 | [], _ + 1 => rfl
 | _ :: _, 0 => rfl
 | y :: ws, i + 1 => by
  simp only [List.map_cons, List.insertIdx_succ_cons]
  rw [insIdx_mapE f w ws i]
theorem eraseIdx_mapE {α β : Type} (f : α → β) : ∀ (ws : List α) (i : Nat), (ws.map f).eraseIdx i = (ws.eraseIdx i).map f
 | [], _ => rfl
 | _ :: _, 0 => rfl
 | y :: ws, i + 1 => by
  simp only [List.map_cons, List.eraseIdx_cons_succ]
  rw [eraseIdx_mapE f ws i]
theorem entOwn_meets (e : Entry) (hb : e.ls.length ≤ 1000000) : Meets Tryz.prog 37 [.agg (cE e)] [] (.agg (cE e)) [] := by
 refine Meets.of_walk Tryz.func37 Tryz.ntmps37 low37 res37 (by simp) fun x hx => ?_
 simp only [go_sem, Nat.reduceLT, Nat.reduceAdd, Nat.reduceEqDiff, Nat.reduceLeDiff, Nat.reduceSub, Nat.reduceMul, Int.reduceEq, reduceIte, L37, R37, cE]
 refine ops_call (.pureE (cloneI_meets e.ls (by omega)) (by simp [go_sem, Nat.reduceLT, Nat.reduceAdd, Nat.reduceEqDiff, Nat.reduceLeDiff, Nat.reduceSub, Nat.reduceMul, Int.reduceEq, reduceIte])) ?_
 simp only [go_sem, Nat.reduceLT, Nat.reduceAdd, Nat.reduceEqDiff, Nat.reduceLeDiff, Nat.reduceSub, Nat.reduceMul, Int.reduceEq, reduceIte, cE]
 refine ret_pure hx ?_
 simp [go_sem, Nat.reduceLT, Nat.reduceAdd, Nat.reduceEqDiff, Nat.reduceLeDiff, Nat.reduceSub, Nat.reduceMul, Int.reduceEq, reduceIte, L37, R37, cE]
theorem siEntries_meets (l : List Entry) (hl : l.length ≤ 1000000) (hf : fitE l) : Meets Tryz.prog 58 [.list (l.map cE)] [] (.arr 0 l.length) [.arr l.length true false 53 5 (l.map cE)] := by
 refine Meets.of_walk Tryz.func58 Tryz.ntmps58 low58 res58 (by simp) fun x hx => ?_
 simp only [go_sem, Nat.reduceLT, Nat.reduceAdd, Nat.reduceEqDiff, Nat.reduceLeDiff, Nat.reduceSub, Nat.reduceMul, Int.reduceEq, reduceIte, L58, R58]
 refine W_weak (weak_own 3 0 53 5 true false rfl (by omega)) ?_
 rw [put_mk]
 refine loop_inv [3, 6, 7, 8] 1 (fun m st => ∃ k : Nat, k + m = l.length ∧
  st = ⟨mkE .top [(3, .arr 0 k), (6, .list (l.map cE)), (7, .int .i64 l.length), (8, .int .i64 k)], [.arr k true false 53 5 ((l.take k).map cE)]⟩) l.length (by simp [hx]) (by simp) ?_ ?_
 ·
  refine ⟨0, by omega, ?_⟩
  simp [trim_mk, go_sem, Nat.reduceLT, Nat.reduceAdd, Nat.reduceEqDiff, Nat.reduceLeDiff, Nat.reduceSub, Nat.reduceMul, Int.reduceEq, reduceIte, subHeap, renObj, pos, List.range_succ]
 ·
  rintro m st ⟨k, hk, rfl⟩
  by_cases hlt : k < l.length
  ·
   have hg : l[k]? = some (nth l k) := nth_get? _ _ hlt
   have wk := i64_up (k := k) (by omega)
   simp only [go_sem, Nat.reduceLT, Nat.reduceAdd, Nat.reduceEqDiff, Nat.reduceLeDiff, Nat.reduceSub, Nat.reduceMul, Int.reduceEq, reduceIte, hlt, hg, cE]
   refine ops_call (.pureE (entOwn_meets (nth l k) (hf _ (nthM hlt)).2) (by simp [go_sem, Nat.reduceLT, Nat.reduceAdd, Nat.reduceEqDiff, Nat.reduceLeDiff, Nat.reduceSub, Nat.reduceMul, Int.reduceEq, reduceIte, cE])) ?_
   simp only [go_sem, Nat.reduceLT, Nat.reduceAdd, Nat.reduceEqDiff, Nat.reduceLeDiff, Nat.reduceSub, Nat.reduceMul, Int.reduceEq, reduceIte, cE]
   rw [app_arr rfl rfl (by simp) (by simp; omega)]
   simp only [go_sem, Nat.reduceLT, Nat.reduceAdd, Nat.reduceEqDiff, Nat.reduceLeDiff, Nat.reduceSub, Nat.reduceMul, Int.reduceEq, reduceIte, wk]
   have htk : l.take (k + 1) = l.take k ++ [nth l k] := by rw [List.take_succ_eq_append_getElem hlt, nth_eq _ _ hlt]
   refine ⟨by simp, m - 1, by omega, k + 1, by omega, ?_⟩
   simp [trim_mk, go_sem, Nat.reduceLT, Nat.reduceAdd, Nat.reduceEqDiff, Nat.reduceLeDiff, Nat.reduceSub, Nat.reduceMul, Int.reduceEq, reduceIte, subHeap, renObj, pos, List.range_succ, htk, cE]
  ·
   obtain rfl : k = l.length := by omega
   rw [List.take_length]
   simp only [go_sem, Nat.reduceLT, Nat.reduceAdd, Nat.reduceEqDiff, Nat.reduceLeDiff, Nat.reduceSub, Nat.reduceMul, Int.reduceEq, reduceIte, hlt]
   refine ret_keep [0] (by simp) (by simp [hx]) (by simp [hx]) ?_ ?_
   ·
    simp [go_sem, Nat.reduceLT, Nat.reduceAdd, Nat.reduceEqDiff, Nat.reduceLeDiff, Nat.reduceSub, Nat.reduceMul, Int.reduceEq, reduceIte, L58, R58, hx, pos]
   ·
    simp [subHeap, renObj, hx, pos]
theorem siOwn_meets (r : Int) (lg ws : List Entry) (h1 : lg.length ≤ 1000000) (h2 : ws.length ≤ 1000000) (hf1 : fitE lg) (hf2 : fitE ws) : Meets Tryz.prog 36 [.agg (cSi r lg ws)] [] (.agg [.int .i64 r, .arr 0 lg.length, .arr 1 ws.length])
    [.arr lg.length true false 53 5 (lg.map cE), .arr ws.length true false 53 5 (ws.map cE)] := by
  refine Meets.of_walk Tryz.func36 Tryz.ntmps36 low36 res36 (by simp) fun x hx => ?_
  simp only [go_sem, Nat.reduceLT, Nat.reduceAdd, Nat.reduceEqDiff, Nat.reduceLeDiff, Nat.reduceSub, Nat.reduceMul, Int.reduceEq, reduceIte, L36, R36, cSi]
  refine ops_call2 (r := .arr 2 lg.length) (siEntries_meets lg h1 hf1) rfl rfl (by simp [go_sem, Nat.reduceLT, Nat.reduceAdd, Nat.reduceEqDiff, Nat.reduceLeDiff, Nat.reduceSub, Nat.reduceMul, Int.reduceEq, reduceIte]) rfl ?_
  simp only [go_sem, Nat.reduceLT, Nat.reduceAdd, Nat.reduceEqDiff, Nat.reduceLeDiff, Nat.reduceSub, Nat.reduceMul, Int.reduceEq, reduceIte, cSi]
  refine ops_call2 (r := .arr 3 ws.length) (siEntries_meets ws h2 hf2) rfl rfl (by simp [go_sem, Nat.reduceLT, Nat.reduceAdd, Nat.reduceEqDiff, Nat.reduceLeDiff, Nat.reduceSub, Nat.reduceMul, Int.reduceEq, reduceIte]) rfl ?_
  simp only [go_sem, Nat.reduceLT, Nat.reduceAdd, Nat.reduceEqDiff, Nat.reduceLeDiff, Nat.reduceSub, Nat.reduceMul, Int.reduceEq, reduceIte, cSi]
  repeat refine ⟨rfl, ?_⟩
  refine ret_keep [2, 3] (by simp) (by simp [hx]) (by simp [hx]) ?_ ?_
  · simp [go_sem, Nat.reduceLT, Nat.reduceAdd, Nat.reduceEqDiff, Nat.reduceLeDiff, Nat.reduceSub, Nat.reduceMul, Int.reduceEq, reduceIte, L36, R36, hx, pos]
  · simp [subHeap, renObj, hx, pos, go_sem, Nat.reduceLT, Nat.reduceAdd, Nat.reduceEqDiff, Nat.reduceLeDiff, Nat.reduceSub, Nat.reduceMul, Int.reduceEq, reduceIte]
def hSi (a b : Nat) (r : Int) (lg ws : List Entry) : List AObj := [.box [.int .i64 r, .arr 1 a, .arr 2 b], .arr a true false 53 5 (lg.map cE), .arr b true false 53 5 (ws.map cE)]
def rdyI (lg ws : List Entry) : Int := idxF (readyB lg) ws 0
def settleN : Nat → List Entry → List Entry → List Entry × List Entry
 | 0, lg, ws => (lg, ws)
 | k + 1, lg, ws => if 0 ≤ rdyI lg ws then settleN k (lg ++ [nth ws (rdyI lg ws).toNat]) (ws.eraseIdx (rdyI lg ws).toNat) else (lg, ws)
def settled (lg ws : List Entry) : List Entry × List Entry := settleN ws.length lg ws
theorem rdyI_lt {lg ws : List Entry} (h : 0 ≤ rdyI lg ws) : (rdyI lg ws).toNat < ws.length := by
 have h2 : ∀ (l : List Entry) (k : Nat), (k : Int) ≤ idxF (readyB lg) l k → idxF (readyB lg) l k < (k + l.length : Nat) := by
  intro l
  induction l with
  | nil => intro k hk; simp [idxF] at hk; omega
  | cons e l ih =>
   intro k hk
   rw [idxF] at hk ⊢
   split
   ·
    simp; omega
   ·
    rename_i h0
    rw [if_neg h0] at hk
    rcases idxF_ge (readyB lg) l (k + 1) with ⟨a, -⟩ | ⟨a, -⟩
    ·
     rw [a] at hk; omega
    ·
     have := ih (k + 1) a
     simp only [List.length_cons]
     omega
 have := h2 ws 0 (by simpa [rdyI] using h)
 simp only [Nat.zero_add] at this
 unfold rdyI at h ⊢
 omega
theorem settled_step {lg ws : List Entry} (h : 0 ≤ rdyI lg ws) : settled lg ws = settled (lg ++ [nth ws (rdyI lg ws).toNat]) (ws.eraseIdx (rdyI lg ws).toNat) := by
 have hl := rdyI_lt h
 unfold settled
 rw [List.length_eraseIdx, if_pos hl]
 obtain ⟨m, hm⟩ : ∃ m, ws.length = m + 1 := ⟨ws.length - 1, by omega⟩
 rw [hm, settleN, if_pos h, Nat.add_sub_cancel]
theorem settled_end {lg ws : List Entry} (h : ¬ 0 ≤ rdyI lg ws) : settled lg ws = (lg, ws) := by
 unfold settled
 cases hl : ws.length with
 | zero => rfl
 | succ m => rw [settleN, if_neg h]
theorem settleN_sum : ∀ (k : Nat) (lg ws : List Entry), (settleN k lg ws).1.length + (settleN k lg ws).2.length = lg.length + ws.length ∧ (settleN k lg ws).2.length ≤ ws.length
 | 0, lg, ws => ⟨rfl, Nat.le_refl _⟩
 | k + 1, lg, ws => by
  rw [settleN]
  split
  ·
   rename_i h
   have hl := rdyI_lt h
   obtain ⟨a, b⟩ := settleN_sum k (lg ++ [nth ws (rdyI lg ws).toNat]) (ws.eraseIdx (rdyI lg ws).toNat)
   rw [List.length_eraseIdx, if_pos hl] at a b
   simp only [List.length_append, List.length_cons, List.length_nil] at a
   omega
  ·
   exact ⟨rfl, Nat.le_refl _⟩
theorem settled_sum (lg ws : List Entry) : (settled lg ws).1.length + (settled lg ws).2.length = lg.length + ws.length ∧ (settled lg ws).2.length ≤ ws.length := settleN_sum _ _ _
theorem fit_app {lg : List Entry} {e : Entry} (h : fitE lg) (he : (e.id.r = 0 ∨ e.id.r = 1) ∧ e.ls.length ≤ 1000000) : fitE (lg ++ [e]) := fun x hx => by
 rcases List.mem_append.1 hx with h1 | h1
 ·
  exact h x h1
 ·
  simp at h1; subst h1; exact he
theorem fit_erase {ws : List Entry} (h : fitE ws) (i : Nat) : fitE (ws.eraseIdx i) := fun x hx => h x (List.mem_of_mem_eraseIdx hx)
theorem end_keep {x : Cx} {nt : Nat} {lrs : List LRes} {r : PV} {Hs' : List AObj} {st : St} (keep : List Nat) (hnd : keep.Nodup) (hlt : ∀ k ∈ keep, x.H0.length ≤ k ∧ k < st.heap.length) (hle : x.H0.length ≤ st.heap.length)
    (h : (evalRes st lrs).map (fun ps => renT true (pos (List.range x.H0.length ++ keep)) (frzAt true st.heap) (tupOf ps)) = some r)
    (h2 : subHeap (pos (List.range x.H0.length ++ keep)) (frzAt true st.heap) st.heap (List.range x.H0.length ++ keep) = Hs') : retQ x nt lrs r Hs' .normal st := by
  obtain ⟨ps, g1, g2⟩ := Option.map_eq_some_iff.1 h
  exact ⟨st, keep, Weak.refl _ _ _, ps, g1, hnd, hlt, hle, g2.symm, h2.symm⟩
theorem settle1_meets (r : Int) (lg ws : List Entry) (e : Entry) (hl : lg.length ≤ 1000000) (hf : fitE lg) (he : e.id.r = 0 ∨ e.id.r = 1) (hls : e.ls.length ≤ 1000000) : Meets Tryz.prog 86 [.agg (cE e), .rptr [.rptr (cSi r lg ws)]] [] (.bool (readyB lg e)) [] := by
 refine Meets.of_walk Tryz.func86 Tryz.ntmps86 low86 res86 (by simp) fun x hx => ?_
 simp only [go_sem, Nat.reduceLT, Nat.reduceAdd, Nat.reduceEqDiff, Nat.reduceLeDiff, Nat.reduceSub, Nat.reduceMul, Int.reduceEq, reduceIte, L86, R86, cE, cSi]
 refine ops_call (.pureE (ready_meets lg e (fit_reg hf) (by omega) he (by omega)) (by simp [go_sem, Nat.reduceLT, Nat.reduceAdd, Nat.reduceEqDiff, Nat.reduceLeDiff, Nat.reduceSub, Nat.reduceMul, Int.reduceEq, reduceIte, cE])) ?_
 simp only [go_sem, Nat.reduceLT, Nat.reduceAdd, Nat.reduceEqDiff, Nat.reduceLeDiff, Nat.reduceSub, Nat.reduceMul, Int.reduceEq, reduceIte]
 repeat refine ⟨rfl, ?_⟩
 refine end_pure hx ?_
 simp [go_sem, Nat.reduceLT, Nat.reduceAdd, Nat.reduceEqDiff, Nat.reduceLeDiff, Nat.reduceSub, Nat.reduceMul, Int.reduceEq, reduceIte, L86, R86]
theorem rdyI_meets (r : Int) (lg ws : List Entry) (hl : lg.length ≤ 1000000) (hw : ws.length ≤ 1000000) (hf : fitE lg) (hf2 : fitE ws) :
    Meets Tryz.prog 54 [.list (ws.map cE), .clo 86 [.rptr [.rptr (cSi r lg ws)]]] [] (.int .i64 (rdyI lg ws)) [] :=
  indexE_meets ws 86 [.rptr [.rptr (cSi r lg ws)]] [] (readyB lg) (by kernel_rfl) (by omega) ⟨by simp [renLeaf], by simp [ren, renCell, renLeaf], by simp [subHeap], by simp [merge], by simp [subHeap]⟩
    fun e he => settle1_meets r lg ws e hl hf (hf2 e he).1 (hf2 e he).2
set_option maxHeartbeats 2000000 in
theorem settle_meets (a b : Nat) (r : Int) (lg ws : List Entry) (h1 : lg.length + ws.length ≤ 1000000) (hf1 : fitE lg) (hf2 : fitE ws) :
    Meets Tryz.prog 78 [.ptr 0 0] (hSi a b r lg ws) (.tup []) (hSi (a + (ws.length - (settled lg ws).2.length)) (b + (ws.length - (settled lg ws).2.length)) r (settled lg ws).1 (settled lg ws).2) := by
  refine Meets.of_walk Tryz.func78 Tryz.ntmps78 low78 res78 (by simp) fun x hx => ?_
  simp only [go_sem, Nat.reduceLT, Nat.reduceAdd, Nat.reduceEqDiff, Nat.reduceLeDiff, Nat.reduceSub, Nat.reduceMul, Int.reduceEq, reduceIte, L78, R78, hSi]
  refine ops_call (.lookE (rdyI_meets r lg ws (by omega) (by omega) hf1 hf2) rfl (by simp [lookF, lookN, go_sem, Nat.reduceLT, Nat.reduceAdd, Nat.reduceEqDiff, Nat.reduceLeDiff, Nat.reduceSub, Nat.reduceMul, Int.reduceEq, reduceIte, frzAt, pos, cSi])) ?_
  simp only [go_sem, Nat.reduceLT, Nat.reduceAdd, Nat.reduceEqDiff, Nat.reduceLeDiff, Nat.reduceSub, Nat.reduceMul, Int.reduceEq, reduceIte]
  refine loop_inv [1, 2, 3] 4 (fun m st => ∃ (k : Nat) (us vs : List Entry), vs.length = m ∧ m + k = ws.length ∧ us.length = lg.length + k ∧ fitE us ∧ fitE vs ∧ settled us vs = settled lg ws ∧
    st = ⟨mkE .top [(1, .ptr 3 0), (2, .clo 86 [.ptr 3 0]), (3, .int .i64 (rdyI us vs))], hSi (a + k) (b + k) r us vs ++ [.box [.ptr 0 0]]⟩) ws.length (by simp [hx, hSi]) (by simp) ?_ ?_
  · refine ⟨0, lg, ws, rfl, rfl, rfl, hf1, hf2, rfl, ?_⟩
    simp [trim_mk, go_sem, Nat.reduceLT, Nat.reduceAdd, Nat.reduceEqDiff, Nat.reduceLeDiff, Nat.reduceSub, Nat.reduceMul, Int.reduceEq, reduceIte, subHeap, renObj, renCell, renLeaf, pos, List.range_succ, hSi]
  · rintro m st ⟨k, us, vs, hm, hmk, hul, hfu, hfv, hse, rfl⟩
    by_cases hf : 0 ≤ rdyI us vs
    · have hql := rdyI_lt hf
      rw [settled_step hf] at hse
      obtain ⟨q, hq⟩ : ∃ q : Nat, rdyI us vs = q := ⟨(rdyI us vs).toNat, by omega⟩
      rw [hq, Int.toNat_natCast] at hql hse
      have hgq : vs[q]? = some (nth vs q) := nth_get? _ _ hql
      have wq := i64_up (k := q) (by omega)
      have hfe := hfv _ (nthM hql)
      simp only [go_sem, Nat.reduceLT, Nat.reduceAdd, Nat.reduceEqDiff, Nat.reduceLeDiff, Nat.reduceSub, Nat.reduceMul, Int.reduceEq, reduceIte, hSi, hq, hql, hgq, cE]
      rw [app_arr rfl rfl (by simp) (by simp; omega)]
      have hce : List.map cE us ++ [[PV.int .i64 (nth vs q).id.r, .int .i64 (nth vs q).id.n, .int .i64 (nth vs q).c, .str (nth vs q).t, .list ((nth vs q).ls.map cId)]] = (us ++ [nth vs q]).map cE := by simp [cE]
      simp only [go_sem, Nat.reduceLT, Nat.reduceAdd, Nat.reduceEqDiff, Nat.reduceLeDiff, Nat.reduceSub, Nat.reduceMul, Int.reduceEq, reduceIte, hce]
      repeat refine ⟨rfl, ?_⟩
      simp only [go_sem, Nat.reduceLT, Nat.reduceAdd, Nat.reduceEqDiff, Nat.reduceLeDiff, Nat.reduceSub, Nat.reduceMul, Int.reduceEq, reduceIte, wq]
      refine ops_call1 2 (delE_meets (vs.map cE) (b + k) 53 q (by simpa using hql)) rfl rfl rfl rfl (by simp [go_sem, Nat.reduceLT, Nat.reduceAdd, Nat.reduceEqDiff, Nat.reduceLeDiff, Nat.reduceSub, Nat.reduceMul, Int.reduceEq, reduceIte]) (by simp [go_sem, Nat.reduceLT, Nat.reduceAdd, Nat.reduceEqDiff, Nat.reduceLeDiff, Nat.reduceSub, Nat.reduceMul, Int.reduceEq, reduceIte, pos]) rfl ?_
      rw [eraseIdx_mapE]
      have hle : (vs.eraseIdx q).length = vs.length - 1 := by rw [List.length_eraseIdx, if_pos hql]
      simp only [go_sem, Nat.reduceLT, Nat.reduceAdd, Nat.reduceEqDiff, Nat.reduceLeDiff, Nat.reduceSub, Nat.reduceMul, Int.reduceEq, reduceIte]
      repeat refine ⟨rfl, ?_⟩
      refine ops_call (.lookE (rdyI_meets r (us ++ [nth vs q]) (vs.eraseIdx q) (by simp; omega) (by omega) (fit_app hfu hfe) (fit_erase hfv q)) rfl (by simp [lookF, lookN, go_sem, Nat.reduceLT, Nat.reduceAdd, Nat.reduceEqDiff, Nat.reduceLeDiff, Nat.reduceSub, Nat.reduceMul, Int.reduceEq, reduceIte, frzAt, pos, cSi])) ?_
      simp only [go_sem, Nat.reduceLT, Nat.reduceAdd, Nat.reduceEqDiff, Nat.reduceLeDiff, Nat.reduceSub, Nat.reduceMul, Int.reduceEq, reduceIte]
      refine ⟨by simp, m - 1, by omega, k + 1, us ++ [nth vs q], vs.eraseIdx q, by omega, by omega, by simp; omega, fit_app hfu hfe, fit_erase hfv q, hse, ?_⟩
      simp [trim_mk, go_sem, Nat.reduceLT, Nat.reduceAdd, Nat.reduceEqDiff, Nat.reduceLeDiff, Nat.reduceSub, Nat.reduceMul, Int.reduceEq, reduceIte, subHeap, renObj, renCell, renLeaf, pos, List.range_succ, hSi, Nat.add_assoc]
    · rw [settled_end hf] at hse
      rw [← hse]
      have hk1 : ws.length - vs.length = k := by omega
      simp only [go_sem, Nat.reduceLT, Nat.reduceAdd, Nat.reduceEqDiff, Nat.reduceLeDiff, Nat.reduceSub, Nat.reduceMul, Int.reduceEq, reduceIte, hSi, hf, hk1]
      refine end_keep [] (by simp) (by simp) (by simp [hx, hSi]) ?_ ?_
      · simp [go_sem, Nat.reduceLT, Nat.reduceAdd, Nat.reduceEqDiff, Nat.reduceLeDiff, Nat.reduceSub, Nat.reduceMul, Int.reduceEq, reduceIte, L78, R78, hx, pos, hSi]
      · simp [subHeap, renObj, hx, pos, go_sem, Nat.reduceLT, Nat.reduceAdd, Nat.reduceEqDiff, Nat.reduceLeDiff, Nat.reduceSub, Nat.reduceMul, Int.reduceEq, reduceIte, hSi, List.range_succ]
end Go.Proofs.YtkgobnnkcnnfhaaGreat
/- Sites: New, Check: contracts. -/
namespace Go.Proofs.YtkgobnnkcnnfhaaGreat
set_option linter.unusedSimpArgs false
set_option linter.unusedVariables false
open Go.RowKit
def siBad (r : Int) (lg ws : List Entry) (k : Nat) : Bool := (decide (0 < k) && !lessB (nth ws (k - 1)).id (nth ws k).id) || decide ((nth ws k).id.r = r) || decide (0 ≤ findE lg (nth ws k).id) || readyB lg (nth ws k)
def siWait (r : Int) (lg ws : List Entry) (k : Nat) : Int := if checkEntry (nth ws k) ≠ 0 then checkEntry (nth ws k) else if siBad r lg ws k = true then 4 else 0
def siErr (r : Int) (lg ws : List Entry) : Int := if ¬ (r = 0 ∨ r = 1) then 3 else if checkLog lg ≠ 0 then checkLog lg else if 20 < ws.length then 2 else firstNZ (siWait r lg ws) ws.length
theorem siErr_ok {r : Int} {lg ws : List Entry} (h : siErr r lg ws = 0) : (r = 0 ∨ r = 1) ∧ LogOk lg ∧ ws.length ≤ 20 ∧ ∀ k, k < ws.length → checkEntry (nth ws k) = 0 ∧ siBad r lg ws k = false := by
 unfold siErr at h
 split at h
 ·
  cases h
 ·
  rename_i h1
  split at h
  ·
   rename_i h2; exact (h2 h).elim
  ·
   rename_i h2
   split at h
   ·
    cases h
   ·
    rename_i h3
    refine ⟨by omega, log_ok.1 (by simpa using h2), by omega, fun k hk => ?_⟩
    have := firstNZ_zero.1 h k hk
    unfold siWait at this
    split at this
    ·
     rename_i h4; exact (h4 this).elim
    ·
     rename_i h4
     split at this
     ·
      cases this
     ·
      rename_i h5
      exact ⟨by simpa using h4, by simpa using h5⟩
theorem check_fit {e : Entry} (h : checkEntry e = 0) : (e.id.r = 0 ∨ e.id.r = 1) ∧ e.ls.length ≤ 1000000 := by
 have := (check_ok_bounds h).2.2.2.1
 exact ⟨reg_of_check h, by omega⟩
theorem log_fit {lg : List Entry} (h : LogOk lg) : fitE lg := fun e he => by
 obtain ⟨k, hk, rfl⟩ := List.getElem_of_mem he
 rw [← nth_eq _ _ hk]
 exact check_fit (h.chk k hk)
theorem waits_fit {ws : List Entry} (h : ∀ k, k < ws.length → checkEntry (nth ws k) = 0) : fitE ws := fun e he => by
 obtain ⟨k, hk, rfl⟩ := List.getElem_of_mem he
 rw [← nth_eq _ _ hk]
 exact check_fit (h k hk)
set_option maxHeartbeats 4000000 in
theorem siCheck_meets (r : Int) (lg ws : List Entry) (hl : lg.length ≤ 9223372036854775806) (hw : ws.length ≤ 9223372036854775806) : Meets Tryz.prog 29 [.agg (cSi r lg ws)] [] (.int .i64 (siErr r lg ws)) [] := by
 refine Meets.of_walk Tryz.func29 Tryz.ntmps29 low29 res29 (by simp) fun x hx => ?_
 simp only [go_sem, Nat.reduceLT, Nat.reduceAdd, Nat.reduceEqDiff, Nat.reduceLeDiff, Nat.reduceSub, Nat.reduceMul, Int.reduceEq, reduceIte, L29, R29, cSi]
 by_cases h0 : r = 0
 ·
  have hr : r = 0 ∨ r = 1 := .inl h0
  have hd0 : decide (r = 0) = true := by simp [h0]
  have hd1 : True := trivial
  clear h0
  simp only [go_sem, Nat.reduceLT, Nat.reduceAdd, Nat.reduceEqDiff, Nat.reduceLeDiff, Nat.reduceSub, Nat.reduceMul, Int.reduceEq, reduceIte, hd0, hd1, cSi]
  refine ops_call (.pureE (dagCheck_meets lg hl) (by simp [go_sem, Nat.reduceLT, Nat.reduceAdd, Nat.reduceEqDiff, Nat.reduceLeDiff, Nat.reduceSub, Nat.reduceMul, Int.reduceEq, reduceIte])) ?_
  by_cases hlog : checkLog lg = 0
  ·
   have hok := log_ok.1 hlog
   have hlen := hok.len
   by_cases h20 : (20 : Int) < (ws.length : Int)
   ·
    have e : siErr r lg ws = 2 := by rw [siErr, if_neg (by simp [hr]), if_neg (by simp [hlog]), if_pos (by omega)]
    simp only [go_sem, Nat.reduceLT, Nat.reduceAdd, Nat.reduceEqDiff, Nat.reduceLeDiff, Nat.reduceSub, Nat.reduceMul, Int.reduceEq, reduceIte, hlog, h20, cSi]
    refine ret_pure hx ?_
    simp [go_sem, Nat.reduceLT, Nat.reduceAdd, Nat.reduceEqDiff, Nat.reduceLeDiff, Nat.reduceSub, Nat.reduceMul, Int.reduceEq, reduceIte, L29, R29, e]
   ·
    have e : siErr r lg ws = firstNZ (siWait r lg ws) ws.length := by rw [siErr, if_neg (by simp [hr]), if_neg (by simp [hlog]), if_neg (by omega)]
    simp only [go_sem, Nat.reduceLT, Nat.reduceAdd, Nat.reduceEqDiff, Nat.reduceLeDiff, Nat.reduceSub, Nat.reduceMul, Int.reduceEq, reduceIte, hlog, h20, cSi, e]
    refine loop_inv [1, 26, 27, 28] 1 (fun m st => ∃ k : Nat, k + m = ws.length ∧ firstNZ (siWait r lg ws) k = 0 ∧
     st = ⟨mkE .top [(1, .ptr 0 0), (26, .list (ws.map cE)), (27, .int .i64 ws.length), (28, .int .i64 k)], [.box (cSi r lg ws)]⟩) ws.length (by simp [hx]) (by simp) ?_ ?_
    ·
     refine ⟨0, by omega, rfl, ?_⟩
     simp [trim_mk, go_sem, Nat.reduceLT, Nat.reduceAdd, Nat.reduceEqDiff, Nat.reduceLeDiff, Nat.reduceSub, Nat.reduceMul, Int.reduceEq, reduceIte, subHeap, renObj, pos, List.range_succ, cSi]
    ·
     rintro m st ⟨k, hk, hz, rfl⟩
     by_cases hlt : k < ws.length
     ·
      have hg : ws[k]? = some (nth ws k) := nth_get? _ _ hlt
      have wk := i64_up (k := k) (by omega)
      have fin : ∀ q : Int, siWait r lg ws k = q → q ≠ 0 → firstNZ (siWait r lg ws) ws.length = q := fun q h1 h2 => by rw [firstNZ_hit hz (by rw [h1]; exact h2) hlt, h1]
      simp only [go_sem, Nat.reduceLT, Nat.reduceAdd, Nat.reduceEqDiff, Nat.reduceLeDiff, Nat.reduceSub, Nat.reduceMul, Int.reduceEq, reduceIte, hlt, hg, cE, cSi]
      refine ops_call (.pureE (check_meets (nth ws k)) (by simp [go_sem, Nat.reduceLT, Nat.reduceAdd, Nat.reduceEqDiff, Nat.reduceLeDiff, Nat.reduceSub, Nat.reduceMul, Int.reduceEq, reduceIte, cE])) ?_
      by_cases h1 : checkEntry (nth ws k) = 0
      ·
       have hfit := check_fit h1
       have hw1 : siWait r lg ws k = if siBad r lg ws k = true then 4 else 0 := by rw [siWait, if_neg (by simp [h1])]
       simp only [go_sem, Nat.reduceLT, Nat.reduceAdd, Nat.reduceEqDiff, Nat.reduceLeDiff, Nat.reduceSub, Nat.reduceMul, Int.reduceEq, reduceIte, h1, cE, cSi]
       by_cases hk0 : (0 : Int) < (k : Int)
       ·
        obtain ⟨k', rfl⟩ : ∃ k', k = k' + 1 := ⟨k - 1, by omega⟩
        have hwd : IntKind.i64.wrap (((k' + 1 : Nat) : Int) - 1) = (k' : Int) := by rw [IntKind.wrap_i64]; omega
        have hkl : k' < ws.length := by omega
        have hg' : ws[k']? = some (nth ws k') := nth_get? _ _ hkl
        simp only [go_sem, Nat.reduceLT, Nat.reduceAdd, Nat.reduceEqDiff, Nat.reduceLeDiff, Nat.reduceSub, Nat.reduceMul, Int.reduceEq, reduceIte, hk0, hwd, hkl, hg', cE, cSi]
        refine ops_call (.pureE (less_meets (nth ws k').id (nth ws (k' + 1)).id) (by simp [go_sem, Nat.reduceLT, Nat.reduceAdd, Nat.reduceEqDiff, Nat.reduceLeDiff, Nat.reduceSub, Nat.reduceMul, Int.reduceEq, reduceIte, cId])) ?_
        cases hle : lessB (nth ws k').id (nth ws (k' + 1)).id
        ·
         have hw2 : siWait r lg ws (k' + 1) = 4 := by rw [hw1, if_pos (by simp [siBad, hle])]
         simp only [go_sem, Nat.reduceLT, Nat.reduceAdd, Nat.reduceEqDiff, Nat.reduceLeDiff, Nat.reduceSub, Nat.reduceMul, Int.reduceEq, reduceIte]
         repeat refine ⟨rfl, ?_⟩
         refine ret_pure hx ?_
         simp [go_sem, Nat.reduceLT, Nat.reduceAdd, Nat.reduceEqDiff, Nat.reduceLeDiff, Nat.reduceSub, Nat.reduceMul, Int.reduceEq, reduceIte, L29, R29, fin 4 hw2 (by decide)]
        ·
         have hb1 : (decide (0 < k' + 1) && !lessB (nth ws (k' + 1 - 1)).id (nth ws (k' + 1)).id) = false := by simp [hle]
         cases hd2 : decide ((nth ws (k' + 1)).id.r = r)
         ·
          simp only [go_sem, Nat.reduceLT, Nat.reduceAdd, Nat.reduceEqDiff, Nat.reduceLeDiff, Nat.reduceSub, Nat.reduceMul, Int.reduceEq, reduceIte, hd2, cE, cSi]
          refine ops_call (.pureE (find_meets lg (nth ws (k' + 1)).id hl) (by simp [go_sem, Nat.reduceLT, Nat.reduceAdd, Nat.reduceEqDiff, Nat.reduceLeDiff, Nat.reduceSub, Nat.reduceMul, Int.reduceEq, reduceIte, cId])) ?_
          by_cases h3 : 0 ≤ findE lg (nth ws (k' + 1)).id
          ·
           have hw2 : siWait r lg ws (k' + 1) = 4 := by rw [hw1, if_pos (by simp [siBad, h3])]
           simp only [go_sem, Nat.reduceLT, Nat.reduceAdd, Nat.reduceEqDiff, Nat.reduceLeDiff, Nat.reduceSub, Nat.reduceMul, Int.reduceEq, reduceIte, h3]
           repeat refine ⟨rfl, ?_⟩
           refine ret_pure hx ?_
           simp [go_sem, Nat.reduceLT, Nat.reduceAdd, Nat.reduceEqDiff, Nat.reduceLeDiff, Nat.reduceSub, Nat.reduceMul, Int.reduceEq, reduceIte, L29, R29, fin 4 hw2 (by decide)]
          ·
           simp only [go_sem, Nat.reduceLT, Nat.reduceAdd, Nat.reduceEqDiff, Nat.reduceLeDiff, Nat.reduceSub, Nat.reduceMul, Int.reduceEq, reduceIte, h3, cE, cSi]
           refine ops_call (.pureE (ready_meets lg (nth ws (k' + 1)) hok.reg (by omega) hfit.1 (by have := hfit.2; omega)) (by simp [go_sem, Nat.reduceLT, Nat.reduceAdd, Nat.reduceEqDiff, Nat.reduceLeDiff, Nat.reduceSub, Nat.reduceMul, Int.reduceEq, reduceIte, cE])) ?_
           cases h4 : readyB lg (nth ws (k' + 1))
           ·
            have hw2 : siWait r lg ws (k' + 1) = 0 := by rw [hw1, if_neg (by rw [siBad, hb1, hd2, h4]; simp [h3])]
            simp only [go_sem, Nat.reduceLT, Nat.reduceAdd, Nat.reduceEqDiff, Nat.reduceLeDiff, Nat.reduceSub, Nat.reduceMul, Int.reduceEq, reduceIte, wk]
            repeat refine ⟨rfl, ?_⟩
            refine ⟨by simp, m - 1, by omega, k' + 1 + 1, by omega, firstNZ_succ hz hw2, ?_⟩
            simp [trim_mk, go_sem, Nat.reduceLT, Nat.reduceAdd, Nat.reduceEqDiff, Nat.reduceLeDiff, Nat.reduceSub, Nat.reduceMul, Int.reduceEq, reduceIte, subHeap, renObj, pos, List.range_succ, cSi]
           ·
            have hw2 : siWait r lg ws (k' + 1) = 4 := by rw [hw1, if_pos (by simp [siBad, h4])]
            simp only [go_sem, Nat.reduceLT, Nat.reduceAdd, Nat.reduceEqDiff, Nat.reduceLeDiff, Nat.reduceSub, Nat.reduceMul, Int.reduceEq, reduceIte]
            repeat refine ⟨rfl, ?_⟩
            refine ret_pure hx ?_
            simp [go_sem, Nat.reduceLT, Nat.reduceAdd, Nat.reduceEqDiff, Nat.reduceLeDiff, Nat.reduceSub, Nat.reduceMul, Int.reduceEq, reduceIte, L29, R29, fin 4 hw2 (by decide)]
         ·
          have hw2 : siWait r lg ws (k' + 1) = 4 := by rw [hw1, if_pos (by simp [siBad, hd2])]
          simp only [go_sem, Nat.reduceLT, Nat.reduceAdd, Nat.reduceEqDiff, Nat.reduceLeDiff, Nat.reduceSub, Nat.reduceMul, Int.reduceEq, reduceIte, hd2]
          repeat refine ⟨rfl, ?_⟩
          refine ret_pure hx ?_
          simp [go_sem, Nat.reduceLT, Nat.reduceAdd, Nat.reduceEqDiff, Nat.reduceLeDiff, Nat.reduceSub, Nat.reduceMul, Int.reduceEq, reduceIte, L29, R29, fin 4 hw2 (by decide)]
       ·
        have hkz : k = 0 := by omega
        have hb1 : (decide (0 < k) && !lessB (nth ws (k - 1)).id (nth ws k).id) = false := by simp [hkz]
        simp only [go_sem, Nat.reduceLT, Nat.reduceAdd, Nat.reduceEqDiff, Nat.reduceLeDiff, Nat.reduceSub, Nat.reduceMul, Int.reduceEq, reduceIte, hk0, cE, cSi]
        cases hd2 : decide ((nth ws (k)).id.r = r)
        ·
         simp only [go_sem, Nat.reduceLT, Nat.reduceAdd, Nat.reduceEqDiff, Nat.reduceLeDiff, Nat.reduceSub, Nat.reduceMul, Int.reduceEq, reduceIte, hd2, cE, cSi]
         refine ops_call (.pureE (find_meets lg (nth ws (k)).id hl) (by simp [go_sem, Nat.reduceLT, Nat.reduceAdd, Nat.reduceEqDiff, Nat.reduceLeDiff, Nat.reduceSub, Nat.reduceMul, Int.reduceEq, reduceIte, cId])) ?_
         by_cases h3 : 0 ≤ findE lg (nth ws (k)).id
         ·
          have hw2 : siWait r lg ws (k) = 4 := by rw [hw1, if_pos (by simp [siBad, h3])]
          simp only [go_sem, Nat.reduceLT, Nat.reduceAdd, Nat.reduceEqDiff, Nat.reduceLeDiff, Nat.reduceSub, Nat.reduceMul, Int.reduceEq, reduceIte, h3]
          repeat refine ⟨rfl, ?_⟩
          refine ret_pure hx ?_
          simp [go_sem, Nat.reduceLT, Nat.reduceAdd, Nat.reduceEqDiff, Nat.reduceLeDiff, Nat.reduceSub, Nat.reduceMul, Int.reduceEq, reduceIte, L29, R29, fin 4 hw2 (by decide)]
         ·
          simp only [go_sem, Nat.reduceLT, Nat.reduceAdd, Nat.reduceEqDiff, Nat.reduceLeDiff, Nat.reduceSub, Nat.reduceMul, Int.reduceEq, reduceIte, h3, cE, cSi]
          refine ops_call (.pureE (ready_meets lg (nth ws (k)) hok.reg (by omega) hfit.1 (by have := hfit.2; omega)) (by simp [go_sem, Nat.reduceLT, Nat.reduceAdd, Nat.reduceEqDiff, Nat.reduceLeDiff, Nat.reduceSub, Nat.reduceMul, Int.reduceEq, reduceIte, cE])) ?_
          cases h4 : readyB lg (nth ws (k))
          ·
           have hw2 : siWait r lg ws (k) = 0 := by rw [hw1, if_neg (by rw [siBad, hb1, hd2, h4]; simp [h3])]
           simp only [go_sem, Nat.reduceLT, Nat.reduceAdd, Nat.reduceEqDiff, Nat.reduceLeDiff, Nat.reduceSub, Nat.reduceMul, Int.reduceEq, reduceIte, wk]
           repeat refine ⟨rfl, ?_⟩
           refine ⟨by simp, m - 1, by omega, k + 1, by omega, firstNZ_succ hz hw2, ?_⟩
           simp [trim_mk, go_sem, Nat.reduceLT, Nat.reduceAdd, Nat.reduceEqDiff, Nat.reduceLeDiff, Nat.reduceSub, Nat.reduceMul, Int.reduceEq, reduceIte, subHeap, renObj, pos, List.range_succ, cSi]
          ·
           have hw2 : siWait r lg ws (k) = 4 := by rw [hw1, if_pos (by simp [siBad, h4])]
           simp only [go_sem, Nat.reduceLT, Nat.reduceAdd, Nat.reduceEqDiff, Nat.reduceLeDiff, Nat.reduceSub, Nat.reduceMul, Int.reduceEq, reduceIte]
           repeat refine ⟨rfl, ?_⟩
           refine ret_pure hx ?_
           simp [go_sem, Nat.reduceLT, Nat.reduceAdd, Nat.reduceEqDiff, Nat.reduceLeDiff, Nat.reduceSub, Nat.reduceMul, Int.reduceEq, reduceIte, L29, R29, fin 4 hw2 (by decide)]
        ·
         have hw2 : siWait r lg ws (k) = 4 := by rw [hw1, if_pos (by simp [siBad, hd2])]
         simp only [go_sem, Nat.reduceLT, Nat.reduceAdd, Nat.reduceEqDiff, Nat.reduceLeDiff, Nat.reduceSub, Nat.reduceMul, Int.reduceEq, reduceIte, hd2]
         repeat refine ⟨rfl, ?_⟩
         refine ret_pure hx ?_
         simp [go_sem, Nat.reduceLT, Nat.reduceAdd, Nat.reduceEqDiff, Nat.reduceLeDiff, Nat.reduceSub, Nat.reduceMul, Int.reduceEq, reduceIte, L29, R29, fin 4 hw2 (by decide)]
      ·
       have hw1 : siWait r lg ws k = checkEntry (nth ws k) := by rw [siWait, if_pos h1]
       simp only [go_sem, Nat.reduceLT, Nat.reduceAdd, Nat.reduceEqDiff, Nat.reduceLeDiff, Nat.reduceSub, Nat.reduceMul, Int.reduceEq, reduceIte, h1, cE, cSi]
       refine ret_pure hx ?_
       simp [go_sem, Nat.reduceLT, Nat.reduceAdd, Nat.reduceEqDiff, Nat.reduceLeDiff, Nat.reduceSub, Nat.reduceMul, Int.reduceEq, reduceIte, L29, R29, fin _ hw1 h1]
     ·
      obtain rfl : k = ws.length := by omega
      simp only [go_sem, Nat.reduceLT, Nat.reduceAdd, Nat.reduceEqDiff, Nat.reduceLeDiff, Nat.reduceSub, Nat.reduceMul, Int.reduceEq, reduceIte, hlt]
      refine ret_pure hx ?_
      simp [go_sem, Nat.reduceLT, Nat.reduceAdd, Nat.reduceEqDiff, Nat.reduceLeDiff, Nat.reduceSub, Nat.reduceMul, Int.reduceEq, reduceIte, L29, R29, hz]
  ·
   have e : siErr r lg ws = checkLog lg := by rw [siErr, if_neg (by simp [hr]), if_pos hlog]
   simp only [go_sem, Nat.reduceLT, Nat.reduceAdd, Nat.reduceEqDiff, Nat.reduceLeDiff, Nat.reduceSub, Nat.reduceMul, Int.reduceEq, reduceIte, hlog]
   refine ret_pure hx ?_
   simp [go_sem, Nat.reduceLT, Nat.reduceAdd, Nat.reduceEqDiff, Nat.reduceLeDiff, Nat.reduceSub, Nat.reduceMul, Int.reduceEq, reduceIte, L29, R29, e]
 ·
  have hd0 : decide (r = 0) = false := by simp [h0]
  by_cases h1 : r = 1
  ·
   have hr : r = 0 ∨ r = 1 := .inr h1
   have hd1 : decide (r = 1) = true := by simp [h1]
   clear h0 h1
   simp only [go_sem, Nat.reduceLT, Nat.reduceAdd, Nat.reduceEqDiff, Nat.reduceLeDiff, Nat.reduceSub, Nat.reduceMul, Int.reduceEq, reduceIte, hd0, hd1, cSi]
   refine ops_call (.pureE (dagCheck_meets lg hl) (by simp [go_sem, Nat.reduceLT, Nat.reduceAdd, Nat.reduceEqDiff, Nat.reduceLeDiff, Nat.reduceSub, Nat.reduceMul, Int.reduceEq, reduceIte])) ?_
   by_cases hlog : checkLog lg = 0
   ·
    have hok := log_ok.1 hlog
    have hlen := hok.len
    by_cases h20 : (20 : Int) < (ws.length : Int)
    ·
     have e : siErr r lg ws = 2 := by rw [siErr, if_neg (by simp [hr]), if_neg (by simp [hlog]), if_pos (by omega)]
     simp only [go_sem, Nat.reduceLT, Nat.reduceAdd, Nat.reduceEqDiff, Nat.reduceLeDiff, Nat.reduceSub, Nat.reduceMul, Int.reduceEq, reduceIte, hlog, h20, cSi]
     refine ret_pure hx ?_
     simp [go_sem, Nat.reduceLT, Nat.reduceAdd, Nat.reduceEqDiff, Nat.reduceLeDiff, Nat.reduceSub, Nat.reduceMul, Int.reduceEq, reduceIte, L29, R29, e]
    ·
     have e : siErr r lg ws = firstNZ (siWait r lg ws) ws.length := by rw [siErr, if_neg (by simp [hr]), if_neg (by simp [hlog]), if_neg (by omega)]
     simp only [go_sem, Nat.reduceLT, Nat.reduceAdd, Nat.reduceEqDiff, Nat.reduceLeDiff, Nat.reduceSub, Nat.reduceMul, Int.reduceEq, reduceIte, hlog, h20, cSi, e]
     refine loop_inv [1, 26, 27, 28] 1 (fun m st => ∃ k : Nat, k + m = ws.length ∧ firstNZ (siWait r lg ws) k = 0 ∧
      st = ⟨mkE .top [(1, .ptr 0 0), (26, .list (ws.map cE)), (27, .int .i64 ws.length), (28, .int .i64 k)], [.box (cSi r lg ws)]⟩) ws.length (by simp [hx]) (by simp) ?_ ?_
     ·
      refine ⟨0, by omega, rfl, ?_⟩
      simp [trim_mk, go_sem, Nat.reduceLT, Nat.reduceAdd, Nat.reduceEqDiff, Nat.reduceLeDiff, Nat.reduceSub, Nat.reduceMul, Int.reduceEq, reduceIte, subHeap, renObj, pos, List.range_succ, cSi]
     ·
      rintro m st ⟨k, hk, hz, rfl⟩
      by_cases hlt : k < ws.length
      ·
       have hg : ws[k]? = some (nth ws k) := nth_get? _ _ hlt
       have wk := i64_up (k := k) (by omega)
       have fin : ∀ q : Int, siWait r lg ws k = q → q ≠ 0 → firstNZ (siWait r lg ws) ws.length = q := fun q h1 h2 => by rw [firstNZ_hit hz (by rw [h1]; exact h2) hlt, h1]
       simp only [go_sem, Nat.reduceLT, Nat.reduceAdd, Nat.reduceEqDiff, Nat.reduceLeDiff, Nat.reduceSub, Nat.reduceMul, Int.reduceEq, reduceIte, hlt, hg, cE, cSi]
       refine ops_call (.pureE (check_meets (nth ws k)) (by simp [go_sem, Nat.reduceLT, Nat.reduceAdd, Nat.reduceEqDiff, Nat.reduceLeDiff, Nat.reduceSub, Nat.reduceMul, Int.reduceEq, reduceIte, cE])) ?_
       by_cases h1 : checkEntry (nth ws k) = 0
       ·
        have hfit := check_fit h1
        have hw1 : siWait r lg ws k = if siBad r lg ws k = true then 4 else 0 := by rw [siWait, if_neg (by simp [h1])]
        simp only [go_sem, Nat.reduceLT, Nat.reduceAdd, Nat.reduceEqDiff, Nat.reduceLeDiff, Nat.reduceSub, Nat.reduceMul, Int.reduceEq, reduceIte, h1, cE, cSi]
        by_cases hk0 : (0 : Int) < (k : Int)
        ·
         obtain ⟨k', rfl⟩ : ∃ k', k = k' + 1 := ⟨k - 1, by omega⟩
         have hwd : IntKind.i64.wrap (((k' + 1 : Nat) : Int) - 1) = (k' : Int) := by rw [IntKind.wrap_i64]; omega
         have hkl : k' < ws.length := by omega
         have hg' : ws[k']? = some (nth ws k') := nth_get? _ _ hkl
         simp only [go_sem, Nat.reduceLT, Nat.reduceAdd, Nat.reduceEqDiff, Nat.reduceLeDiff, Nat.reduceSub, Nat.reduceMul, Int.reduceEq, reduceIte, hk0, hwd, hkl, hg', cE, cSi]
         refine ops_call (.pureE (less_meets (nth ws k').id (nth ws (k' + 1)).id) (by simp [go_sem, Nat.reduceLT, Nat.reduceAdd, Nat.reduceEqDiff, Nat.reduceLeDiff, Nat.reduceSub, Nat.reduceMul, Int.reduceEq, reduceIte, cId])) ?_
         cases hle : lessB (nth ws k').id (nth ws (k' + 1)).id
         ·
          have hw2 : siWait r lg ws (k' + 1) = 4 := by rw [hw1, if_pos (by simp [siBad, hle])]
          simp only [go_sem, Nat.reduceLT, Nat.reduceAdd, Nat.reduceEqDiff, Nat.reduceLeDiff, Nat.reduceSub, Nat.reduceMul, Int.reduceEq, reduceIte]
          repeat refine ⟨rfl, ?_⟩
          refine ret_pure hx ?_
          simp [go_sem, Nat.reduceLT, Nat.reduceAdd, Nat.reduceEqDiff, Nat.reduceLeDiff, Nat.reduceSub, Nat.reduceMul, Int.reduceEq, reduceIte, L29, R29, fin 4 hw2 (by decide)]
         ·
          have hb1 : (decide (0 < k' + 1) && !lessB (nth ws (k' + 1 - 1)).id (nth ws (k' + 1)).id) = false := by simp [hle]
          cases hd2 : decide ((nth ws (k' + 1)).id.r = r)
          ·
           simp only [go_sem, Nat.reduceLT, Nat.reduceAdd, Nat.reduceEqDiff, Nat.reduceLeDiff, Nat.reduceSub, Nat.reduceMul, Int.reduceEq, reduceIte, hd2, cE, cSi]
           refine ops_call (.pureE (find_meets lg (nth ws (k' + 1)).id hl) (by simp [go_sem, Nat.reduceLT, Nat.reduceAdd, Nat.reduceEqDiff, Nat.reduceLeDiff, Nat.reduceSub, Nat.reduceMul, Int.reduceEq, reduceIte, cId])) ?_
           by_cases h3 : 0 ≤ findE lg (nth ws (k' + 1)).id
           ·
            have hw2 : siWait r lg ws (k' + 1) = 4 := by rw [hw1, if_pos (by simp [siBad, h3])]
            simp only [go_sem, Nat.reduceLT, Nat.reduceAdd, Nat.reduceEqDiff, Nat.reduceLeDiff, Nat.reduceSub, Nat.reduceMul, Int.reduceEq, reduceIte, h3]
            repeat refine ⟨rfl, ?_⟩
            refine ret_pure hx ?_
            simp [go_sem, Nat.reduceLT, Nat.reduceAdd, Nat.reduceEqDiff, Nat.reduceLeDiff, Nat.reduceSub, Nat.reduceMul, Int.reduceEq, reduceIte, L29, R29, fin 4 hw2 (by decide)]
           ·
            simp only [go_sem, Nat.reduceLT, Nat.reduceAdd, Nat.reduceEqDiff, Nat.reduceLeDiff, Nat.reduceSub, Nat.reduceMul, Int.reduceEq, reduceIte, h3, cE, cSi]
            refine ops_call (.pureE (ready_meets lg (nth ws (k' + 1)) hok.reg (by omega) hfit.1 (by have := hfit.2; omega)) (by simp [go_sem, Nat.reduceLT, Nat.reduceAdd, Nat.reduceEqDiff, Nat.reduceLeDiff, Nat.reduceSub, Nat.reduceMul, Int.reduceEq, reduceIte, cE])) ?_
            cases h4 : readyB lg (nth ws (k' + 1))
            ·
             have hw2 : siWait r lg ws (k' + 1) = 0 := by rw [hw1, if_neg (by rw [siBad, hb1, hd2, h4]; simp [h3])]
             simp only [go_sem, Nat.reduceLT, Nat.reduceAdd, Nat.reduceEqDiff, Nat.reduceLeDiff, Nat.reduceSub, Nat.reduceMul, Int.reduceEq, reduceIte, wk]
             repeat refine ⟨rfl, ?_⟩
             refine ⟨by simp, m - 1, by omega, k' + 1 + 1, by omega, firstNZ_succ hz hw2, ?_⟩
             simp [trim_mk, go_sem, Nat.reduceLT, Nat.reduceAdd, Nat.reduceEqDiff, Nat.reduceLeDiff, Nat.reduceSub, Nat.reduceMul, Int.reduceEq, reduceIte, subHeap, renObj, pos, List.range_succ, cSi]
            ·
             have hw2 : siWait r lg ws (k' + 1) = 4 := by rw [hw1, if_pos (by simp [siBad, h4])]
             simp only [go_sem, Nat.reduceLT, Nat.reduceAdd, Nat.reduceEqDiff, Nat.reduceLeDiff, Nat.reduceSub, Nat.reduceMul, Int.reduceEq, reduceIte]
             repeat refine ⟨rfl, ?_⟩
             refine ret_pure hx ?_
             simp [go_sem, Nat.reduceLT, Nat.reduceAdd, Nat.reduceEqDiff, Nat.reduceLeDiff, Nat.reduceSub, Nat.reduceMul, Int.reduceEq, reduceIte, L29, R29, fin 4 hw2 (by decide)]
          ·
           have hw2 : siWait r lg ws (k' + 1) = 4 := by rw [hw1, if_pos (by simp [siBad, hd2])]
           simp only [go_sem, Nat.reduceLT, Nat.reduceAdd, Nat.reduceEqDiff, Nat.reduceLeDiff, Nat.reduceSub, Nat.reduceMul, Int.reduceEq, reduceIte, hd2]
           repeat refine ⟨rfl, ?_⟩
           refine ret_pure hx ?_
           simp [go_sem, Nat.reduceLT, Nat.reduceAdd, Nat.reduceEqDiff, Nat.reduceLeDiff, Nat.reduceSub, Nat.reduceMul, Int.reduceEq, reduceIte, L29, R29, fin 4 hw2 (by decide)]
        ·
         have hkz : k = 0 := by omega
         have hb1 : (decide (0 < k) && !lessB (nth ws (k - 1)).id (nth ws k).id) = false := by simp [hkz]
         simp only [go_sem, Nat.reduceLT, Nat.reduceAdd, Nat.reduceEqDiff, Nat.reduceLeDiff, Nat.reduceSub, Nat.reduceMul, Int.reduceEq, reduceIte, hk0, cE, cSi]
         cases hd2 : decide ((nth ws (k)).id.r = r)
         ·
          simp only [go_sem, Nat.reduceLT, Nat.reduceAdd, Nat.reduceEqDiff, Nat.reduceLeDiff, Nat.reduceSub, Nat.reduceMul, Int.reduceEq, reduceIte, hd2, cE, cSi]
          refine ops_call (.pureE (find_meets lg (nth ws (k)).id hl) (by simp [go_sem, Nat.reduceLT, Nat.reduceAdd, Nat.reduceEqDiff, Nat.reduceLeDiff, Nat.reduceSub, Nat.reduceMul, Int.reduceEq, reduceIte, cId])) ?_
          by_cases h3 : 0 ≤ findE lg (nth ws (k)).id
          ·
           have hw2 : siWait r lg ws (k) = 4 := by rw [hw1, if_pos (by simp [siBad, h3])]
           simp only [go_sem, Nat.reduceLT, Nat.reduceAdd, Nat.reduceEqDiff, Nat.reduceLeDiff, Nat.reduceSub, Nat.reduceMul, Int.reduceEq, reduceIte, h3]
           repeat refine ⟨rfl, ?_⟩
           refine ret_pure hx ?_
           simp [go_sem, Nat.reduceLT, Nat.reduceAdd, Nat.reduceEqDiff, Nat.reduceLeDiff, Nat.reduceSub, Nat.reduceMul, Int.reduceEq, reduceIte, L29, R29, fin 4 hw2 (by decide)]
          ·
           simp only [go_sem, Nat.reduceLT, Nat.reduceAdd, Nat.reduceEqDiff, Nat.reduceLeDiff, Nat.reduceSub, Nat.reduceMul, Int.reduceEq, reduceIte, h3, cE, cSi]
           refine ops_call (.pureE (ready_meets lg (nth ws (k)) hok.reg (by omega) hfit.1 (by have := hfit.2; omega)) (by simp [go_sem, Nat.reduceLT, Nat.reduceAdd, Nat.reduceEqDiff, Nat.reduceLeDiff, Nat.reduceSub, Nat.reduceMul, Int.reduceEq, reduceIte, cE])) ?_
           cases h4 : readyB lg (nth ws (k))
           ·
            have hw2 : siWait r lg ws (k) = 0 := by rw [hw1, if_neg (by rw [siBad, hb1, hd2, h4]; simp [h3])]
            simp only [go_sem, Nat.reduceLT, Nat.reduceAdd, Nat.reduceEqDiff, Nat.reduceLeDiff, Nat.reduceSub, Nat.reduceMul, Int.reduceEq, reduceIte, wk]
            repeat refine ⟨rfl, ?_⟩
            refine ⟨by simp, m - 1, by omega, k + 1, by omega, firstNZ_succ hz hw2, ?_⟩
            simp [trim_mk, go_sem, Nat.reduceLT, Nat.reduceAdd, Nat.reduceEqDiff, Nat.reduceLeDiff, Nat.reduceSub, Nat.reduceMul, Int.reduceEq, reduceIte, subHeap, renObj, pos, List.range_succ, cSi]
           ·
            have hw2 : siWait r lg ws (k) = 4 := by rw [hw1, if_pos (by simp [siBad, h4])]
            simp only [go_sem, Nat.reduceLT, Nat.reduceAdd, Nat.reduceEqDiff, Nat.reduceLeDiff, Nat.reduceSub, Nat.reduceMul, Int.reduceEq, reduceIte]
            repeat refine ⟨rfl, ?_⟩
            refine ret_pure hx ?_
            simp [go_sem, Nat.reduceLT, Nat.reduceAdd, Nat.reduceEqDiff, Nat.reduceLeDiff, Nat.reduceSub, Nat.reduceMul, Int.reduceEq, reduceIte, L29, R29, fin 4 hw2 (by decide)]
         ·
          have hw2 : siWait r lg ws (k) = 4 := by rw [hw1, if_pos (by simp [siBad, hd2])]
          simp only [go_sem, Nat.reduceLT, Nat.reduceAdd, Nat.reduceEqDiff, Nat.reduceLeDiff, Nat.reduceSub, Nat.reduceMul, Int.reduceEq, reduceIte, hd2]
          repeat refine ⟨rfl, ?_⟩
          refine ret_pure hx ?_
          simp [go_sem, Nat.reduceLT, Nat.reduceAdd, Nat.reduceEqDiff, Nat.reduceLeDiff, Nat.reduceSub, Nat.reduceMul, Int.reduceEq, reduceIte, L29, R29, fin 4 hw2 (by decide)]
       ·
        have hw1 : siWait r lg ws k = checkEntry (nth ws k) := by rw [siWait, if_pos h1]
        simp only [go_sem, Nat.reduceLT, Nat.reduceAdd, Nat.reduceEqDiff, Nat.reduceLeDiff, Nat.reduceSub, Nat.reduceMul, Int.reduceEq, reduceIte, h1, cE, cSi]
        refine ret_pure hx ?_
        simp [go_sem, Nat.reduceLT, Nat.reduceAdd, Nat.reduceEqDiff, Nat.reduceLeDiff, Nat.reduceSub, Nat.reduceMul, Int.reduceEq, reduceIte, L29, R29, fin _ hw1 h1]
      ·
       obtain rfl : k = ws.length := by omega
       simp only [go_sem, Nat.reduceLT, Nat.reduceAdd, Nat.reduceEqDiff, Nat.reduceLeDiff, Nat.reduceSub, Nat.reduceMul, Int.reduceEq, reduceIte, hlt]
       refine ret_pure hx ?_
       simp [go_sem, Nat.reduceLT, Nat.reduceAdd, Nat.reduceEqDiff, Nat.reduceLeDiff, Nat.reduceSub, Nat.reduceMul, Int.reduceEq, reduceIte, L29, R29, hz]
   ·
    have e : siErr r lg ws = checkLog lg := by rw [siErr, if_neg (by simp [hr]), if_pos hlog]
    simp only [go_sem, Nat.reduceLT, Nat.reduceAdd, Nat.reduceEqDiff, Nat.reduceLeDiff, Nat.reduceSub, Nat.reduceMul, Int.reduceEq, reduceIte, hlog]
    refine ret_pure hx ?_
    simp [go_sem, Nat.reduceLT, Nat.reduceAdd, Nat.reduceEqDiff, Nat.reduceLeDiff, Nat.reduceSub, Nat.reduceMul, Int.reduceEq, reduceIte, L29, R29, e]
  ·
   have hd1 : decide (r = 1) = false := by simp [h1]
   have e : siErr r lg ws = 3 := by rw [siErr, if_pos (by omega)]
   simp only [go_sem, Nat.reduceLT, Nat.reduceAdd, Nat.reduceEqDiff, Nat.reduceLeDiff, Nat.reduceSub, Nat.reduceMul, Int.reduceEq, reduceIte, hd0, hd1, cSi]
   refine ret_pure hx ?_
   simp [go_sem, Nat.reduceLT, Nat.reduceAdd, Nat.reduceEqDiff, Nat.reduceLeDiff, Nat.reduceSub, Nat.reduceMul, Int.reduceEq, reduceIte, L29, R29, e]
end Go.Proofs.YtkgobnnkcnnfhaaGreat
