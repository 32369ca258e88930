/- Joined texts of this claim: D5 D4 D6 D7 D8 D9 D10 G2 D11 G3 M4 D12 D13 D14 D15 K1 K2 K3 K4 K6 K7 K8 K9 K10 K11 K12 K13 K14 K15 K16 K17 K18 K19. -/
import Derived.Test.YtocglfkflpkafaaKC
set_option linter.unusedSimpArgs false
set_option linter.unusedVariables false
set_option linter.unusedSectionVars false
/- Pasts: contracts. -/
namespace Go.Proofs.Ytocglfkflpkafaa
set_option linter.unusedSimpArgs false
set_option linter.unusedVariables false
open Go.RowKit
def ofRows (ps : List (List Id)) : List (List PV) := ps.map fun p => [.list (p.map cId)]
/-- the pasts of a log, as a pointer to what nobody writes -/
def pvPasts (l : List Entry) (ps : List (List Id)) : PV := .rptr [.list (l.map cE), .list (ofRows ps)]

theorem allOf_take {ps : List (List Id)} {l : List Entry} {ls : List Id} {j : Nat} (h : j < ls.length) : allOf ps l (ls.take (j + 1)) = allOf ps l (ls.take j) ++ [nth ls j] ++ pastAt ps l (nth ls j) := by
  unfold allOf
  rw [List.take_succ_eq_append_getElem h, nth_eq _ _ h, List.flatMap_append]
  simp only [List.flatMap_cons, List.flatMap_nil, List.append_nil, List.append_assoc, List.cons_append, List.nil_append]
theorem pastAt_to {l : List Entry} {k : Nat} {x : Id} (hk : k ≤ l.length) (h0 : 0 ≤ findE l x) (h1 : findE l x < k) : pastAt (pastsTo l k) l x = pastOf l (findE l x).toNat := by
  unfold pastAt pastOf pasts
  rw [pastsTo_nth l (by omega : (findE l x).toNat < k), pastsTo_nth l (by omega : (findE l x).toNat < l.length)]
theorem allOf_len {l : List Entry} (h : LogOk l) {k : Nat} (hk : k < l.length) : ∀ j, j ≤ (nth l k).ls.length → (allOf (pastsTo l k) l ((nth l k).ls.take j)).length ≤ 41 * j
  | 0, _ => by simp [allOf]
  | j + 1, hj => by
    have hlj : j < (nth l k).ls.length := by omega
    obtain ⟨f1, f2⟩ := h.link_lt hk (x := nth (nth l k).ls j) (by rw [nth_eq _ _ hlj]; exact List.getElem_mem hlj)
    have := allOf_len h hk j (by omega)
    have h2 := pastOf_len h (k := (findE l (nth (nth l k).ls j)).toNat) (by omega)
    rw [allOf_take hlj, pastAt_to (by omega) f1 f2]
    simp only [List.length_append, List.length_cons, List.length_nil]
    omega
end Go.Proofs.Ytocglfkflpkafaa
/- Logs, in the law text's words: counting, finding, being right; colors; ids among others: contracts. -/
namespace Go.Proofs.Ytocglfkflpkafaa
set_option linter.unusedSimpArgs false
set_option linter.unusedVariables false
open Go.RowKit
end Go.Proofs.Ytocglfkflpkafaa
/- Pasts, heads, counts: contracts. -/
namespace Go.Proofs.Ytocglfkflpkafaa
set_option linter.unusedSimpArgs false
set_option linter.unusedVariables false
open Go.RowKit
/-- is an id among others? -/
def hasI (l : List Id) (y : Id) : Bool := l.any fun x => decide (y = x)
theorem hasI_iff {l : List Id} {y : Id} : hasI l y = true ↔ y ∈ l := by simp [hasI]

/-- have two sums of colors one in common? -/
def bitB (c : Int) (i : Nat) : Bool := decide (c / 2 ^ i % 2 = 1)
def meetB (a b : Int) : Bool := (bitB a 0 && bitB b 0) || (bitB a 1 && bitB b 1) || (bitB a 2 && bitB b 2)
theorem and_meet0 {a b : Int} (ha : wthn a 1 7 = true) (hb : wthn b 1 7 = true) : (!decide (IntKind.i64.wrap ((BitVec.ofInt IntKind.i64.bits a &&& BitVec.ofInt IntKind.i64.bits b).toNat : Int) = 0)) = meetB a b := by
  have key : ∀ a b : Fin 8, (!decide (IntKind.i64.wrap ((BitVec.ofInt IntKind.i64.bits (a.val : Int) &&& BitVec.ofInt IntKind.i64.bits (b.val : Int)).toNat : Int) = 0)) = meetB (a.val : Int) (b.val : Int) := by decide +kernel
  rw [wthn_iff] at ha hb
  have := key ⟨a.toNat, by omega⟩ ⟨b.toNat, by omega⟩
  simp only [Int.toNat_of_nonneg (show 0 ≤ a by omega), Int.toNat_of_nonneg (show 0 ≤ b by omega)] at this
  exact this
theorem and_meet {a b : Int} (ha : wthn a 1 7 = true) (hb : wthn b 1 7 = true) : (!decide (IntKind.i64.wrap ((@HAnd.hAnd (BitVec 64) (BitVec 64) (BitVec 64) (@instHAndOfAndOp (BitVec IntKind.i64.bits) _) (BitVec.ofInt 64 a) (BitVec.ofInt 64 b)).toNat : Int) = 0)) = meetB a b := and_meet0 ha hb
/-- entries of some colors -/
def withC (l : List Entry) (c : Int) : List Entry := l.filter fun e => meetB e.c c
theorem withC_take {l : List Entry} {c : Int} {k : Nat} (h : k < l.length) : withC (l.take (k + 1)) c = withC (l.take k) c ++ if meetB (nth l k).c c then [nth l k] else [] := by
  unfold withC
  rw [List.take_succ_eq_append_getElem h, List.filter_append, nth_eq _ _ h]
  simp only [List.filter_cons, List.filter_nil]
theorem withC_len (l : List Entry) (c : Int) : (withC l c).length ≤ l.length := List.length_filter_le _ _
theorem LogOk.col {l : List Entry} (h : LogOk l) {k : Nat} (hk : k < l.length) : wthn (nth l k).c 1 7 = true := (check_ok_bounds (h.chk k hk)).2.1

theorem closed2 (c d : List PV) (h : c.map (renCell false (pos [0, 1]) (frzAt false [.box c, .box d])) = c) (h2 : c.map (renCell false (pos [0, 1]) (frzAt true [.box c, .box d])) = c) (h3 : c.map (renCell false (backF 2 [0, 1]) noFz) = c)
    (g : d.map (renCell false (pos [0, 1]) (frzAt false [.box c, .box d])) = d) (g2 : d.map (renCell false (pos [0, 1]) (frzAt true [.box c, .box d])) = d) (g3 : d.map (renCell false (backF 2 [0, 1]) noFz) = d) :
    ClosedH [.box c, .box d] [.ptr 0 0, .ptr 1 0] := by
  refine ⟨?_, ?_, ?_, ?_, ?_⟩
  · simp [renLeaf, pos, List.range_succ]
  · simp [ren, renCell, renLeaf, pos, List.range_succ]
  · simp only [List.length_cons, List.length_nil, List.range_succ, List.range_zero, List.nil_append, List.cons_append, subHeap, List.map_cons, List.map_nil, List.getElem?_cons_zero, List.getElem?_cons_succ, Option.getD_some, renObj, h, g]
  · simp only [List.length_cons, List.length_nil, List.range_succ, List.range_zero, List.nil_append, List.cons_append, merge, List.map_cons, List.map_nil, mergeObj, callId, Nat.zero_add, Nat.sub_self, Nat.add_zero]
    simp [pos, renObj, h3, g3]
  · simp only [List.length_cons, List.length_nil, List.range_succ, List.range_zero, List.nil_append, List.cons_append, subHeap, List.map_cons, List.map_nil, List.getElem?_cons_zero, List.getElem?_cons_succ, Option.getD_some, renObj, h2, g2]
theorem closedT (l : List Entry) (ps : List (List Id)) (e : Entry) : ClosedH [.box [pvPasts l ps], .box (cE e)] [.ptr 0 0, .ptr 1 0] := by
  refine closed2 _ _ ?_ ?_ ?_ ?_ ?_ ?_ <;> simp [pvPasts, cE, renCell, renLeaf]
/-- is an entry in the past of one of some? -/
def underB (l : List Entry) (c : Int) (e : Entry) : Bool := (withC l c).any fun f => hasI (pastAt (pasts l) l f.id) e.id
def headsC (l : List Entry) (c : Int) : List Id := ((withC l c).filter fun e => !underB l c e).map (·.id)
theorem headsC_take {l : List Entry} {c : Int} {s : List Entry} {k : Nat} (h : k < s.length) : ((s.take (k + 1)).filter fun e => !underB l c e).map (·.id) = ((s.take k).filter fun e => !underB l c e).map (·.id) ++ if underB l c (nth s k) then [] else [(nth s k).id] := by
  rw [List.take_succ_eq_append_getElem h, List.filter_append, nth_eq _ _ h, List.map_append]
  simp only [List.filter_cons, List.filter_nil]
  cases underB l c s[k] <;> rfl
theorem withC_mem {l : List Entry} {c : Int} {e : Entry} (h : e ∈ withC l c) : ∃ k, k < l.length ∧ nth l k = e := by
  obtain ⟨k, hk, rfl⟩ := List.getElem_of_mem (List.mem_filter.1 h).1
  exact ⟨k, hk, nth_eq _ _ hk⟩
theorem pastAt_eq {l : List Entry} (x : Id) : pastAt (pasts l) l x = pastOf l (findE l x).toNat := rfl
end Go.Proofs.Ytocglfkflpkafaa
/- dag.Past, dag.Heads, dag.Count: contracts. -/
namespace Go.Proofs.Ytocglfkflpkafaa
set_option linter.unusedSimpArgs false
set_option linter.unusedVariables false
open Go.RowKit
/-- what dag.Past answers -/
def pastErr (l : List Entry) (y : Id) : Int := if checkLog l ≠ 0 then checkLog l else if findE l y < 0 then 5 else 0
def pastIds (l : List Entry) (y : Id) : List Id := if pastErr l y = 0 then pastOf l (findE l y).toNat else []
def headsErr (l : List Entry) (c : Int) : Int := if checkLog l ≠ 0 then checkLog l else if wthn c 1 7 = false then 3 else 0
def headsIds (l : List Entry) (c : Int) : List Id := if headsErr l c = 0 then sortI (headsC l c) else []
def countR (l : List Entry) (r : Int) : Int := if checkLog l = 0 then cntR l r else 0
/-! the same in the law text's words -/
theorem isOf_meets (c : Int) (i : Nat) (hi : i < 3) (h0 : 0 ≤ c) (h7 : c ≤ 7) : Meets Try.prog 17 [.int .i64 c, .int .i64 i] [] (.bool (bitB c i)) [] := by
  obtain ⟨m, rfl⟩ : ∃ m : Fin 8, c = (m.val : Int) := ⟨⟨c.toNat, by omega⟩, by simp; omega⟩
  have key : ∀ (m : Fin 8) (d : Fin 3), decide (((IntKind.i64.wrap ((m.val : Int).tdiv (2 ^ d.val))).tmod 2) = 1) = bitB (m.val : Int) d.val := by decide +kernel
  refine Meets.of_walk Try.func17 Try.ntmps17 low17 res17 (by simp) fun x hx => ?_
  rcases i with _ | _ | _ | i
  · have k0 := key m 0
    simp only [Fin.isValue, Fin.val_zero, Int.pow_zero] at k0
    simp only [go_sem, Nat.reduceLT, Nat.reduceAdd, Nat.reduceEqDiff, Nat.reduceLeDiff, Nat.reduceSub, Nat.reduceMul, Int.reduceEq, eq_self, reduceIte, L17, R17, Int.ofNat_zero, Int.toNat_zero, Int.reduceLT, Int.reduceLE, Int.reduceNe, Int.cast_ofNat_Int, Int.reduceToNat, ne_eq, k0]
    refine ret_pure hx ?_
    simp [go_sem, Nat.reduceLT, Nat.reduceAdd, Nat.reduceEqDiff, Nat.reduceLeDiff, Nat.reduceSub, Nat.reduceMul, Int.reduceEq, eq_self, reduceIte, L17, R17, k0]
  · have k0 := key m 1
    simp only [Fin.isValue, Fin.val_one, Int.pow_succ, Int.pow_zero, Int.one_mul] at k0
    simp only [go_sem, Nat.reduceLT, Nat.reduceAdd, Nat.reduceEqDiff, Nat.reduceLeDiff, Nat.reduceSub, Nat.reduceMul, Int.reduceEq, eq_self, reduceIte, L17, R17, Int.ofNat_zero, Int.toNat_zero, Int.reduceLT, Int.reduceLE, Int.reduceNe, Int.cast_ofNat_Int, Int.reduceToNat, ne_eq, Int.natCast_one, Int.reduceAdd, Int.natCast_add, k0]
    refine ret_pure hx ?_
    simp [go_sem, Nat.reduceLT, Nat.reduceAdd, Nat.reduceEqDiff, Nat.reduceLeDiff, Nat.reduceSub, Nat.reduceMul, Int.reduceEq, eq_self, reduceIte, L17, R17, k0]
  · have k0 := key m 2
    simp only [Fin.isValue, Fin.val_two, Int.pow_succ, Int.pow_zero, Int.one_mul, Int.reduceMul] at k0
    simp only [go_sem, Nat.reduceLT, Nat.reduceAdd, Nat.reduceEqDiff, Nat.reduceLeDiff, Nat.reduceSub, Nat.reduceMul, Int.reduceEq, eq_self, reduceIte, L17, R17, Int.ofNat_zero, Int.toNat_zero, Int.reduceLT, Int.reduceLE, Int.reduceNe, Int.cast_ofNat_Int, Int.reduceToNat, ne_eq, Int.natCast_one, Int.reduceAdd, Int.natCast_add, k0]
    refine ret_pure hx ?_
    simp [go_sem, Nat.reduceLT, Nat.reduceAdd, Nat.reduceEqDiff, Nat.reduceLeDiff, Nat.reduceSub, Nat.reduceMul, Int.reduceEq, eq_self, reduceIte, L17, R17, k0]
  · omega
end Go.Proofs.Ytocglfkflpkafaa
/- Pasts and heads in the law text's words: contracts. -/
namespace Go.Proofs.Ytocglfkflpkafaa
set_option linter.unusedSimpArgs false
set_option linter.unusedVariables false
open Go.RowKit
theorem hasI_take {l : List Id} {y : Id} {k : Nat} (h : k < l.length) : hasI (l.take (k + 1)) y = (hasI (l.take k) y || decide (y = nth l k)) := by
  unfold hasI
  rw [List.take_succ_eq_append_getElem h, List.any_append, nth_eq _ _ h]
  simp
/-- places that are told -/
def rB (b : Bool) : List PV := [.bool b]
def markL (l : List Entry) (ls : List Id) (M : List Bool) : List Bool := ls.foldl (fun M x => M.set (findE l x).toNat true) M
def markS (l : List Entry) (a i : Nat) (M : List Bool) : List Bool := if i = a ∨ nth M i = true then markL l (nth l i).ls M else M
/-- marks behind the places a, .., m -/
def marks (l : List Entry) (a : Nat) : Nat → List Bool
  | 0 => List.replicate l.length false
  | s + 1 => markS l a (a - s) (marks l a s)
def marksOf (l : List Entry) (a : Nat) : List Bool := marks l a (a + 1)
theorem markL_length (l : List Entry) : ∀ (ls : List Id) (M : List Bool), (markL l ls M).length = M.length
  | [], _ => rfl
  | x :: ls, M => by
    show (markL l ls (M.set _ true)).length = _
    rw [markL_length l ls]; simp
theorem markL_take {l : List Entry} {ls : List Id} {M : List Bool} {j : Nat} (h : j < ls.length) : markL l (ls.take (j + 1)) M = (markL l (ls.take j) M).set (findE l (nth ls j)).toNat true := by
  unfold markL
  rw [List.take_succ_eq_append_getElem h, List.foldl_append, nth_eq _ _ h]
  rfl
theorem marks_length (l : List Entry) (a : Nat) : ∀ s, (marks l a s).length = l.length
  | 0 => by simp [marks]
  | s + 1 => by
    simp only [marks, markS]
    split
    · rw [markL_length, marks_length l a s]
    · exact marks_length l a s
theorem cE_get4 (e : Entry) : (cE e)[4]? = some (.list (e.ls.map cId)) := rfl

end Go.Proofs.Ytocglfkflpkafaa
/- Ids that are told, rising: a contract. -/
namespace Go.Proofs.Ytocglfkflpkafaa
set_option linter.unusedSimpArgs false
set_option linter.unusedVariables false
open Go.RowKit
def idRow (r n : Nat) : List Id := (List.range n).map fun m => ⟨r, ((m + 1 : Nat) : Int)⟩
def idsUp (r n : Nat) : List Id := (List.range r).flatMap (fun q => idRow q 20) ++ idRow r n
theorem idsUp_n (r n : Nat) : idsUp r (n + 1) = idsUp r n ++ [⟨r, ((n + 1 : Nat) : Int)⟩] := by
  simp only [idsUp, idRow, List.range_succ, List.map_append, List.map_cons, List.map_nil, List.append_assoc]
theorem idsUp_r (r : Nat) : idsUp (r + 1) 0 = idsUp r 20 := by
  simp only [idsUp, idRow, List.range_succ, List.flatMap_append, List.flatMap_cons, List.flatMap_nil, List.range_zero, List.map_nil, List.append_nil]
theorem idsUp_length (r n : Nat) : (idsUp r n).length = 20 * r + n := by
  induction r generalizing n with
  | zero => simp [idsUp, idRow]
  | succ r ih =>
    induction n with
    | zero => rw [idsUp_r, ih]; omega
    | succ n ihn => rw [idsUp_n, List.length_append, ihn]; simp; omega
def allIds : List Id := idsUp 2 0
/-- is the place of an id told? -/
def tellB (l : List Entry) (M : List Bool) (x : Id) : Bool := decide (0 ≤ findE l x) && nth M (findE l x).toNat
def risingI (l : List Entry) (M : List Bool) : List Id := allIds.filter (tellB l M)

end Go.Proofs.Ytocglfkflpkafaa
/- Heads in the law text's words: a contract. -/
namespace Go.Proofs.Ytocglfkflpkafaa
set_option linter.unusedSimpArgs false
set_option linter.unusedVariables false
open Go.RowKit
/-- the first j of one, then of another -/
def mix (A B : List Bool) (j : Nat) : List Bool := A.take j ++ B.drop j
theorem mix_length {A B : List Bool} {j : Nat} (h : A.length = B.length) : (mix A B j).length = B.length := by
  simp [mix]; omega
theorem mix_get {A B : List Bool} {j : Nat} (h : A.length = B.length) (hj : j < B.length) : (mix A B j)[j]? = some (nth B j) := by
  unfold mix
  rw [List.getElem?_append_right (by simp; omega)]
  simp [show j - min j A.length = 0 by omega, nth, hj]
theorem mix_set {A B : List Bool} {j : Nat} (h : A.length = B.length) (hj : j < B.length) : (mix A B j).set j (nth A j) = mix A B (j + 1) := by
  unfold mix
  rw [List.set_append_right _ _ (by simp; omega)]
  rw [List.take_succ_eq_append_getElem (by omega), nth_eq _ _ (by omega)]
  simp only [List.length_take, show j - min j A.length = 0 by omega, List.append_assoc]
  rw [List.drop_eq_getElem_cons hj]
  rfl
theorem mix_zero (A B : List Bool) : mix A B 0 = B := by simp [mix]
theorem mix_all {A B : List Bool} (h : A.length = B.length) : mix A B B.length = A := by simp [mix, ← h]

def cutM (M P : List Bool) : List Bool := List.zipWith (fun a p => a && !p) M P
def meetsL (l : List Entry) (c : Int) : List Bool := l.map fun e => meetB e.c c
def headM (l : List Entry) (c : Int) : Nat → List Bool
  | 0 => meetsL l c
  | k + 1 => if meetB (nth l k).c c then cutM (headM l c k) (marksOf l k) else headM l c k
theorem marksOf_length (l : List Entry) (a : Nat) : (marksOf l a).length = l.length := marks_length l a (a + 1)
theorem headM_length (l : List Entry) (c : Int) : ∀ k, (headM l c k).length = l.length
  | 0 => by simp [headM, meetsL]
  | k + 1 => by
    simp only [headM]
    split
    · simp [cutM, headM_length l c k, marksOf_length]
    · exact headM_length l c k
def headsR (l : List Entry) (c : Int) : List Id := risingI l (headM l c l.length)

theorem LogOk.col07 {l : List Entry} (h : LogOk l) {k : Nat} (hk : k < l.length) : 0 ≤ (nth l k).c ∧ (nth l k).c ≤ 7 := by
  have := h.col hk
  rw [wthn_iff] at this
  omega
end Go.Proofs.Ytocglfkflpkafaa
/- Plain laws of pasts and heads: what the marks tell. No program in sight. -/
namespace Go.Proofs.Ytocglfkflpkafaa

theorem pastOf_trans {l : List Entry} (h : LogOk l) {j : Nat} (hj : j < l.length) : ∀ (a : Nat), a < l.length → (nth l j).id ∈ pastOf l a → ∀ y ∈ pastOf l j, y ∈ pastOf l a := by
  intro a
  induction a using Nat.strongRecOn with
  | _ a ih =>
    intro ha hm y hy
    obtain ⟨x, hx, he⟩ := (mem_pastOf h ha).1 hm
    obtain ⟨f1, f2⟩ := h.link_lt ha hx
    refine (mem_pastOf h ha).2 ⟨x, hx, .inr ?_⟩
    rcases he with rfl | he
    · rw [h.find hj, Int.toNat_natCast]; exact hy
    · exact ih _ (by omega) (by omega) he y hy
theorem nth_set {M : List Bool} {i k : Nat} (hk : k < M.length) : nth (M.set i true) k = (nth M k || decide (i = k)) := by
  rw [nth_eq _ _ (by simpa using hk), nth_eq _ _ hk, List.getElem_set]
  by_cases e : i = k
  · simp [e]
  · simp [e]
theorem nth_markL {l : List Entry} : ∀ (ls : List Id) (M : List Bool) (k : Nat), k < M.length → nth (markL l ls M) k = (nth M k || ls.any fun x => decide ((findE l x).toNat = k))
  | [], M, k, _ => by simp [markL]
  | x :: ls, M, k, h => by
    show nth (markL l ls (M.set (findE l x).toNat true)) k = _
    rw [nth_markL ls _ k (by simpa using h), nth_set h]
    simp [Bool.or_assoc]
theorem markL_link {l : List Entry} (h : LogOk l) {i k : Nat} (hi : i < l.length) (hk : k < l.length) {M : List Bool} (hM : M.length = l.length) :
    nth (markL l (nth l i).ls M) k = true ↔ nth M k = true ∨ (nth l k).id ∈ (nth l i).ls := by
  rw [nth_markL _ _ _ (by omega), Bool.or_eq_true, List.any_eq_true]
  constructor
  · rintro (h1 | ⟨x, hx, hd⟩)
    · exact .inl h1
    · obtain ⟨f1, f2⟩ := h.link_lt hi hx
      obtain ⟨m, g1, g2, g3⟩ := findE_spec f1
      have : m = k := by simpa [g1] using hd
      subst this
      exact .inr (by rw [g3]; exact hx)
  · rintro (h1 | hx)
    · exact .inl h1
    · exact .inr ⟨_, hx, by simp [h.find hk]⟩
theorem nth_repl {n k : Nat} (h : k < n) : nth (List.replicate n false) k = false := by
  rw [nth_eq _ _ (by simpa using h)]; simp
theorem marks_inv {l : List Entry} (h : LogOk l) {a : Nat} (ha : a < l.length) : ∀ s, s ≤ a →
    (∀ k, k < l.length → nth (marks l a (s + 1)) k = true → (nth l k).id ∈ pastOf l a) ∧
    (∀ k, k < l.length → (nth l k).id ∈ pastOf l a → nth (marks l a (s + 1)) k = true ∨ ∃ j, j < a - s ∧ nth (marks l a (s + 1)) j = true ∧ (nth l k).id ∈ pastOf l j)
  | 0, _ => by
    have e : marks l a 1 = markL l (nth l a).ls (List.replicate l.length false) := by simp [marks, markS]
    rw [Nat.zero_add, e]
    have hlk : ∀ k, k < l.length → (nth (markL l (nth l a).ls (List.replicate l.length false)) k = true ↔ (nth l k).id ∈ (nth l a).ls) := fun k hk => by
      rw [markL_link h ha hk (by simp), nth_repl hk]; simp
    refine ⟨fun k hk hm => (mem_pastOf h ha).2 ⟨_, (hlk k hk).1 hm, .inl rfl⟩, fun k hk hp => ?_⟩
    obtain ⟨x, hx, he⟩ := (mem_pastOf h ha).1 hp
    rcases he with rfl | he
    · exact .inl ((hlk k hk).2 hx)
    · obtain ⟨f1, f2⟩ := h.link_lt ha hx
      obtain ⟨m, g1, g2, g3⟩ := findE_spec f1
      rw [g1, Int.toNat_natCast] at he
      exact .inr ⟨m, by omega, (hlk m g2).2 (by rw [g3]; exact hx), he⟩
  | s + 1, hs => by
    obtain ⟨iA, iB⟩ := marks_inv h ha s (by omega)
    have hi : a - (s + 1) < l.length := by omega
    have e : marks l a (s + 1 + 1) = markS l a (a - (s + 1)) (marks l a (s + 1)) := rfl
    rw [e]
    generalize hM : marks l a (s + 1) = M at *
    have hMl : M.length = l.length := by rw [← hM]; exact marks_length l a _
    generalize hid : a - (s + 1) = i at *
    have hne : ¬ i = a := by omega
    unfold markS
    by_cases hm : nth M i = true
    · rw [if_pos (.inr hm)]
      have hlk : ∀ k, k < l.length → (nth (markL l (nth l i).ls M) k = true ↔ nth M k = true ∨ (nth l k).id ∈ (nth l i).ls) := fun k hk => markL_link h hi hk hMl
      refine ⟨fun k hk hkm => ?_, fun k hk hp => ?_⟩
      · rcases (hlk k hk).1 hkm with h1 | h1
        · exact iA k hk h1
        · exact pastOf_trans h hi a ha (iA i hi hm) _ ((mem_pastOf h hi).2 ⟨_, h1, .inl rfl⟩)
      · rcases iB k hk hp with h1 | ⟨j, hj, h2, h3⟩
        · exact .inl ((hlk k hk).2 (.inl h1))
        · by_cases hji : j = i
          · subst hji
            obtain ⟨x, hx, he⟩ := (mem_pastOf h hi).1 h3
            rcases he with rfl | he
            · exact .inl ((hlk k hk).2 (.inr hx))
            · obtain ⟨f1, f2⟩ := h.link_lt hi hx
              obtain ⟨m, g1, g2, g3⟩ := findE_spec f1
              rw [g1, Int.toNat_natCast] at he
              exact .inr ⟨m, by omega, (hlk m g2).2 (.inr (by rw [g3]; exact hx)), he⟩
          · exact .inr ⟨j, by omega, (hlk j (by omega)).2 (.inl h2), h3⟩
    · rw [if_neg (by simp [hne, hm])]
      refine ⟨iA, fun k hk hp => ?_⟩
      rcases iB k hk hp with h1 | ⟨j, hj, h2, h3⟩
      · exact .inl h1
      · have : j ≠ i := fun e => hm (e ▸ h2)
        exact .inr ⟨j, by omega, h2, h3⟩
/-- what is told is the past -/
theorem marksOf_iff {l : List Entry} (h : LogOk l) {a k : Nat} (ha : a < l.length) (hk : k < l.length) : nth (marksOf l a) k = true ↔ (nth l k).id ∈ pastOf l a := by
  obtain ⟨h1, h2⟩ := marks_inv h ha a (Nat.le_refl _)
  refine ⟨h1 k hk, fun hp => ?_⟩
  rcases h2 k hk hp with h3 | ⟨j, hj, -⟩
  · exact h3
  · omega

theorem allIds_asc : Asc allIds := by
  unfold Asc
  have : (allIds.Pairwise fun a b => lessB a b = true) := by decide +kernel
  exact this
theorem mem_allIds {x : Id} : x ∈ allIds ↔ okId x = true := by
  obtain ⟨r, n⟩ := x
  simp only [okId, Bool.and_eq_true, wthn_iff]
  constructor
  · intro h
    have key : ∀ y ∈ allIds, (0 ≤ y.r ∧ y.r ≤ 1) ∧ 1 ≤ y.n ∧ y.n ≤ 20 := by decide +kernel
    exact key _ h
  · rintro ⟨⟨h1, h2⟩, h3, h4⟩
    have key : ∀ (a : Fin 2) (b : Fin 20), (⟨(a.val : Int), (b.val : Int) + 1⟩ : Id) ∈ allIds := by decide +kernel
    have := key ⟨r.toNat, by omega⟩ ⟨(n - 1).toNat, by omega⟩
    simp only [Int.toNat_of_nonneg h1, Int.toNat_of_nonneg (show 0 ≤ n - 1 by omega), Int.sub_add_cancel] at this
    exact this
theorem risingI_asc (l : List Entry) (M : List Bool) : Asc (risingI l M) := allIds_asc.filter _
theorem mem_risingI {l : List Entry} (h : LogOk l) {M : List Bool} {x : Id} : x ∈ risingI l M ↔ ∃ k, k < l.length ∧ (nth l k).id = x ∧ nth M k = true := by
  unfold risingI
  rw [List.mem_filter, mem_allIds, tellB, Bool.and_eq_true, decide_eq_true_eq]
  constructor
  · rintro ⟨h1, h2, h3⟩
    obtain ⟨k, g1, g2, g3⟩ := findE_spec h2
    rw [g1, Int.toNat_natCast] at h3
    exact ⟨k, g2, g3, h3⟩
  · rintro ⟨k, hk, rfl, h3⟩
    rw [h.find hk, Int.toNat_natCast]
    exact ⟨h.id_ok hk, by omega, h3⟩
theorem rising_past {l : List Entry} (h : LogOk l) {a : Nat} (ha : a < l.length) : risingI l (marksOf l a) = pastOf l a := by
  refine asc_ext (risingI_asc _ _) (pastOf_asc h ha) fun x => ?_
  rw [mem_risingI h]
  constructor
  · rintro ⟨k, hk, rfl, hm⟩
    exact (marksOf_iff h ha hk).1 hm
  · intro hx
    obtain ⟨j, hj, rfl⟩ := pastOf_lt h a ha x hx
    exact ⟨j, by omega, rfl, (marksOf_iff h ha (by omega)).2 hx⟩

theorem nth_cut {M P : List Bool} {k : Nat} (h1 : k < M.length) (h2 : k < P.length) : nth (cutM M P) k = (nth M k && !nth P k) := by
  rw [nth_eq _ _ (by simp [cutM]; omega), nth_eq _ _ h1, nth_eq _ _ h2]; simp [cutM]
theorem headM_iff {l : List Entry} (h : LogOk l) {c : Int} {k : Nat} (hk : k < l.length) : ∀ n, n ≤ l.length → (nth (headM l c n) k = true ↔ meetB (nth l k).c c = true ∧ ∀ i, i < n → meetB (nth l i).c c = true → (nth l k).id ∉ pastOf l i)
  | 0, _ => by
    have : nth (headM l c 0) k = meetB (nth l k).c c := by
      simp only [headM, meetsL]
      rw [nth_eq _ _ (by simpa using hk)]; simp [nth_eq _ _ hk]
    rw [this]
    exact ⟨fun e => ⟨e, fun i hi => by omega⟩, fun e => e.1⟩
  | n + 1, hn => by
    have ih := headM_iff h (c := c) hk n (by omega)
    simp only [headM]
    split
    · rename_i hm
      rw [nth_cut (by rw [headM_length]; exact hk) (by rw [marksOf_length]; exact hk), Bool.and_eq_true, ih, Bool.not_eq_true', ← Bool.not_eq_true, marksOf_iff h (by omega) hk]
      constructor
      · rintro ⟨⟨h1, h2⟩, h3⟩
        refine ⟨h1, fun i hi hmi => ?_⟩
        by_cases e : i = n
        · subst e; exact h3
        · exact h2 i (by omega) hmi
      · rintro ⟨h1, h2⟩
        exact ⟨⟨h1, fun i hi => h2 i (by omega)⟩, h2 n (by omega) hm⟩
    · rename_i hm
      rw [ih]
      constructor
      · rintro ⟨h1, h2⟩
        refine ⟨h1, fun i hi hmi => ?_⟩
        by_cases e : i = n
        · subst e; exact (hm hmi).elim
        · exact h2 i (by omega) hmi
      · rintro ⟨h1, h2⟩
        exact ⟨h1, fun i hi => h2 i (by omega)⟩
theorem ids_nodup {l : List Entry} (h : LogOk l) : (l.map (·.id)).Nodup := by
  rw [List.Nodup, List.pairwise_map, List.pairwise_iff_getElem]
  intro i j hi hj hij e
  rw [← nth_eq l i hi, ← nth_eq l j hj] at e
  have := h.inj hi hj e
  omega
theorem headsC_nodup {l : List Entry} (h : LogOk l) (c : Int) : (headsC l c).Nodup := by
  refine List.Nodup.sublist (List.Sublist.map _ ?_) (ids_nodup h)
  exact List.filter_sublist.trans List.filter_sublist
theorem mem_withC {l : List Entry} {c : Int} {e : Entry} : e ∈ withC l c ↔ ∃ k, k < l.length ∧ nth l k = e ∧ meetB e.c c = true := by
  unfold withC
  rw [List.mem_filter]
  constructor
  · rintro ⟨h1, h2⟩
    obtain ⟨k, hk, rfl⟩ := List.getElem_of_mem h1
    exact ⟨k, hk, nth_eq _ _ hk, h2⟩
  · rintro ⟨k, hk, rfl, h2⟩
    exact ⟨by rw [nth_eq _ _ hk]; exact List.getElem_mem hk, h2⟩
/-- heads: of a color, and in nobody's past -/
theorem mem_headsC {l : List Entry} (h : LogOk l) {c : Int} {x : Id} : x ∈ headsC l c ↔ ∃ k, k < l.length ∧ (nth l k).id = x ∧ meetB (nth l k).c c = true ∧ ∀ i, i < l.length → meetB (nth l i).c c = true → x ∉ pastOf l i := by
  unfold headsC
  rw [List.mem_map]
  constructor
  · rintro ⟨e, he, rfl⟩
    obtain ⟨h1, h2⟩ := List.mem_filter.1 he
    obtain ⟨k, hk, rfl, hm⟩ := mem_withC.1 h1
    refine ⟨k, hk, rfl, hm, fun i hi hmi hp => ?_⟩
    simp only [Bool.not_eq_true', underB, List.any_eq_false] at h2
    have := h2 (nth l i) (mem_withC.2 ⟨i, hi, rfl, hmi⟩)
    rw [pastAt_eq, h.find hi, Int.toNat_natCast] at this
    exact this (hasI_iff.2 hp)
  · rintro ⟨k, hk, rfl, hm, hp⟩
    refine ⟨nth l k, List.mem_filter.2 ⟨mem_withC.2 ⟨k, hk, rfl, hm⟩, ?_⟩, rfl⟩
    simp only [Bool.not_eq_true', underB, List.any_eq_false]
    intro f hf
    obtain ⟨i, hi, rfl, hmi⟩ := mem_withC.1 hf
    rw [pastAt_eq, h.find hi, Int.toNat_natCast]
    exact fun hh => hp i hi hmi (hasI_iff.1 hh)
theorem heads_eq {l : List Entry} (h : LogOk l) (c : Int) : headsR l c = sortI (headsC l c) := by
  refine asc_ext (risingI_asc _ _) (sortI_asc (headsC_nodup h c)) fun x => ?_
  rw [headsR, mem_risingI h, sortI_mem, mem_headsC h]
  constructor
  · rintro ⟨k, hk, rfl, hm⟩
    obtain ⟨h1, h2⟩ := (headM_iff h hk l.length (Nat.le_refl _)).1 hm
    exact ⟨k, hk, rfl, h1, h2⟩
  · rintro ⟨k, hk, rfl, hm, hp⟩
    exact ⟨k, hk, rfl, (headM_iff h hk l.length (Nat.le_refl _)).2 ⟨hm, hp⟩⟩
end Go.Proofs.Ytocglfkflpkafaa
/- Players of a log: contracts. -/
namespace Go.Proofs.Ytocglfkflpkafaa
set_option linter.unusedSimpArgs false
set_option linter.unusedVariables false
open Go.RowKit
/-- a player, as a pointer to what nobody writes -/
def pvP (l : List Entry) (c : Int) (out : List Id) : PV := .rptr [.int .i64 c, .list (out.map cId), .list ((withC l c).map cE), pvPasts l (pasts l)]
/-- does an entry hold an id back? -/
def blkB (l : List Entry) (out : List Id) (y : Id) (e : Entry) : Bool := hasI (pastAt (pasts l) l y) e.id && !hasI out e.id
def mayB (l : List Entry) (c : Int) (out : List Id) (y : Id) : Bool := !(withC l c).any (blkB l out y)
theorem closedM (l : List Entry) (c : Int) (out : List Id) (y : Id) : ClosedH [.box [pvP l c out], .box (cId y)] [.ptr 0 0, .ptr 1 0] := by
  refine closed2 _ _ ?_ ?_ ?_ ?_ ?_ ?_ <;> simp [pvP, pvPasts, cId, renCell, renLeaf]
def stepN (l : List Entry) (c : Int) (out : List Id) (a : Id × Bool) (e : Entry) : Id × Bool := if (!hasI out e.id && mayB l c out e.id && (!a.2 || lessB e.id a.1)) = true then (e.id, true) else a
def nextF (l : List Entry) (c : Int) (out : List Id) (k : Nat) : Id × Bool := ((withC l c).take k).foldl (stepN l c out) (⟨0, 0⟩, false)
theorem nextF_succ {l : List Entry} {c : Int} {out : List Id} {k : Nat} (h : k < (withC l c).length) : nextF l c out (k + 1) = stepN l c out (nextF l c out k) (nth (withC l c) k) := by
  unfold nextF
  rw [List.take_succ_eq_append_getElem h, List.foldl_append, nth_eq _ _ h]
  rfl
end Go.Proofs.Ytocglfkflpkafaa
/- Plain laws of orders: what comes next, and what comes at all. No program in sight. -/
namespace Go.Proofs.Ytocglfkflpkafaa

/-- may an id come next? -/
def candB (l : List Entry) (c : Int) (out : List Id) (x : Id) : Bool := decide (0 ≤ findE l x) && meetB (nth l (findE l x).toNat).c c && !hasI out x && mayB l c out x
def nextR (l : List Entry) (c : Int) (out : List Id) : Option Id := allIds.find? (candB l c out)
theorem candB_iff {l : List Entry} (h : LogOk l) {c : Int} {out : List Id} {x : Id} : candB l c out x = true ↔ (∃ e ∈ withC l c, e.id = x) ∧ x ∉ out ∧ mayB l c out x = true := by
  unfold candB
  simp only [Bool.and_eq_true, decide_eq_true_eq, Bool.not_eq_true']
  constructor
  · rintro ⟨⟨⟨h1, h2⟩, h3⟩, h4⟩
    obtain ⟨k, f1, f2, f3⟩ := findE_spec h1
    rw [f1, Int.toNat_natCast] at h2
    exact ⟨⟨_, mem_withC.2 ⟨k, f2, rfl, h2⟩, f3⟩, fun hm => (by rw [hasI_iff.2 hm] at h3; cases h3), h4⟩
  · rintro ⟨⟨e, he, rfl⟩, h3, h4⟩
    obtain ⟨k, hk, rfl, hm⟩ := mem_withC.1 he
    refine ⟨⟨⟨by rw [h.find hk]; omega, by rw [h.find hk, Int.toNat_natCast]; exact hm⟩, ?_⟩, h4⟩
    cases e : hasI out (nth l k).id
    · rfl
    · exact (h3 (hasI_iff.1 e)).elim
theorem cand_all {l : List Entry} (h : LogOk l) {c : Int} {out : List Id} {x : Id} (hc : candB l c out x = true) : x ∈ allIds := by
  obtain ⟨⟨e, he, rfl⟩, -⟩ := (candB_iff h).1 hc
  obtain ⟨k, hk, rfl, -⟩ := mem_withC.1 he
  exact mem_allIds.2 (h.id_ok hk)
theorem nextR_some {l : List Entry} (h : LogOk l) {c : Int} {out : List Id} {x : Id} : nextR l c out = some x ↔ candB l c out x = true ∧ ∀ y, candB l c out y = true → lessB y x = false := by
  constructor
  · intro hn
    obtain ⟨h1, us, vs, h2, h3⟩ := List.find?_eq_some_iff_append.1 hn
    refine ⟨h1, fun y hy => ?_⟩
    have ha := allIds_asc
    rw [h2] at ha
    have hy2 := cand_all h hy
    rw [h2] at hy2
    rcases List.mem_append.1 hy2 with hy3 | hy3
    · have := h3 y hy3; rw [hy] at this; cases this
    · rcases List.mem_cons.1 hy3 with rfl | hy4
      · exact lessB_irrefl _
      · have h4 := (List.pairwise_cons.1 (List.pairwise_append.1 ha).2.1).1 y hy4
        cases e : lessB y x
        · rfl
        · have := lessB_trans h4 e; rw [lessB_irrefl] at this; cases this
  · rintro ⟨h1, h2⟩
    cases hn : nextR l c out with
    | none =>
      have := List.find?_eq_none.1 hn x (cand_all h h1)
      exact (this h1).elim
    | some y =>
      obtain ⟨g1, us, vs, g2, g3⟩ := List.find?_eq_some_iff_append.1 hn
      have ha := allIds_asc
      rw [g2] at ha
      have hx := cand_all h h1
      rw [g2] at hx
      rcases List.mem_append.1 hx with hx2 | hx2
      · have := g3 x hx2; rw [h1] at this; cases this
      · rcases List.mem_cons.1 hx2 with rfl | hx3
        · rfl
        · have h4 := (List.pairwise_cons.1 (List.pairwise_append.1 ha).2.1).1 x hx3
          rw [h2 y g1] at h4; cases h4
theorem nextR_none {l : List Entry} (h : LogOk l) {c : Int} {out : List Id} : nextR l c out = none ↔ ∀ y, candB l c out y = false := by
  unfold nextR
  rw [List.find?_eq_none]
  constructor
  · intro hn y
    cases e : candB l c out y
    · rfl
    · exact (hn y (cand_all h e) e).elim
  · intro hn y _
    rw [hn y]; simp

theorem nextF_inv {l : List Entry} {c : Int} {out : List Id} : ∀ k, k ≤ (withC l c).length →
    (nextF l c out k = (⟨0, 0⟩, false) ∧ ∀ e ∈ (withC l c).take k, (!hasI out e.id && mayB l c out e.id) = false) ∨
    (∃ e ∈ withC l c, (!hasI out e.id && mayB l c out e.id) = true ∧ nextF l c out k = (e.id, true) ∧ ∀ e' ∈ (withC l c).take k, (!hasI out e'.id && mayB l c out e'.id) = true → lessB e'.id e.id = false)
  | 0, _ => .inl ⟨rfl, by simp⟩
  | k + 1, hk => by
    have hlt : k < (withC l c).length := by omega
    have hmem : ∀ e, e ∈ (withC l c).take (k + 1) ↔ e ∈ (withC l c).take k ∨ e = nth (withC l c) k := fun e => by
      rw [List.take_succ_eq_append_getElem hlt, List.mem_append, nth_eq _ _ hlt]; simp
    have hin : nth (withC l c) k ∈ withC l c := by rw [nth_eq _ _ hlt]; exact List.getElem_mem hlt
    rw [nextF_succ hlt]
    rcases nextF_inv (l := l) (c := c) (out := out) k (by omega) with ⟨h1, h2⟩ | ⟨e, he, h1, h2, h3⟩
    · rw [h1]
      cases hc : (!hasI out (nth (withC l c) k).id && mayB l c out (nth (withC l c) k).id)
      · refine .inl ⟨by simp [stepN, hc], fun e he => ?_⟩
        rcases (hmem e).1 he with h4 | rfl
        · exact h2 e h4
        · exact hc
      · refine .inr ⟨_, hin, hc, by simp [stepN, hc], fun e' he' hc' => ?_⟩
        rcases (hmem e').1 he' with h4 | rfl
        · rw [h2 e' h4] at hc'; cases hc'
        · exact lessB_irrefl _
    · rw [h2]
      cases hc : (!hasI out (nth (withC l c) k).id && mayB l c out (nth (withC l c) k).id && lessB (nth (withC l c) k).id e.id)
      · refine .inr ⟨e, he, h1, by simp only [stepN, Bool.not_true, Bool.false_or, hc]; rfl, fun e' he' hc' => ?_⟩
        rcases (hmem e').1 he' with h4 | rfl
        · exact h3 e' h4 hc'
        · rw [hc', Bool.true_and] at hc; exact hc
      · have hc2 := hc
        simp only [Bool.and_eq_true] at hc2
        refine .inr ⟨_, hin, by simp only [Bool.and_eq_true]; exact hc2.1, by simp only [stepN, Bool.not_true, Bool.false_or, hc]; rfl, fun e' he' hc' => ?_⟩
        rcases (hmem e').1 he' with h4 | rfl
        · have h5 := h3 e' h4 hc'
          cases h6 : lessB e'.id (nth (withC l c) k).id
          · rfl
          · rw [lessB_trans h6 hc2.2] at h5; cases h5
        · exact lessB_irrefl _
theorem nextF_eq {l : List Entry} (h : LogOk l) (c : Int) (out : List Id) : nextF l c out (withC l c).length = match nextR l c out with | some x => (x, true) | none => (⟨0, 0⟩, false) := by
  have hcand : ∀ e ∈ withC l c, (!hasI out e.id && mayB l c out e.id) = candB l c out e.id := fun e he => by
    rw [Bool.eq_iff_iff, candB_iff h, Bool.and_eq_true, Bool.not_eq_true']
    constructor
    · rintro ⟨h1, h2⟩
      exact ⟨⟨e, he, rfl⟩, fun hm => (by rw [hasI_iff.2 hm] at h1; cases h1), h2⟩
    · rintro ⟨-, h1, h2⟩
      refine ⟨?_, h2⟩
      cases g : hasI out e.id
      · rfl
      · exact (h1 (hasI_iff.1 g)).elim
  rcases nextF_inv (l := l) (c := c) (out := out) (withC l c).length (Nat.le_refl _) with ⟨h1, h2⟩ | ⟨e, he, h1, h2, h3⟩
  · rw [List.take_length] at h2
    have : nextR l c out = none := (nextR_none h).2 fun y => by
      cases hy : candB l c out y
      · rfl
      · obtain ⟨⟨e, he, rfl⟩, -⟩ := (candB_iff h).1 hy
        rw [← hcand e he, h2 e he] at hy; cases hy
    rw [h1, this]
  · rw [List.take_length] at h3
    have : nextR l c out = some e.id := (nextR_some h).2 ⟨by rw [← hcand e he]; exact h1, fun y hy => by
      obtain ⟨⟨e', he', rfl⟩, -⟩ := (candB_iff h).1 hy
      exact h3 e' he' (by rw [hcand e' he']; exact hy)⟩
    rw [h2, this]

/-- how many of a color are not there yet -/
def mOut (l : List Entry) (c : Int) (out : List Id) : Nat := (withC l c).countP fun e => !hasI out e.id
theorem mOut_le {l : List Entry} (h : LogOk l) (c : Int) (out : List Id) : mOut l c out ≤ 40 := Nat.le_trans List.countP_le_length (Nat.le_trans (withC_len l c) h.len)
theorem countP_less {α : Type} {p q : α → Bool} : ∀ {l : List α}, (∀ x ∈ l, q x = true → p x = true) → (∃ x ∈ l, p x = true ∧ q x = false) → l.countP q < l.countP p
  | [], _, h => by obtain ⟨x, hx, -⟩ := h; cases hx
  | y :: l, h1, h2 => by
    simp only [List.countP_cons]
    have hle : l.countP q ≤ l.countP p := List.countP_mono_left fun x hx hq => h1 x (by simp [hx]) hq
    obtain ⟨x, hx, hp, hq⟩ := h2
    rcases List.mem_cons.1 hx with rfl | hx
    · rw [hp, hq]; simp; omega
    · have ih := countP_less (l := l) (fun z hz => h1 z (by simp [hz])) ⟨x, hx, hp, hq⟩
      have := h1 y (by simp)
      cases hy : q y
      · simp; omega
      · rw [this hy]; simp; omega
theorem hasI_snoc {out : List Id} {x y : Id} : hasI (out ++ [x]) y = (hasI out y || decide (y = x)) := by simp [hasI]
theorem mOut_next {l : List Entry} (h : LogOk l) {c : Int} {out : List Id} {x : Id} (hn : candB l c out x = true) : mOut l c (out ++ [x]) < mOut l c out := by
  obtain ⟨⟨e, he, rfl⟩, h2, -⟩ := (candB_iff h).1 hn
  refine countP_less (fun y _ hy => ?_) ⟨e, he, ?_, ?_⟩
  · rw [hasI_snoc] at hy
    cases g : hasI out y.id
    · rfl
    · rw [g] at hy; cases hy
  · cases g : hasI out e.id
    · rfl
    · exact (h2 (hasI_iff.1 g)).elim
  · rw [hasI_snoc]; simp
def moreN (l : List Entry) (c : Int) : Nat → List Id → List Id
  | 0, out => out
  | n + 1, out => match nextR l c out with
    | some x => moreN l c n (out ++ [x])
    | none => out
/-- all that comes behind some ids -/
def more (l : List Entry) (c : Int) (out : List Id) : List Id := moreN l c (mOut l c out) out
theorem next_zero {l : List Entry} (h : LogOk l) {c : Int} {out : List Id} (hm : mOut l c out = 0) : nextR l c out = none := by
  cases hn : nextR l c out with
  | none => rfl
  | some x =>
    have := mOut_next h ((nextR_some h).1 hn).1
    omega
theorem moreN_eq {l : List Entry} (h : LogOk l) {c : Int} : ∀ (n m : Nat) (out : List Id), mOut l c out ≤ n → mOut l c out ≤ m → moreN l c n out = moreN l c m out
  | 0, 0, _, _, _ => rfl
  | 0, m + 1, out, h1, _ => by
    have := next_zero h (show mOut l c out = 0 by omega)
    simp [moreN, this]
  | n + 1, 0, out, _, h2 => by
    have := next_zero h (show mOut l c out = 0 by omega)
    simp [moreN, this]
  | n + 1, m + 1, out, h1, h2 => by
    simp only [moreN]
    cases hn : nextR l c out with
    | none => rfl
    | some x =>
      have := mOut_next h ((nextR_some h).1 hn).1
      exact moreN_eq h n m _ (by omega) (by omega)
theorem more_some {l : List Entry} (h : LogOk l) {c : Int} {out : List Id} {x : Id} (hn : nextR l c out = some x) : more l c out = more l c (out ++ [x]) := by
  have hlt := mOut_next h ((nextR_some h).1 hn).1
  obtain ⟨m, hm⟩ : ∃ m, mOut l c out = m + 1 := ⟨mOut l c out - 1, by omega⟩
  unfold more
  rw [hm]
  simp only [moreN, hn]
  exact moreN_eq h _ _ _ (by omega) (Nat.le_refl _)
theorem more_none {l : List Entry} {c : Int} {out : List Id} (hn : nextR l c out = none) : more l c out = out := by
  unfold more
  cases mOut l c out <;> simp [moreN, hn]
end Go.Proofs.Ytocglfkflpkafaa
/- A loop whose objects change places: what stays is chosen anew in each round. -/
namespace Go.Proofs.Ytocglfkflpkafaa
open Go.RowKit
section
variable {P : Program} {x : Cx} {nt : Nat} {st : St}
/-- temporaries and objects are let go, but some -/
def St.sel (st : St) (live ks : List Nat) : St :=
  ⟨fun t => if t ∈ live then renT false (pos ks) (frzAt true st.heap) (st.env t) else .top, subHeap (pos ks) (frzAt true st.heap) st.heap ks⟩
theorem weak_sel (live ks : List Nat) (hnd : ks.Nodup) (hlt : ∀ k ∈ ks, k < st.heap.length) (hpre : ∀ i, i < x.H0.length → ks[i]? = some i) : Weak x nt st (st.sel live ks) := by
  intro a w ⟨⟨C, hr, he⟩, hdf, hsz⟩
  obtain ⟨k1, k2⟩ := hr.restrict hnd hlt hpre
  refine ⟨⟨_, k1, fun t => ?_⟩, hdf, hsz⟩
  simp only [St.sel]
  split
  · exact renT_rep k2 (he t)
  · exact .any
theorem sel_mk (d : PV) (l : List (Nat × PV)) (H : List AObj) (live ks : List Nat) : (St.mk (mkE d l) H).sel live ks = ⟨mkE .top (live.map fun t => (t, renT false (pos ks) (frzAt true H) (mkE d l t))), subHeap (pos ks) (frzAt true H) H ks⟩ := by
  simp only [St.sel, St.mk.injEq, and_true]
  funext t
  induction live with
  | nil => simp [mkE]
  | cons k live ih =>
    simp only [List.map_cons, mkE]
    by_cases e : k = t
    · subst e; simp
    · rw [if_neg e, ← ih]
      simp [Ne.symm e]
/-- a round has ended -/
def againS (x : Cx) (nt : Nat) (I : Nat → St → Prop) (n : Nat) (st : St) : Prop := ∃ n' st', n' < n ∧ Weak x nt st st' ∧ I n' st'
theorem loop_sel {b : LC} {Q : AE → St → Prop} (I : Nat → St → Prop) (n : Nat) (h0 : ∃ st', Weak x nt st st' ∧ I n st')
    (hstep : ∀ n st, I n st → walk P x nt b (@thenB ⟨againS x nt I n⟩ Q) st) : W P x nt (.loop b) Q st := by
  refine W_loop (fun n st => ∃ st', Weak x nt st st' ∧ I n st') n h0 ?_
  rintro n st ⟨st', hw, hI⟩
  refine W_weaken hw ((W_walk (hstep n st' hI)).mono fun e st2 hq => ?_)
  cases e with
  | normal => obtain ⟨n', st3, g2, g3, g4⟩ := hq; exact ⟨n', g2, st3, g3, g4⟩
  | exit id => exact hq
  | ret => exact hq
end
end Go.Proofs.Ytocglfkflpkafaa
/- Orders: contracts. -/
namespace Go.Proofs.Ytocglfkflpkafaa
set_option linter.unusedSimpArgs false
set_option linter.unusedVariables false
open Go.RowKit
/-- what is wrong with id k of some -/
def someErr (l : List Entry) (ids : List Id) (k : Nat) : Int := if findE l (nth ids k) < 0 then 5 else if hasI (ids.take k) (nth ids k) = true then 6 else 0
def someIds (l : List Entry) (ids : List Id) : Int := firstNZ (someErr l ids) ids.length
theorem cId_row (l : List Id) : ∀ row ∈ l.map cId, row.length = 2 := by simp [cId]
/-- ids that are there, each once -/
structure SomeOk (l : List Entry) (ids : List Id) : Prop where
  there : ∀ x ∈ ids, 0 ≤ findE l x
  once : ids.Nodup
theorem some_ok {l : List Entry} {ids : List Id} : someIds l ids = 0 ↔ SomeOk l ids := by
  have key : ∀ k, someErr l ids k = 0 ↔ 0 ≤ findE l (nth ids k) ∧ hasI (ids.take k) (nth ids k) = false := fun k => by
    unfold someErr
    split
    · exact ⟨fun e => (by cases e), fun e => by omega⟩
    · split
      · rename_i h; exact ⟨fun e => (by cases e), fun e => by rw [h] at e; simp at e⟩
      · rename_i h1 h; exact ⟨fun _ => ⟨by omega, by simpa using h⟩, fun _ => rfl⟩
  rw [someIds, firstNZ_zero]
  constructor
  · intro h
    refine ⟨fun x hx => ?_, ?_⟩
    · obtain ⟨k, hk, rfl⟩ := List.getElem_of_mem hx
      rw [← nth_eq _ _ hk]; exact ((key k).1 (h k hk)).1
    · rw [List.Nodup, List.pairwise_iff_getElem]
      intro i j hi hj hij e
      have := ((key j).1 (h j hj)).2
      have h2 : hasI (ids.take j) (nth ids j) = true := hasI_iff.2 (by rw [nth_eq _ _ hj, ← e, List.mem_take_iff_getElem]; exact ⟨i, by omega, rfl⟩)
      rw [h2] at this; cases this
  · intro h k hk
    refine (key k).2 ⟨h.there _ (by rw [nth_eq _ _ hk]; exact List.getElem_mem hk), ?_⟩
    cases e : hasI (ids.take k) (nth ids k)
    · rfl
    · have h2 := hasI_iff.1 e
      rw [List.mem_take_iff_getElem] at h2
      obtain ⟨i, hi, h3⟩ := h2
      have := List.pairwise_iff_getElem.1 h.once i k (by omega) hk (by omega)
      rw [nth_eq _ _ hk] at h3
      exact (this h3).elim

/-- is something behind id i in its past? -/
def ordAt (l : List Entry) (ids : List Id) (i : Nat) : Bool := (ids.drop i).any fun y => hasI (pastAt (pasts l) l (nth ids i)) y
def ordB (l : List Entry) (ids : List Id) : Bool := !(List.range ids.length).any (ordAt l ids)
theorem closedO (l : List Entry) (x : Id) : ClosedH [.box [pvPasts l (pasts l)], .box (cId x)] [.ptr 0 0, .ptr 1 0] := by
  refine closed2 _ _ ?_ ?_ ?_ ?_ ?_ ?_ <;> simp [pvPasts, cId, renCell, renLeaf]
theorem ptail (l : List Entry) (c : Int) : PV.isPure (pvPasts l (pasts l)) = true := rfl
end Go.Proofs.Ytocglfkflpkafaa
/- order.Begun, Is, More, First: contracts. -/
namespace Go.Proofs.Ytocglfkflpkafaa
set_option linter.unusedSimpArgs false
set_option linter.unusedVariables false
open Go.RowKit
def oddB (l : List Entry) (c : Int) (ids : List Id) (y : Id) : Bool := decide (findE (withC l c) y < 0) || !mayB l c ids y
theorem closedB (l : List Entry) (c : Int) (ids : List Id) : ClosedH [.box [pvP l c ids]] [.ptr 0 0] := closed1 _ (by simp [pvP, renCell, renLeaf]) (by simp [pvP, renCell, renLeaf]) (by simp [pvP, renCell, renLeaf])
/-- what is wrong with colors and ids of a log -/
def begunErr (l : List Entry) (c : Int) (ids : List Id) : Int :=
  if checkLog l ≠ 0 then checkLog l else if someIds l ids ≠ 0 then someIds l ids else if wthn c 1 7 = false then 3
  else if (!ordB l ids || ids.any (oddB l c ids)) = true then 4 else 0
theorem some_len {l : List Entry} {ids : List Id} (h : LogOk l) (hs : someIds l ids = 0) : ids.length ≤ 40 := by
  have hso := some_ok.1 hs
  have := asc_len (sortI_asc hso.once) fun y hy => by
    obtain ⟨k, k1, k2, k3⟩ := findE_spec (hso.there y (sortI_mem.1 hy))
    rw [← k3]; exact h.id_ok k2
  rw [sortI_length] at this
  exact this
def isErr (l : List Entry) (ids : List Id) : Int := if checkLog l ≠ 0 then checkLog l else someIds l ids
def isOk (l : List Entry) (ids : List Id) : Bool := decide (isErr l ids = 0) && ordB l ids
theorem begun_ok {l : List Entry} {c : Int} {ids : List Id} (h : begunErr l c ids = 0) : checkLog l = 0 ∧ someIds l ids = 0 ∧ wthn c 1 7 = true ∧ ordB l ids = true ∧ ∀ y ∈ ids, oddB l c ids y = false := by
  unfold begunErr at h
  split at h
  · rename_i h0; exact (h0 h).elim
  · rename_i h0
    split at h
    · rename_i h1; exact (h1 h).elim
    · rename_i h1
      split at h
      · cases h
      · rename_i h2
        split at h
        · cases h
        · rename_i h3
          simp only [Bool.or_eq_true, Bool.not_eq_true', not_or, Bool.not_eq_false, Bool.not_eq_true, List.any_eq_false] at h3
          exact ⟨by simpa using h0, by simpa using h1, by simpa using h2, h3.1, fun y hy => by simpa using h3.2 y hy⟩
def moreIds (l : List Entry) (c : Int) (ids : List Id) : List Id := if begunErr l c ids = 0 then more l c ids else []
end Go.Proofs.Ytocglfkflpkafaa
/- Orders in the law text's words: contracts. -/
namespace Go.Proofs.Ytocglfkflpkafaa
set_option linter.unusedSimpArgs false
set_option linter.unusedVariables false
open Go.RowKit
theorem nthM {α : Type} [Inhabited α] {l : List α} {k : Nat} (h : k < l.length) : nth l k ∈ l := by rw [nth_eq _ _ h]; exact List.getElem_mem h
theorem ordB_false {l : List Entry} {ids : List Id} {i k : Nat} (hik : i ≤ k) (hk : k < ids.length) (h : hasI (pastAt (pasts l) l (nth ids i)) (nth ids k) = true) : ordB l ids = false := by
  simp only [ordB, Bool.not_eq_false', List.any_eq_true, List.mem_range]
  refine ⟨i, by omega, ?_⟩
  unfold ordAt
  rw [List.any_eq_true]
  refine ⟨nth ids k, ?_, h⟩
  rw [nth_eq _ _ hk, List.mem_drop_iff_getElem]
  exact ⟨k - i, by omega, by simp [show i + (k - i) = k by omega]⟩
theorem past_self {l : List Entry} (h : LogOk l) {y : Id} (hy : 0 ≤ findE l y) : hasI (pastAt (pasts l) l y) y = false := by
  obtain ⟨k, k1, k2, k3⟩ := findE_spec hy
  cases e : hasI (pastAt (pasts l) l y) y
  · rfl
  · rw [pastAt_eq, k1, Int.toNat_natCast] at e
    obtain ⟨j, j1, j2⟩ := pastOf_lt h k k2 _ (hasI_iff.1 e)
    have := h.inj (by omega) k2 (j2.trans k3.symm)
    omega
theorem ordB_true {l : List Entry} {ids : List Id} (h : LogOk l) (hs : ∀ x ∈ ids, 0 ≤ findE l x) (ha : ∀ i k, i < k → k < ids.length → hasI (pastAt (pasts l) l (nth ids i)) (nth ids k) = false) : ordB l ids = true := by
  simp only [ordB, Bool.not_eq_true', List.any_eq_false, List.mem_range]
  intro i hi
  unfold ordAt
  rw [Bool.not_eq_true, List.any_eq_false]
  intro y hy
  rw [List.mem_drop_iff_getElem] at hy
  obtain ⟨j, hj, rfl⟩ := hy
  have hlt : i + j < ids.length := by omega
  rw [← nth_eq _ _ hlt]
  rcases Nat.eq_zero_or_pos j with rfl | hp
  · rw [Nat.add_zero, past_self h (hs _ (nthM hi))]; simp
  · rw [ha i (i + j) (by omega) hlt]; simp
theorem mayB_false {l : List Entry} (h : LogOk l) {c : Int} {out : List Id} {i k : Nat} (hi : i < l.length) (hk : k < l.length) (h1 : nth (marksOf l i) k = true) (h2 : meetB (nth l k).c c = true) (h3 : hasI out (nth l k).id = false) : mayB l c out (nth l i).id = false := by
  simp only [mayB, Bool.not_eq_false', List.any_eq_true]
  refine ⟨nth l k, mem_withC.2 ⟨k, hk, rfl, h2⟩, ?_⟩
  simp only [blkB, pastAt_eq, h.find hi, Int.toNat_natCast, h3, Bool.not_false, Bool.and_true]
  exact hasI_iff.2 ((marksOf_iff h hi hk).1 h1)
theorem mayB_true {l : List Entry} (h : LogOk l) {c : Int} {out : List Id} {i : Nat} (hi : i < l.length) (ha : ∀ k, k < l.length → nth (marksOf l i) k = true → meetB (nth l k).c c = true → hasI out (nth l k).id = true) : mayB l c out (nth l i).id = true := by
  simp only [mayB, Bool.not_eq_true', List.any_eq_false]
  intro e he
  obtain ⟨k, hk, rfl, hm⟩ := mem_withC.1 he
  simp only [blkB, pastAt_eq, h.find hi, Int.toNat_natCast, Bool.and_eq_true, Bool.not_eq_true', not_and, Bool.not_eq_false]
  intro hp
  exact ha k hk ((marksOf_iff h hi hk).2 (hasI_iff.1 hp)) hm
theorem findW {l : List Entry} (h : LogOk l) {c : Int} {k : Nat} (hk : k < l.length) : findE (withC l c) (nth l k).id < 0 ↔ meetB (nth l k).c c = false := by
  rw [findE_neg]
  constructor
  · intro hn
    cases e : meetB (nth l k).c c
    · rfl
    · exact (hn _ (mem_withC.2 ⟨k, hk, rfl, e⟩) rfl).elim
  · intro hm e he e2
    obtain ⟨j, hj, rfl, hmj⟩ := mem_withC.1 he
    obtain rfl := h.inj hj hk e2
    rw [hm] at hmj; cases hmj
end Go.Proofs.Ytocglfkflpkafaa
/- All that comes, in the law text's words: a contract. -/
namespace Go.Proofs.Ytocglfkflpkafaa
set_option linter.unusedSimpArgs false
set_option linter.unusedVariables false
open Go.RowKit
theorem mem_idsUp {y : Id} {r k : Nat} (h : y ∈ allIds) (hl : lessB y ⟨r, ((k + 1 : Nat) : Int)⟩ = true) : y ∈ idsUp r k := by
  have ho := mem_allIds.1 h
  obtain ⟨a, b⟩ := y
  simp only [okId, Bool.and_eq_true, wthn_iff] at ho
  simp only [lessB, decide_eq_true_eq] at hl
  unfold idsUp
  rw [List.mem_append, List.mem_flatMap]
  by_cases e : a = (r : Int)
  · refine .inr ?_
    unfold idRow
    rw [List.mem_map]
    exact ⟨(b - 1).toNat, List.mem_range.2 (by omega), by rw [Id.mk.injEq]; omega⟩
  · refine .inl ⟨a.toNat, List.mem_range.2 (by omega), ?_⟩
    unfold idRow
    rw [List.mem_map]
    exact ⟨(b - 1).toNat, List.mem_range.2 (by omega), by rw [Id.mk.injEq]; omega⟩
/-- what was found of the first that may come: nothing yet (f = false), or it -/
def Seen (l : List Entry) (c : Int) (out : List Id) (f : Bool) (pre out' : List Id) : Prop :=
  (f = false → out' = out ∧ ∀ y ∈ pre, candB l c out y = false) ∧ (f = true → ∃ x, nextR l c out = some x ∧ out' = out ++ [x])
end Go.Proofs.Ytocglfkflpkafaa
/- Servers: waits, and where a number stands among them: contracts. -/
namespace Go.Proofs.Ytocglfkflpkafaa
set_option linter.unusedSimpArgs false
set_option linter.unusedVariables false
open Go.RowKit
structure Wt where
  n : Int
  t : Int
  f : Bool
deriving DecidableEq, Inhabited
def cW (w : Wt) : List PV := [.int .i64 w.n, .int .i64 w.t, .bool w.f]
theorem cW_row (l : List Wt) : ∀ row ∈ l.map cW, row.length = 3 := fun row h => by
  obtain ⟨w, -, rfl⟩ := List.mem_map.1 h; rfl
/-- how many stand before a number -/
def posW (l : List Wt) (n : Int) : Nat := l.countP fun w => decide (w.n < n)
def foundW (l : List Wt) (n : Int) : Bool := l.any fun w => decide (w.n = n)
def upW (l : List Wt) : Prop := ∀ i j, i < j → j < l.length → (nth l i).n < (nth l j).n
theorem posW_at {l : List Wt} {n : Int} {i : Nat} (hi : i ≤ l.length) (h1 : ∀ k, k < i → (nth l k).n < n) (h2 : ∀ k, i ≤ k → k < l.length → ¬ (nth l k).n < n) : posW l n = i := by
  unfold posW
  conv => lhs; rw [← List.take_append_drop i l]
  rw [List.countP_append]
  have a : (l.take i).countP (fun w => decide (w.n < n)) = (l.take i).length := by
    rw [List.countP_eq_length]
    intro w hw
    obtain ⟨k, hk, rfl⟩ := List.getElem_of_mem hw
    rw [List.length_take] at hk
    have := h1 k (by omega)
    rw [nth_eq _ _ (by omega)] at this
    simpa using this
  have b : (l.drop i).countP (fun w => decide (w.n < n)) = 0 := by
    rw [List.countP_eq_zero]
    intro w hw
    obtain ⟨k, hk, rfl⟩ := List.getElem_of_mem hw
    rw [List.length_drop] at hk
    have := h2 (i + k) (by omega) (by omega)
    rw [nth_eq _ _ (by omega)] at this
    simpa using this
  rw [a, b, List.length_take]; omega
theorem foundW_at {l : List Wt} {n : Int} (hu : upW l) {i : Nat} (hi : i ≤ l.length) (h1 : ∀ k, k < i → (nth l k).n < n) (h2 : ∀ k, i ≤ k → k < l.length → ¬ (nth l k).n < n) : foundW l n = decide (i < l.length ∧ (nth l i).n = n) := by
  rw [Bool.eq_iff_iff, decide_eq_true_eq]
  unfold foundW
  rw [List.any_eq_true]
  constructor
  · rintro ⟨w, hw, hn⟩
    obtain ⟨k, hk, rfl⟩ := List.getElem_of_mem hw
    rw [← nth_eq _ _ hk, decide_eq_true_eq] at hn
    by_cases h : k < i
    · have := h1 k h; omega
    · by_cases e : k = i
      · subst e; exact ⟨hk, hn⟩
      · have a := hu i k (by omega) hk
        have b := h2 i (Nat.le_refl _) (by omega)
        omega
  · rintro ⟨a, b⟩
    exact ⟨_, nthM a, by simpa using b⟩
theorem skWithin_meets (n a b : Int) : Meets Try.prog 31 [.int .i64 n, .int .i64 a, .int .i64 b] [] (.bool (wthn n a b)) [] := by
  refine Meets.of_walk Try.func31 Try.ntmps31 low31 res31 (by simp) fun x hx => ?_
  by_cases h : a ≤ n
  all_goals
    simp only [go_sem, Nat.reduceLT, Nat.reduceAdd, Nat.reduceEqDiff, Nat.reduceLeDiff, Nat.reduceSub, Nat.reduceMul, Int.reduceEq, eq_self, reduceIte, L31, R31, h, decide_true, decide_false]
    refine ret_pure hx ?_
    simp only [go_sem, Nat.reduceLT, Nat.reduceAdd, Nat.reduceEqDiff, Nat.reduceLeDiff, Nat.reduceSub, Nat.reduceMul, Int.reduceEq, eq_self, reduceIte, L31, R31, wthn, h, decide_false, true_and, false_and]
theorem skNumber_meets (n : Int) : Meets Try.prog 32 [.int .i64 n] [] (.bool (wthn n 1 20)) [] := by
  refine Meets.of_walk Try.func32 Try.ntmps32 low32 res32 (by simp) fun x hx => ?_
  simp only [go_sem, Nat.reduceLT, Nat.reduceAdd, Nat.reduceEqDiff, Nat.reduceLeDiff, Nat.reduceSub, Nat.reduceMul, Int.reduceEq, eq_self, reduceIte, L32, R32]
  refine ops_call (.pure (skWithin_meets _ _ _)) ?_
  simp only [go_sem, Nat.reduceLT, Nat.reduceAdd, Nat.reduceEqDiff, Nat.reduceLeDiff, Nat.reduceSub, Nat.reduceMul, Int.reduceEq, eq_self, reduceIte]
  refine ret_pure hx ?_
  simp [go_sem, Nat.reduceLT, Nat.reduceAdd, Nat.reduceEqDiff, Nat.reduceLeDiff, Nat.reduceSub, Nat.reduceMul, Int.reduceEq, eq_self, reduceIte, L32, R32]
def cmpN (a b : Int) : Int := if a < b then -1 else if b < a then 1 else 0
theorem skCmp_meets (w : Wt) (n : Int) : Meets Try.prog 45 [.agg (cW w), .int .i64 n] [] (.int .i64 (cmpN w.n n)) [] := by
  refine Meets.of_walk Try.func45 Try.ntmps45 low45 res45 (by simp) fun x hx => ?_
  by_cases h1 : w.n < n
  · simp only [go_sem, Nat.reduceLT, Nat.reduceAdd, Nat.reduceEqDiff, Nat.reduceLeDiff, Nat.reduceSub, Nat.reduceMul, Int.reduceEq, eq_self, reduceIte, L45, R45, cW, h1]
    refine ret_pure hx ?_
    simp [go_sem, Nat.reduceLT, Nat.reduceAdd, Nat.reduceEqDiff, Nat.reduceLeDiff, Nat.reduceSub, Nat.reduceMul, Int.reduceEq, eq_self, reduceIte, L45, R45, cmpN, h1]
  · by_cases h2 : n < w.n
    · simp only [go_sem, Nat.reduceLT, Nat.reduceAdd, Nat.reduceEqDiff, Nat.reduceLeDiff, Nat.reduceSub, Nat.reduceMul, Int.reduceEq, eq_self, reduceIte, L45, R45, cW, h1, h2]
      refine ret_pure hx ?_
      simp [go_sem, Nat.reduceLT, Nat.reduceAdd, Nat.reduceEqDiff, Nat.reduceLeDiff, Nat.reduceSub, Nat.reduceMul, Int.reduceEq, eq_self, reduceIte, L45, R45, cmpN, h1, h2]
    · simp only [go_sem, Nat.reduceLT, Nat.reduceAdd, Nat.reduceEqDiff, Nat.reduceLeDiff, Nat.reduceSub, Nat.reduceMul, Int.reduceEq, eq_self, reduceIte, L45, R45, cW, h1, h2]
      refine ret_pure hx ?_
      simp [go_sem, Nat.reduceLT, Nat.reduceAdd, Nat.reduceEqDiff, Nat.reduceLeDiff, Nat.reduceSub, Nat.reduceMul, Int.reduceEq, eq_self, reduceIte, L45, R45, cmpN, h1, h2]
set_option maxHeartbeats 1000000 in
theorem bsW_meets (l : List Wt) (n : Int) (hu : upW l) (hl : l.length ≤ 4611686018427387904) :
    Meets Try.prog 44 [.list (l.map cW), .int .i64 n, .clo 45 []] [] (.tup [.int .i64 (posW l n), .bool (foundW l n)]) [] := by
  refine Meets.of_walk Try.func44 Try.ntmps44 low44 res44 (by simp) fun x hx => ?_
  simp only [go_sem, Nat.reduceLT, Nat.reduceAdd, Nat.reduceEqDiff, Nat.reduceLeDiff, Nat.reduceSub, Nat.reduceMul, Int.reduceEq, eq_self, reduceIte, L44, R44]
  refine loop_inv [0, 1, 2, 8, 9, 10] 0 (fun g st => ∃ i j : Nat, i ≤ j ∧ j ≤ l.length ∧ j - i = g ∧ (∀ k, k < i → (nth l k).n < n) ∧ (∀ k, j ≤ k → k < l.length → ¬ (nth l k).n < n) ∧
    st = ⟨mkE .top [(0, .list (l.map cW)), (1, .int .i64 n), (2, .clo 45 []), (8, .int .i64 l.length), (9, .int .i64 i), (10, .int .i64 j)], []⟩) l.length (by simp [hx]) (by simp) ?_ ?_
  · refine ⟨0, l.length, by omega, by omega, by omega, fun k h => by omega, fun k h1 h2 => by omega, ?_⟩
    simp [trim_mk, go_sem, Nat.reduceLT, Nat.reduceAdd, Nat.reduceEqDiff, Nat.reduceLeDiff, Nat.reduceSub, Nat.reduceMul, Int.reduceEq, eq_self, reduceIte, subHeap, renObj, pos]
  · rintro g st ⟨i, j, hij, hj, hg, hlo, hhi, rfl⟩
    by_cases hlt : i < j
    · have w1 : IntKind.i64.wrap ((i : Int) + (j : Int)) = ((i + j : Nat) : Int) := by rw [IntKind.wrap_i64]; omega
      obtain ⟨h, hh⟩ : ∃ h, h = (i + j) / 2 := ⟨_, rfl⟩
      have hgt : l[h]? = some (nth l h) := nth_get? _ _ (by omega)
      have hhl : h < l.length := by omega
      have w2 : IntKind.u64.wrap ((i + j : Nat) : Int) = ((i + j : Nat) : Int) := by rw [IntKind.wrap_u64]; omega
      have w3 : ((i + j : Nat) : Int).fdiv (2 ^ min (Int.toNat 1) 64) = (h : Int) := by
        show Int.fdiv _ 2 = _
        rw [Int.fdiv_eq_ediv_of_nonneg _ (by omega)]; omega
      have w4 : IntKind.i64.wrap (h : Int) = (h : Int) := by rw [IntKind.wrap_i64]; omega
      have w5 := i64_up (k := h) (by omega)
      simp only [go_sem, Nat.reduceLT, Nat.reduceAdd, Nat.reduceEqDiff, Nat.reduceLeDiff, Nat.reduceSub, Nat.reduceMul, Int.reduceEq, eq_self, reduceIte, hlt, w1, w2, w3, w4, Int.reduceLE, hgt, hhl, cW]
      refine ops_callv rfl (by kernel_rfl) (.pureE (skCmp_meets (nth l h) n) (by simp [go_sem, Nat.reduceLT, Nat.reduceAdd, Nat.reduceEqDiff, Nat.reduceLeDiff, Nat.reduceSub, Nat.reduceMul, Int.reduceEq, eq_self, reduceIte, cW])) ?_
      by_cases hc : (nth l h).n < n
      · have e : cmpN (nth l h).n n < 0 := by unfold cmpN; rw [if_pos hc]; decide
        simp only [go_sem, Nat.reduceLT, Nat.reduceAdd, Nat.reduceEqDiff, Nat.reduceLeDiff, Nat.reduceSub, Nat.reduceMul, Int.reduceEq, eq_self, reduceIte, e, w5]
        refine ⟨by simp, j - (h + 1), by omega, h + 1, j, by omega, hj, rfl, fun k hk => ?_, hhi, ?_⟩
        · by_cases ek : k = h
          · rw [ek]; exact hc
          · have := hu k h (by omega) (by omega); omega
        · simp [trim_mk, go_sem, Nat.reduceLT, Nat.reduceAdd, Nat.reduceEqDiff, Nat.reduceLeDiff, Nat.reduceSub, Nat.reduceMul, Int.reduceEq, eq_self, reduceIte, subHeap, renObj, pos]
      · have e : ¬ cmpN (nth l h).n n < 0 := by unfold cmpN; rw [if_neg hc]; split <;> decide
        simp only [go_sem, Nat.reduceLT, Nat.reduceAdd, Nat.reduceEqDiff, Nat.reduceLeDiff, Nat.reduceSub, Nat.reduceMul, Int.reduceEq, eq_self, reduceIte, e]
        refine ⟨by simp, h - i, by omega, i, h, by omega, by omega, rfl, hlo, fun k h1 h2 => ?_, ?_⟩
        · by_cases ek : k = h
          · rw [ek]; exact hc
          · have := hu h k (by omega) h2; omega
        · simp [trim_mk, go_sem, Nat.reduceLT, Nat.reduceAdd, Nat.reduceEqDiff, Nat.reduceLeDiff, Nat.reduceSub, Nat.reduceMul, Int.reduceEq, eq_self, reduceIte, subHeap, renObj, pos]
    · obtain rfl : i = j := by omega
      have hp := posW_at hj hlo hhi
      have hf := foundW_at hu hj hlo hhi
      by_cases hil : i < l.length
      · have hgt : l[i]? = some (nth l i) := nth_get? _ _ hil
        simp only [go_sem, Nat.reduceLT, Nat.reduceAdd, Nat.reduceEqDiff, Nat.reduceLeDiff, Nat.reduceSub, Nat.reduceMul, Int.reduceEq, eq_self, reduceIte, hlt, hil, hgt, cW]
        refine ops_callv rfl (by kernel_rfl) (.pureE (skCmp_meets (nth l i) n) (by simp [go_sem, Nat.reduceLT, Nat.reduceAdd, Nat.reduceEqDiff, Nat.reduceLeDiff, Nat.reduceSub, Nat.reduceMul, Int.reduceEq, eq_self, reduceIte, cW])) ?_
        have hn := hhi i (Nat.le_refl _) hil
        have e : (cmpN (nth l i).n n = 0) ↔ (nth l i).n = n := by
          unfold cmpN
          rw [if_neg hn]
          split
          · simp; omega
          · simp; omega
        simp only [go_sem, Nat.reduceLT, Nat.reduceAdd, Nat.reduceEqDiff, Nat.reduceLeDiff, Nat.reduceSub, Nat.reduceMul, Int.reduceEq, eq_self, reduceIte, e]
        refine ret_pure hx ?_
        simp [go_sem, Nat.reduceLT, Nat.reduceAdd, Nat.reduceEqDiff, Nat.reduceLeDiff, Nat.reduceSub, Nat.reduceMul, Int.reduceEq, eq_self, reduceIte, L44, R44, hp, hf, hil]
      · simp only [go_sem, Nat.reduceLT, Nat.reduceAdd, Nat.reduceEqDiff, Nat.reduceLeDiff, Nat.reduceSub, Nat.reduceMul, Int.reduceEq, eq_self, reduceIte, hlt, hil]
        refine ret_pure hx ?_
        simp [go_sem, Nat.reduceLT, Nat.reduceAdd, Nat.reduceEqDiff, Nat.reduceLeDiff, Nat.reduceSub, Nat.reduceMul, Int.reduceEq, eq_self, reduceIte, L44, R44, hp, hf, hil]
theorem skFind_meets (l : List Wt) (n : Int) (hu : upW l) (hl : l.length ≤ 4611686018427387904) :
    Meets Try.prog 38 [.list (l.map cW), .int .i64 n] [] (.tup [.int .i64 (posW l n), .bool (foundW l n)]) [] := by
  refine Meets.of_walk Try.func38 Try.ntmps38 low38 res38 (by simp) fun x hx => ?_
  simp only [go_sem, Nat.reduceLT, Nat.reduceAdd, Nat.reduceEqDiff, Nat.reduceLeDiff, Nat.reduceSub, Nat.reduceMul, Int.reduceEq, eq_self, reduceIte, L38, R38]
  refine ops_call (.pureE (bsW_meets l n hu hl) (by simp [go_sem, Nat.reduceLT, Nat.reduceAdd, Nat.reduceEqDiff, Nat.reduceLeDiff, Nat.reduceSub, Nat.reduceMul, Int.reduceEq, eq_self, reduceIte])) ?_
  simp only [go_sem, Nat.reduceLT, Nat.reduceAdd, Nat.reduceEqDiff, Nat.reduceLeDiff, Nat.reduceSub, Nat.reduceMul, Int.reduceEq, eq_self, reduceIte]
  refine ret_pure hx ?_
  simp [go_sem, Nat.reduceLT, Nat.reduceAdd, Nat.reduceEqDiff, Nat.reduceLeDiff, Nat.reduceSub, Nat.reduceMul, Int.reduceEq, eq_self, reduceIte, L38, R38]
end Go.Proofs.Ytocglfkflpkafaa
/- Servers: which wait is first, numbers that are there: contracts. -/
namespace Go.Proofs.Ytocglfkflpkafaa
set_option linter.unusedSimpArgs false
set_option linter.unusedVariables false
open Go.RowKit
/-- order of waits by time, then number -/
def aheadV (a b : Wt) : Int := if a.t = b.t then IntKind.i64.wrap (a.n - b.n) else IntKind.i64.wrap (a.t - b.t)
def stepF (l : List Wt) (at' : Int) (k : Nat) : Int := if at' < 0 ∨ aheadV (nth l k) (nth l at'.toNat) < 0 then (k : Int) else at'
def firstK (l : List Wt) (k : Nat) : Int := (List.range k).foldl (stepF l) (-1)
def firstW (l : List Wt) : Int := firstK l l.length
theorem firstK_succ (l : List Wt) (k : Nat) : firstK l (k + 1) = stepF l (firstK l k) k := by
  unfold firstK; rw [List.range_succ, List.foldl_append]; rfl
theorem firstK_lt (l : List Wt) : ∀ k, firstK l k < (k : Int) ∧ -1 ≤ firstK l k
  | 0 => by simp [firstK]
  | k + 1 => by
    have := firstK_lt l k
    rw [firstK_succ]
    unfold stepF
    split <;> omega
theorem skAhead_meets (a b : Wt) : Meets Try.prog 43 [.agg (cW a), .agg (cW b)] [] (.int .i64 (aheadV a b)) [] := by
  refine Meets.of_walk Try.func43 Try.ntmps43 low43 res43 (by simp) fun x hx => ?_
  by_cases h : a.t = b.t
  all_goals
    simp only [go_sem, Nat.reduceLT, Nat.reduceAdd, Nat.reduceEqDiff, Nat.reduceLeDiff, Nat.reduceSub, Nat.reduceMul, Int.reduceEq, eq_self, reduceIte, L43, R43, cW, h]
    refine ret_pure hx ?_
    simp [go_sem, Nat.reduceLT, Nat.reduceAdd, Nat.reduceEqDiff, Nat.reduceLeDiff, Nat.reduceSub, Nat.reduceMul, Int.reduceEq, eq_self, reduceIte, L43, R43, aheadV, h]
set_option maxHeartbeats 1000000 in
theorem skFirst_meets (l : List Wt) (hl : l.length ≤ 4611686018427387904) : Meets Try.prog 34 [.list (l.map cW)] [] (.int .i64 (firstW l)) [] := by
  refine Meets.of_walk Try.func34 Try.ntmps34 low34 res34 (by simp) fun x hx => ?_
  simp only [go_sem, Nat.reduceLT, Nat.reduceAdd, Nat.reduceEqDiff, Nat.reduceLeDiff, Nat.reduceSub, Nat.reduceMul, Int.reduceEq, eq_self, reduceIte, L34, R34]
  refine loop_inv [0, 3, 6, 7] 0 (fun n st => ∃ k : Nat, k + n = l.length ∧
    st = ⟨mkE .top [(0, .list (l.map cW)), (3, .int .i64 (firstK l k)), (6, .int .i64 l.length), (7, .int .i64 k)], []⟩) l.length (by simp [hx]) (by simp) ?_ ?_
  · refine ⟨0, by omega, ?_⟩
    simp [trim_mk, go_sem, Nat.reduceLT, Nat.reduceAdd, Nat.reduceEqDiff, Nat.reduceLeDiff, Nat.reduceSub, Nat.reduceMul, Int.reduceEq, eq_self, reduceIte, subHeap, renObj, pos, firstK]
  · rintro n st ⟨k, hk, rfl⟩
    by_cases hlt : k < l.length
    · have hg : l[k]? = some (nth l k) := nth_get? _ _ hlt
      have wk := i64_up (k := k) (by omega)
      have hs := firstK_succ l k
      obtain ⟨b1, b2⟩ := firstK_lt l k
      by_cases hn : firstK l k < 0
      · have e : firstK l (k + 1) = (k : Int) := by rw [hs, stepF, if_pos (.inl hn)]
        simp only [go_sem, Nat.reduceLT, Nat.reduceAdd, Nat.reduceEqDiff, Nat.reduceLeDiff, Nat.reduceSub, Nat.reduceMul, Int.reduceEq, eq_self, reduceIte, hlt, hg, cW, hn, wk]
        refine ⟨by simp, n - 1, by omega, k + 1, by omega, ?_⟩
        simp [trim_mk, go_sem, Nat.reduceLT, Nat.reduceAdd, Nat.reduceEqDiff, Nat.reduceLeDiff, Nat.reduceSub, Nat.reduceMul, Int.reduceEq, eq_self, reduceIte, subHeap, renObj, pos, e]
      · obtain ⟨m, hm⟩ : ∃ m : Nat, firstK l k = m := ⟨(firstK l k).toNat, by omega⟩
        rw [hm] at hs hn b1
        have hml : m < l.length := by omega
        have hgm : l[m]? = some (nth l m) := nth_get? _ _ hml
        have hn' : ((m : Int) < 0) = False := eq_false hn
        simp only [go_sem, Nat.reduceLT, Nat.reduceAdd, Nat.reduceEqDiff, Nat.reduceLeDiff, Nat.reduceSub, Nat.reduceMul, Int.reduceEq, eq_self, reduceIte, hlt, hg, hgm, hml, hm, hn', cW]
        refine ops_call (.pureE (skAhead_meets (nth l k) (nth l m)) (by simp [go_sem, Nat.reduceLT, Nat.reduceAdd, Nat.reduceEqDiff, Nat.reduceLeDiff, Nat.reduceSub, Nat.reduceMul, Int.reduceEq, eq_self, reduceIte, cW])) ?_
        by_cases ha : aheadV (nth l k) (nth l m) < 0
        · have e : firstK l (k + 1) = (k : Int) := by rw [hs, stepF, if_pos (.inr (by rw [Int.toNat_natCast]; exact ha))]
          simp only [go_sem, Nat.reduceLT, Nat.reduceAdd, Nat.reduceEqDiff, Nat.reduceLeDiff, Nat.reduceSub, Nat.reduceMul, Int.reduceEq, eq_self, reduceIte, ha, wk]
          refine ⟨by simp, n - 1, by omega, k + 1, by omega, ?_⟩
          simp [trim_mk, go_sem, Nat.reduceLT, Nat.reduceAdd, Nat.reduceEqDiff, Nat.reduceLeDiff, Nat.reduceSub, Nat.reduceMul, Int.reduceEq, eq_self, reduceIte, subHeap, renObj, pos, e]
        · have e : firstK l (k + 1) = (m : Int) := by rw [hs, stepF, if_neg (by rw [Int.toNat_natCast]; simp [ha])]
          simp only [go_sem, Nat.reduceLT, Nat.reduceAdd, Nat.reduceEqDiff, Nat.reduceLeDiff, Nat.reduceSub, Nat.reduceMul, Int.reduceEq, eq_self, reduceIte, ha, wk]
          refine ⟨by simp, n - 1, by omega, k + 1, by omega, ?_⟩
          simp [trim_mk, go_sem, Nat.reduceLT, Nat.reduceAdd, Nat.reduceEqDiff, Nat.reduceLeDiff, Nat.reduceSub, Nat.reduceMul, Int.reduceEq, eq_self, reduceIte, subHeap, renObj, pos, e]
    · have : k = l.length := by omega
      subst this
      simp only [go_sem, Nat.reduceLT, Nat.reduceAdd, Nat.reduceEqDiff, Nat.reduceLeDiff, Nat.reduceSub, Nat.reduceMul, Int.reduceEq, eq_self, reduceIte, hlt]
      refine ret_pure hx ?_
      simp [go_sem, Nat.reduceLT, Nat.reduceAdd, Nat.reduceEqDiff, Nat.reduceLeDiff, Nat.reduceSub, Nat.reduceMul, Int.reduceEq, eq_self, reduceIte, L34, R34, firstW]
end Go.Proofs.Ytocglfkflpkafaa
/- Servers: numbers that are done: contracts. -/
namespace Go.Proofs.Ytocglfkflpkafaa
set_option linter.unusedSimpArgs false
set_option linter.unusedVariables false
open Go.RowKit
def cN (n : Int) : List PV := [.int .i64 n]
theorem cN_row (l : List Int) : ∀ row ∈ l.map cN, row.length = 1 := fun row h => by
  obtain ⟨w, -, rfl⟩ := List.mem_map.1 h; rfl
theorem any_take_succ {α : Type} [Inhabited α] (p : α → Bool) {l : List α} {k : Nat} (h : k < l.length) : (l.take (k + 1)).any p = ((l.take k).any p || p (nth l k)) := by
  rw [List.take_succ_eq_append_getElem h, List.any_append, nth_eq _ _ h]; simp
theorem idxN_meets (l : List Int) (n : Int) (hl : l.length ≤ 9223372036854775806) : Meets Try.prog 46 [.list (l.map cN), .int .i64 n] [] (.int .i64 (idxF (fun y => decide (y = n)) l 0)) [] := by
  refine Meets.of_walk Try.func46 Try.ntmps46 low46 res46 (by simp) fun x hx => ?_
  simp only [go_sem, Nat.reduceLT, Nat.reduceAdd, Nat.reduceEqDiff, Nat.reduceLeDiff, Nat.reduceSub, Nat.reduceMul, Int.reduceEq, eq_self, reduceIte, L46, R46]
  refine loop_inv [0, 1, 7, 8] 0 (fun g st => ∃ k : Nat, k + g = l.length ∧ idxF (fun y => decide (y = n)) (l.drop k) k = idxF (fun y => decide (y = n)) l 0 ∧
    st = ⟨mkE .top [(0, .list (l.map cN)), (1, .int .i64 n), (7, .int .i64 l.length), (8, .int .i64 k)], []⟩) l.length (by simp [hx]) (by simp) ?_ ?_
  · refine ⟨0, by omega, by simp, ?_⟩
    simp [trim_mk, go_sem, Nat.reduceLT, Nat.reduceAdd, Nat.reduceEqDiff, Nat.reduceLeDiff, Nat.reduceSub, Nat.reduceMul, Int.reduceEq, eq_self, reduceIte, subHeap, renObj, pos]
  · rintro g st ⟨k, hk, hi, rfl⟩
    by_cases hlt : k < l.length
    · have hg : l[k]? = some (nth l k) := nth_get? _ _ hlt
      have wk := i64_up (k := k) (by omega)
      rw [idxF_drop _ l k hlt] at hi
      by_cases e : nth l k = n
      · rw [if_pos (by simpa using e)] at hi
        simp only [go_sem, Nat.reduceLT, Nat.reduceAdd, Nat.reduceEqDiff, Nat.reduceLeDiff, Nat.reduceSub, Nat.reduceMul, Int.reduceEq, eq_self, reduceIte, hlt, hg, cN, e]
        refine ret_pure hx ?_
        simp [go_sem, Nat.reduceLT, Nat.reduceAdd, Nat.reduceEqDiff, Nat.reduceLeDiff, Nat.reduceSub, Nat.reduceMul, Int.reduceEq, eq_self, reduceIte, L46, R46, hi]
      · have e' : ¬ n = nth l k := fun h => e h.symm
        rw [if_neg (by simpa using e)] at hi
        simp only [go_sem, Nat.reduceLT, Nat.reduceAdd, Nat.reduceEqDiff, Nat.reduceLeDiff, Nat.reduceSub, Nat.reduceMul, Int.reduceEq, eq_self, reduceIte, hlt, hg, cN, e', wk]
        refine ⟨by simp, g - 1, by omega, k + 1, by omega, hi, ?_⟩
        simp [trim_mk, go_sem, Nat.reduceLT, Nat.reduceAdd, Nat.reduceEqDiff, Nat.reduceLeDiff, Nat.reduceSub, Nat.reduceMul, Int.reduceEq, eq_self, reduceIte, subHeap, renObj, pos]
    · have : l.drop k = [] := List.drop_eq_nil_of_le (by omega)
      rw [this] at hi
      simp only [go_sem, Nat.reduceLT, Nat.reduceAdd, Nat.reduceEqDiff, Nat.reduceLeDiff, Nat.reduceSub, Nat.reduceMul, Int.reduceEq, eq_self, reduceIte, hlt]
      refine ret_pure hx ?_
      simp [go_sem, Nat.reduceLT, Nat.reduceAdd, Nat.reduceEqDiff, Nat.reduceLeDiff, Nat.reduceSub, Nat.reduceMul, Int.reduceEq, eq_self, reduceIte, L46, R46, ← hi, idxF]
theorem contN_meets (l : List Int) (n : Int) (hl : l.length ≤ 9223372036854775806) : Meets Try.prog 39 [.list (l.map cN), .int .i64 n] [] (.bool (l.any fun y => decide (y = n))) [] := by
  refine Meets.of_walk Try.func39 Try.ntmps39 low39 res39 (by simp) fun x hx => ?_
  simp only [go_sem, Nat.reduceLT, Nat.reduceAdd, Nat.reduceEqDiff, Nat.reduceLeDiff, Nat.reduceSub, Nat.reduceMul, Int.reduceEq, eq_self, reduceIte, L39, R39]
  refine ops_call (.pureE (idxN_meets l n hl) (by simp [go_sem, Nat.reduceLT, Nat.reduceAdd, Nat.reduceEqDiff, Nat.reduceLeDiff, Nat.reduceSub, Nat.reduceMul, Int.reduceEq, eq_self, reduceIte])) ?_
  simp only [go_sem, Nat.reduceLT, Nat.reduceAdd, Nat.reduceEqDiff, Nat.reduceLeDiff, Nat.reduceSub, Nat.reduceMul, Int.reduceEq, eq_self, reduceIte]
  refine ret_pure hx ?_
  simp [go_sem, Nat.reduceLT, Nat.reduceAdd, Nat.reduceEqDiff, Nat.reduceLeDiff, Nat.reduceSub, Nat.reduceMul, Int.reduceEq, eq_self, reduceIte, L39, R39, idxF_any]
/-- what is wrong with numbers that are done, the first k of them -/
def doneK (ws : List Wt) (ds : List Int) : Nat → Int
  | 0 => 0
  | k + 1 => if doneK ws ds k ≠ 0 then doneK ws ds k else if wthn (nth ds k) 1 20 = false then 3 else if (foundW ws (nth ds k) || (ds.take k).any fun y => decide (y = nth ds k)) = true then 6 else 0
def doneErr (ws : List Wt) (ds : List Int) : Int := doneK ws ds ds.length
theorem doneK_up (ws : List Wt) (ds : List Int) (k : Nat) (h : doneK ws ds k ≠ 0) : ∀ m, k ≤ m → doneK ws ds m = doneK ws ds k := by
  intro m hm
  induction m with
  | zero => obtain rfl : k = 0 := by omega
            rfl
  | succ m ih =>
    by_cases e : k = m + 1
    · rw [e]
    · have := ih (by omega)
      rw [doneK, if_pos (by rw [this]; exact h), this]
def cSv (c : Int) (ws : List Wt) (ds : List Int) : List PV := [.int .i64 c, .list (ws.map cW), .list (ds.map cN)]
set_option maxHeartbeats 1000000 in
theorem skDone_meets (c : Int) (ws : List Wt) (ds : List Int) (hu : upW ws) (hw : ws.length ≤ 4611686018427387904) (hd : ds.length ≤ 9223372036854775806) : Meets Try.prog 33 [.agg (cSv c ws ds)] [] (.int .i64 (doneErr ws ds)) [] := by
  refine Meets.of_walk Try.func33 Try.ntmps33 low33 res33 (by simp) fun x hx => ?_
  simp only [go_sem, Nat.reduceLT, Nat.reduceAdd, Nat.reduceEqDiff, Nat.reduceLeDiff, Nat.reduceSub, Nat.reduceMul, Int.reduceEq, eq_self, reduceIte, L33, R33, cSv]
  refine loop_inv [1, 8, 9, 10] 1 (fun n st => ∃ k : Nat, k + n = ds.length ∧ doneK ws ds k = 0 ∧
    st = ⟨mkE .top [(1, .ptr 0 0), (8, .list (ds.map cN)), (9, .int .i64 ds.length), (10, .int .i64 k)], [.box (cSv c ws ds)]⟩) ds.length (by simp [hx]) (by simp) ?_ ?_
  · refine ⟨0, by omega, rfl, ?_⟩
    simp [trim_mk, go_sem, Nat.reduceLT, Nat.reduceAdd, Nat.reduceEqDiff, Nat.reduceLeDiff, Nat.reduceSub, Nat.reduceMul, Int.reduceEq, eq_self, reduceIte, subHeap, renObj, pos, List.range_succ, cSv]
  · rintro n st ⟨k, hk, h0, rfl⟩
    by_cases hlt : k < ds.length
    · have hg : ds[k]? = some (nth ds k) := nth_get? _ _ hlt
      have wk := i64_up (k := k) (by omega)
      have hs : doneK ws ds (k + 1) = if wthn (nth ds k) 1 20 = false then 3 else if (foundW ws (nth ds k) || (ds.take k).any fun y => decide (y = nth ds k)) = true then 6 else 0 := by rw [doneK, if_neg (by simp [h0])]
      have hend : doneK ws ds (k + 1) ≠ 0 → doneErr ws ds = doneK ws ds (k + 1) := fun h => doneK_up ws ds (k + 1) h _ (by omega)
      simp only [go_sem, Nat.reduceLT, Nat.reduceAdd, Nat.reduceEqDiff, Nat.reduceLeDiff, Nat.reduceSub, Nat.reduceMul, Int.reduceEq, eq_self, reduceIte, hlt, hg, cN, cSv]
      refine ops_call (.pureE (skFind_meets ws (nth ds k) hu hw) (by simp [go_sem, Nat.reduceLT, Nat.reduceAdd, Nat.reduceEqDiff, Nat.reduceLeDiff, Nat.reduceSub, Nat.reduceMul, Int.reduceEq, eq_self, reduceIte, cSv])) ?_
      simp only [go_sem, Nat.reduceLT, Nat.reduceAdd, Nat.reduceEqDiff, Nat.reduceLeDiff, Nat.reduceSub, Nat.reduceMul, Int.reduceEq, eq_self, reduceIte, cSv]
      refine ops_call (.pureE (skNumber_meets (nth ds k)) (by simp [go_sem, Nat.reduceLT, Nat.reduceAdd, Nat.reduceEqDiff, Nat.reduceLeDiff, Nat.reduceSub, Nat.reduceMul, Int.reduceEq, eq_self, reduceIte])) ?_
      cases h1 : wthn (nth ds k) 1 20
      · rw [if_pos h1] at hs
        simp only [go_sem, Nat.reduceLT, Nat.reduceAdd, Nat.reduceEqDiff, Nat.reduceLeDiff, Nat.reduceSub, Nat.reduceMul, Int.reduceEq, eq_self, reduceIte, cSv]
        refine ret_pure hx ?_
        simp [go_sem, Nat.reduceLT, Nat.reduceAdd, Nat.reduceEqDiff, Nat.reduceLeDiff, Nat.reduceSub, Nat.reduceMul, Int.reduceEq, eq_self, reduceIte, L33, R33, hend (by rw [hs]; decide), hs]
      · rw [if_neg (by simp [h1])] at hs
        cases h2 : foundW ws (nth ds k)
        · rw [h2, Bool.false_or] at hs
          have hrow : (∀ row ∈ List.map cN ds, row.length = 1) = True := eq_true (cN_row _)
          have htk : List.take k (List.map cN ds) = List.map cN (List.take k ds) := List.map_take.symm
          have hle : k ≤ ds.length := by omega
          simp only [go_sem, Nat.reduceLT, Nat.reduceAdd, Nat.reduceEqDiff, Nat.reduceLeDiff, Nat.reduceSub, Nat.reduceMul, Int.reduceEq, eq_self, reduceIte, cSv, hrow, htk, hle, Int.le_refl, Int.sub_zero, Int.toNat_zero]
          refine ops_call (.pureE (contN_meets (ds.take k) (nth ds k) (by simp; omega)) (by simp [go_sem, Nat.reduceLT, Nat.reduceAdd, Nat.reduceEqDiff, Nat.reduceLeDiff, Nat.reduceSub, Nat.reduceMul, Int.reduceEq, eq_self, reduceIte])) ?_
          cases h3 : (ds.take k).any fun y => decide (y = nth ds k)
          · rw [h3, if_neg (by simp)] at hs
            simp only [go_sem, Nat.reduceLT, Nat.reduceAdd, Nat.reduceEqDiff, Nat.reduceLeDiff, Nat.reduceSub, Nat.reduceMul, Int.reduceEq, eq_self, reduceIte, cSv, wk]
            refine ⟨by simp, n - 1, by omega, k + 1, by omega, hs, ?_⟩
            simp [trim_mk, go_sem, Nat.reduceLT, Nat.reduceAdd, Nat.reduceEqDiff, Nat.reduceLeDiff, Nat.reduceSub, Nat.reduceMul, Int.reduceEq, eq_self, reduceIte, subHeap, renObj, pos, List.range_succ, cSv]
          · rw [h3, if_pos rfl] at hs
            simp only [go_sem, Nat.reduceLT, Nat.reduceAdd, Nat.reduceEqDiff, Nat.reduceLeDiff, Nat.reduceSub, Nat.reduceMul, Int.reduceEq, eq_self, reduceIte, cSv]
            refine ret_pure hx ?_
            simp [go_sem, Nat.reduceLT, Nat.reduceAdd, Nat.reduceEqDiff, Nat.reduceLeDiff, Nat.reduceSub, Nat.reduceMul, Int.reduceEq, eq_self, reduceIte, L33, R33, hend (by rw [hs]; decide), hs]
        · rw [h2, Bool.true_or, if_pos rfl] at hs
          simp only [go_sem, Nat.reduceLT, Nat.reduceAdd, Nat.reduceEqDiff, Nat.reduceLeDiff, Nat.reduceSub, Nat.reduceMul, Int.reduceEq, eq_self, reduceIte, cSv]
          refine ret_pure hx ?_
          simp [go_sem, Nat.reduceLT, Nat.reduceAdd, Nat.reduceEqDiff, Nat.reduceLeDiff, Nat.reduceSub, Nat.reduceMul, Int.reduceEq, eq_self, reduceIte, L33, R33, hend (by rw [hs]; decide), hs]
    · have : k = ds.length := by omega
      subst this
      simp only [go_sem, Nat.reduceLT, Nat.reduceAdd, Nat.reduceEqDiff, Nat.reduceLeDiff, Nat.reduceSub, Nat.reduceMul, Int.reduceEq, eq_self, reduceIte, hlt]
      refine ret_pure hx ?_
      simp [go_sem, Nat.reduceLT, Nat.reduceAdd, Nat.reduceEqDiff, Nat.reduceLeDiff, Nat.reduceSub, Nat.reduceMul, Int.reduceEq, eq_self, reduceIte, L33, R33, doneErr, h0]
end Go.Proofs.Ytocglfkflpkafaa
/- Servers: Check: a contract. -/
namespace Go.Proofs.Ytocglfkflpkafaa
set_option linter.unusedSimpArgs false
set_option linter.unusedVariables false
open Go.RowKit
/-- what is wrong with the first k waits -/
def waitK (c : Int) (ws : List Wt) : Nat → Int
  | 0 => 0
  | k + 1 => if waitK c ws k ≠ 0 then waitK c ws k else if (wthn (nth ws k).n 1 20 && wthn (nth ws k).t 1 c) = false then 3 else if 0 < k ∧ (nth ws k).n ≤ (nth ws (k - 1)).n then 4 else 0
theorem waitK_up (c : Int) (ws : List Wt) (k : Nat) (h : waitK c ws k ≠ 0) : ∀ m, k ≤ m → waitK c ws m = waitK c ws k := by
  intro m hm
  induction m with
  | zero => obtain rfl : k = 0 := by omega
            rfl
  | succ m ih =>
    by_cases e : k = m + 1
    · rw [e]
    · have := ih (by omega)
      rw [waitK, if_pos (by rw [this]; exact h), this]
theorem waitK_ok {c : Int} {ws : List Wt} {k : Nat} (h : waitK c ws (k + 1) = 0) : waitK c ws k = 0 ∧ wthn (nth ws k).n 1 20 = true ∧ wthn (nth ws k).t 1 c = true ∧ (0 < k → (nth ws (k - 1)).n < (nth ws k).n) := by
  rw [waitK] at h
  split at h
  · rename_i h0; exact (h0 h).elim
  · rename_i h0
    split at h
    · cases h
    · rename_i h1
      split at h
      · cases h
      · rename_i h2
        simp only [Bool.not_eq_false, Bool.and_eq_true] at h1
        exact ⟨by simpa using h0, h1.1, h1.2, fun hk => by omega⟩
theorem waitK_all {c : Int} {ws : List Wt} : ∀ m, waitK c ws m = 0 → ∀ k, k < m → wthn (nth ws k).n 1 20 = true ∧ wthn (nth ws k).t 1 c = true ∧ (0 < k → (nth ws (k - 1)).n < (nth ws k).n)
  | 0, _ => fun k h => by omega
  | m + 1, h => fun k hk => by
    obtain ⟨h0, h1⟩ := waitK_ok h
    by_cases e : k = m
    · subst e; exact h1
    · exact waitK_all m h0 k (by omega)
theorem waitK_upW {c : Int} {ws : List Wt} (h : waitK c ws ws.length = 0) : upW ws := by
  intro i j hij hj
  have key : ∀ d, i + d + 1 < ws.length → (nth ws i).n < (nth ws (i + d + 1)).n := by
    intro d
    induction d with
    | zero => intro hd; have := (waitK_all _ h (i + 1) hd).2.2 (by omega); simpa using this
    | succ d ih =>
      intro hd
      have a := ih (by omega)
      have b := (waitK_all _ h (i + (d + 1) + 1) hd).2.2 (by omega)
      rw [show i + (d + 1) + 1 - 1 = i + d + 1 by omega] at b
      omega
  have := key (j - i - 1) (by omega)
  rwa [show i + (j - i - 1) + 1 = j by omega] at this
/-- what is wrong with a server -/
def svErr (c : Int) (ws : List Wt) (ds : List Int) : Int :=
  if wthn c 0 999 = false then 3 else if 8 < ws.length ∨ 30 < ds.length then 2 else if waitK c ws ws.length ≠ 0 then waitK c ws ws.length
  else if doneErr ws ds ≠ 0 then doneErr ws ds else if 0 ≤ firstW ws ∧ (nth ws (firstW ws).toNat).f = true then 4 else 0
set_option maxHeartbeats 2000000 in
theorem skCheck_meets (c : Int) (ws : List Wt) (ds : List Int) (hwl : ws.length ≤ 9223372036854775806) (hdl : ds.length ≤ 9223372036854775806) : Meets Try.prog 14 [.agg (cSv c ws ds)] [] (.int .i64 (svErr c ws ds)) [] := by
  refine Meets.of_walk Try.func14 Try.ntmps14 low14 res14 (by simp) fun x hx => ?_
  simp only [go_sem, Nat.reduceLT, Nat.reduceAdd, Nat.reduceEqDiff, Nat.reduceLeDiff, Nat.reduceSub, Nat.reduceMul, Int.reduceEq, eq_self, reduceIte, L14, R14, cSv]
  refine ops_call (.pureE (skWithin_meets c 0 999) (by simp [go_sem, Nat.reduceLT, Nat.reduceAdd, Nat.reduceEqDiff, Nat.reduceLeDiff, Nat.reduceSub, Nat.reduceMul, Int.reduceEq, eq_self, reduceIte])) ?_
  cases hc : wthn c 0 999
  · simp only [go_sem, Nat.reduceLT, Nat.reduceAdd, Nat.reduceEqDiff, Nat.reduceLeDiff, Nat.reduceSub, Nat.reduceMul, Int.reduceEq, eq_self, reduceIte, cSv]
    refine ret_pure hx ?_
    simp [go_sem, Nat.reduceLT, Nat.reduceAdd, Nat.reduceEqDiff, Nat.reduceLeDiff, Nat.reduceSub, Nat.reduceMul, Int.reduceEq, eq_self, reduceIte, L14, R14, svErr, hc]
  · by_cases hw8 : (8 : Int) < (ws.length : Int)
    · simp only [go_sem, Nat.reduceLT, Nat.reduceAdd, Nat.reduceEqDiff, Nat.reduceLeDiff, Nat.reduceSub, Nat.reduceMul, Int.reduceEq, eq_self, reduceIte, cSv, hw8]
      refine ret_pure hx ?_
      have : svErr c ws ds = 2 := by rw [svErr, if_neg (by simp [hc]), if_pos (by omega)]
      simp [go_sem, Nat.reduceLT, Nat.reduceAdd, Nat.reduceEqDiff, Nat.reduceLeDiff, Nat.reduceSub, Nat.reduceMul, Int.reduceEq, eq_self, reduceIte, L14, R14, this]
    · by_cases hd30 : (30 : Int) < (ds.length : Int)
      · simp only [go_sem, Nat.reduceLT, Nat.reduceAdd, Nat.reduceEqDiff, Nat.reduceLeDiff, Nat.reduceSub, Nat.reduceMul, Int.reduceEq, eq_self, reduceIte, cSv, hw8, hd30]
        refine ret_pure hx ?_
        have : svErr c ws ds = 2 := by rw [svErr, if_neg (by simp [hc]), if_pos (by omega)]
        simp [go_sem, Nat.reduceLT, Nat.reduceAdd, Nat.reduceEqDiff, Nat.reduceLeDiff, Nat.reduceSub, Nat.reduceMul, Int.reduceEq, eq_self, reduceIte, L14, R14, this]
      · simp only [go_sem, Nat.reduceLT, Nat.reduceAdd, Nat.reduceEqDiff, Nat.reduceLeDiff, Nat.reduceSub, Nat.reduceMul, Int.reduceEq, eq_self, reduceIte, cSv, hw8, hd30]
        have wrong : waitK c ws ws.length ≠ 0 → svErr c ws ds = waitK c ws ws.length := fun h => by
          rw [svErr, if_neg (by simp [hc]), if_neg (by omega), if_pos h]
        refine loop_inv [1, 24, 25, 26] 1 (fun n st => ∃ k : Nat, k + n = ws.length ∧ waitK c ws k = 0 ∧
          st = ⟨mkE .top [(1, .ptr 0 0), (24, .list (ws.map cW)), (25, .int .i64 ws.length), (26, .int .i64 k)], [.box (cSv c ws ds)]⟩) ws.length (by simp [hx]) (by simp) ?_ ?_
        · refine ⟨0, by omega, rfl, ?_⟩
          simp [trim_mk, go_sem, Nat.reduceLT, Nat.reduceAdd, Nat.reduceEqDiff, Nat.reduceLeDiff, Nat.reduceSub, Nat.reduceMul, Int.reduceEq, eq_self, reduceIte, subHeap, renObj, pos, List.range_succ, cSv]
        · rintro n st ⟨k, hk, h0, rfl⟩
          by_cases hlt : k < ws.length
          · have hg : ws[k]? = some (nth ws k) := nth_get? _ _ hlt
            have wk := i64_up (k := k) (by omega)
            have hs : waitK c ws (k + 1) = if (wthn (nth ws k).n 1 20 && wthn (nth ws k).t 1 c) = false then 3 else if 0 < k ∧ (nth ws k).n ≤ (nth ws (k - 1)).n then 4 else 0 := by rw [waitK, if_neg (by simp [h0])]
            have hend : waitK c ws (k + 1) ≠ 0 → svErr c ws ds = waitK c ws (k + 1) := fun h => by
              have := waitK_up c ws (k + 1) h ws.length (by omega)
              rw [wrong (by rw [this]; exact h), this]
            simp only [go_sem, Nat.reduceLT, Nat.reduceAdd, Nat.reduceEqDiff, Nat.reduceLeDiff, Nat.reduceSub, Nat.reduceMul, Int.reduceEq, eq_self, reduceIte, hlt, hg, cW, cSv]
            refine ops_call (.pureE (skNumber_meets (nth ws k).n) (by simp [go_sem, Nat.reduceLT, Nat.reduceAdd, Nat.reduceEqDiff, Nat.reduceLeDiff, Nat.reduceSub, Nat.reduceMul, Int.reduceEq, eq_self, reduceIte])) ?_
            cases h1 : wthn (nth ws k).n 1 20
            · rw [h1, Bool.false_and, if_pos rfl] at hs
              simp only [go_sem, Nat.reduceLT, Nat.reduceAdd, Nat.reduceEqDiff, Nat.reduceLeDiff, Nat.reduceSub, Nat.reduceMul, Int.reduceEq, eq_self, reduceIte, cW, cSv]
              refine ret_pure hx ?_
              simp [go_sem, Nat.reduceLT, Nat.reduceAdd, Nat.reduceEqDiff, Nat.reduceLeDiff, Nat.reduceSub, Nat.reduceMul, Int.reduceEq, eq_self, reduceIte, L14, R14, hend (by rw [hs]; decide), hs]
            · simp only [go_sem, Nat.reduceLT, Nat.reduceAdd, Nat.reduceEqDiff, Nat.reduceLeDiff, Nat.reduceSub, Nat.reduceMul, Int.reduceEq, eq_self, reduceIte, cW, cSv]
              refine ops_call (.pureE (skWithin_meets (nth ws k).t 1 c) (by simp [go_sem, Nat.reduceLT, Nat.reduceAdd, Nat.reduceEqDiff, Nat.reduceLeDiff, Nat.reduceSub, Nat.reduceMul, Int.reduceEq, eq_self, reduceIte])) ?_
              cases h2 : wthn (nth ws k).t 1 c
              · rw [h1, h2, Bool.true_and, if_pos rfl] at hs
                simp only [go_sem, Nat.reduceLT, Nat.reduceAdd, Nat.reduceEqDiff, Nat.reduceLeDiff, Nat.reduceSub, Nat.reduceMul, Int.reduceEq, eq_self, reduceIte, cW, cSv]
                refine ret_pure hx ?_
                simp [go_sem, Nat.reduceLT, Nat.reduceAdd, Nat.reduceEqDiff, Nat.reduceLeDiff, Nat.reduceSub, Nat.reduceMul, Int.reduceEq, eq_self, reduceIte, L14, R14, hend (by rw [hs]; decide), hs]
              · rw [h1, h2, Bool.true_and, if_neg (by simp)] at hs
                by_cases hk0 : k = 0
                · subst hk0
                  rw [if_neg (by omega)] at hs
                  simp only [go_sem, Nat.reduceLT, Nat.reduceAdd, Nat.reduceEqDiff, Nat.reduceLeDiff, Nat.reduceSub, Nat.reduceMul, Int.reduceEq, eq_self, reduceIte, cW, cSv, Int.cast_ofNat_Int, Int.lt_irrefl]
                  have w1 : IntKind.i64.wrap 1 = 1 := by decide +kernel
                  refine ⟨by simp, n - 1, by omega, 1, by omega, hs, ?_⟩
                  simp [w1, trim_mk, go_sem, Nat.reduceLT, Nat.reduceAdd, Nat.reduceEqDiff, Nat.reduceLeDiff, Nat.reduceSub, Nat.reduceMul, Int.reduceEq, eq_self, reduceIte, subHeap, renObj, pos, List.range_succ, cSv]
                · have hkp : (0 : Int) < (k : Int) := by omega
                  obtain ⟨k', rfl⟩ : ∃ k', k = k' + 1 := ⟨k - 1, by omega⟩
                  have hwd : IntKind.i64.wrap (((k' + 1 : Nat) : Int) - 1) = (k' : Int) := by rw [IntKind.wrap_i64]; omega
                  have hkl : k' < ws.length := by omega
                  have hg' : ws[k']? = some (nth ws k') := nth_get? _ _ hkl
                  rw [Nat.add_sub_cancel] at hs
                  by_cases h3 : (nth ws (k' + 1)).n ≤ (nth ws k').n
                  · rw [if_pos ⟨by omega, h3⟩] at hs
                    simp only [go_sem, Nat.reduceLT, Nat.reduceAdd, Nat.reduceEqDiff, Nat.reduceLeDiff, Nat.reduceSub, Nat.reduceMul, Int.reduceEq, eq_self, reduceIte, cW, cSv, hkp, hwd, hkl, hg', h3]
                    refine ret_pure hx ?_
                    simp [go_sem, Nat.reduceLT, Nat.reduceAdd, Nat.reduceEqDiff, Nat.reduceLeDiff, Nat.reduceSub, Nat.reduceMul, Int.reduceEq, eq_self, reduceIte, L14, R14, hend (by rw [hs]; decide), hs]
                  · rw [if_neg (fun h => h3 h.2)] at hs
                    simp only [go_sem, Nat.reduceLT, Nat.reduceAdd, Nat.reduceEqDiff, Nat.reduceLeDiff, Nat.reduceSub, Nat.reduceMul, Int.reduceEq, eq_self, reduceIte, cW, cSv, hkp, hwd, hkl, hg', h3, wk]
                    refine ⟨by simp, n - 1, by omega, k' + 1 + 1, by omega, hs, ?_⟩
                    simp [trim_mk, go_sem, Nat.reduceLT, Nat.reduceAdd, Nat.reduceEqDiff, Nat.reduceLeDiff, Nat.reduceSub, Nat.reduceMul, Int.reduceEq, eq_self, reduceIte, subHeap, renObj, pos, List.range_succ, cSv]
          · have : k = ws.length := by omega
            subst this
            have hk0 : waitK c ws ws.length = 0 := h0
            have hu := waitK_upW hk0
            have base : svErr c ws ds = if doneErr ws ds ≠ 0 then doneErr ws ds else if 0 ≤ firstW ws ∧ (nth ws (firstW ws).toNat).f = true then 4 else 0 := by
              rw [svErr, if_neg (by simp [hc]), if_neg (by omega), if_neg (by simp [hk0])]
            simp only [go_sem, Nat.reduceLT, Nat.reduceAdd, Nat.reduceEqDiff, Nat.reduceLeDiff, Nat.reduceSub, Nat.reduceMul, Int.reduceEq, eq_self, reduceIte, hlt, cSv]
            refine ops_call (.pureE (skDone_meets c ws ds hu (by omega) (by omega)) (by simp [go_sem, Nat.reduceLT, Nat.reduceAdd, Nat.reduceEqDiff, Nat.reduceLeDiff, Nat.reduceSub, Nat.reduceMul, Int.reduceEq, eq_self, reduceIte, cSv])) ?_
            by_cases hd : doneErr ws ds = 0
            · rw [if_neg (by simp [hd])] at base
              simp only [go_sem, Nat.reduceLT, Nat.reduceAdd, Nat.reduceEqDiff, Nat.reduceLeDiff, Nat.reduceSub, Nat.reduceMul, Int.reduceEq, eq_self, reduceIte, hd, cSv]
              refine ops_call (.pureE (skFirst_meets ws (by omega)) (by simp [go_sem, Nat.reduceLT, Nat.reduceAdd, Nat.reduceEqDiff, Nat.reduceLeDiff, Nat.reduceSub, Nat.reduceMul, Int.reduceEq, eq_self, reduceIte])) ?_
              by_cases hf : 0 ≤ firstW ws
              · obtain ⟨m, hm⟩ : ∃ m : Nat, firstW ws = m := ⟨(firstW ws).toNat, by omega⟩
                have hml : m < ws.length := by have := (firstK_lt ws ws.length).1; rw [show firstK ws ws.length = firstW ws from rfl, hm] at this; omega
                have hgm : ws[m]? = some (nth ws m) := nth_get? _ _ hml
                rw [hm, Int.toNat_natCast] at base
                cases hb : (nth ws m).f
                · simp only [go_sem, Nat.reduceLT, Nat.reduceAdd, Nat.reduceEqDiff, Nat.reduceLeDiff, Nat.reduceSub, Nat.reduceMul, Int.reduceEq, eq_self, reduceIte, hm, hml, hgm, cW, hb]
                  refine ret_pure hx ?_
                  simp [go_sem, Nat.reduceLT, Nat.reduceAdd, Nat.reduceEqDiff, Nat.reduceLeDiff, Nat.reduceSub, Nat.reduceMul, Int.reduceEq, eq_self, reduceIte, L14, R14, base, hb]
                · simp only [go_sem, Nat.reduceLT, Nat.reduceAdd, Nat.reduceEqDiff, Nat.reduceLeDiff, Nat.reduceSub, Nat.reduceMul, Int.reduceEq, eq_self, reduceIte, hm, hml, hgm, cW, hb]
                  refine ret_pure hx ?_
                  simp [go_sem, Nat.reduceLT, Nat.reduceAdd, Nat.reduceEqDiff, Nat.reduceLeDiff, Nat.reduceSub, Nat.reduceMul, Int.reduceEq, eq_self, reduceIte, L14, R14, base, hb]
              · rw [if_neg (fun h => hf h.1)] at base
                simp only [go_sem, Nat.reduceLT, Nat.reduceAdd, Nat.reduceEqDiff, Nat.reduceLeDiff, Nat.reduceSub, Nat.reduceMul, Int.reduceEq, eq_self, reduceIte, hf]
                refine ret_pure hx ?_
                simp [go_sem, Nat.reduceLT, Nat.reduceAdd, Nat.reduceEqDiff, Nat.reduceLeDiff, Nat.reduceSub, Nat.reduceMul, Int.reduceEq, eq_self, reduceIte, L14, R14, base]
            · rw [if_pos hd] at base
              simp only [go_sem, Nat.reduceLT, Nat.reduceAdd, Nat.reduceEqDiff, Nat.reduceLeDiff, Nat.reduceSub, Nat.reduceMul, Int.reduceEq, eq_self, reduceIte, hd, cSv]
              refine ret_pure hx ?_
              simp [go_sem, Nat.reduceLT, Nat.reduceAdd, Nat.reduceEqDiff, Nat.reduceLeDiff, Nat.reduceSub, Nat.reduceMul, Int.reduceEq, eq_self, reduceIte, L14, R14, base]
end Go.Proofs.Ytocglfkflpkafaa
/- Servers, in the law text's words: HasInt, WaitAt, FirstWait: contracts. -/
namespace Go.Proofs.Ytocglfkflpkafaa
set_option linter.unusedSimpArgs false
set_option linter.unusedVariables false
open Go.RowKit
theorem hasInt_meets (l : List Int) (n : Int) (hl : l.length ≤ 9223372036854775806) : Meets Try.prog 28 [.list (l.map cN), .int .i64 n] [] (.bool (l.any fun y => decide (y = n))) [] := by
  refine Meets.of_walk Try.func28 Try.ntmps28 low28 res28 (by simp) fun x hx => ?_
  simp only [go_sem, Nat.reduceLT, Nat.reduceAdd, Nat.reduceEqDiff, Nat.reduceLeDiff, Nat.reduceSub, Nat.reduceMul, Int.reduceEq, eq_self, reduceIte, L28, R28]
  refine loop_inv [0, 1, 5] 0 (fun g st => ∃ k : Nat, k + g = l.length ∧ (l.take k).any (fun y => decide (y = n)) = false ∧
    st = ⟨mkE .top [(0, .list (l.map cN)), (1, .int .i64 n), (5, .int .i64 k)], []⟩) l.length (by simp [hx]) (by simp) ?_ ?_
  · refine ⟨0, by omega, by simp, ?_⟩
    simp [trim_mk, go_sem, Nat.reduceLT, Nat.reduceAdd, Nat.reduceEqDiff, Nat.reduceLeDiff, Nat.reduceSub, Nat.reduceMul, Int.reduceEq, eq_self, reduceIte, subHeap, renObj, pos]
  · rintro g st ⟨k, hk, hi, rfl⟩
    by_cases hlt : k < l.length
    · have hg : l[k]? = some (nth l k) := nth_get? _ _ hlt
      have wk := i64_up (k := k) (by omega)
      have ht := any_take_succ (fun y => decide (y = n)) hlt
      by_cases e : nth l k = n
      · simp only [go_sem, Nat.reduceLT, Nat.reduceAdd, Nat.reduceEqDiff, Nat.reduceLeDiff, Nat.reduceSub, Nat.reduceMul, Int.reduceEq, eq_self, reduceIte, hlt, hg, cN, e]
        refine ret_pure hx ?_
        have : (l.any fun y => decide (y = n)) = true := List.any_eq_true.2 ⟨_, nthM hlt, by simpa using e⟩
        simp only [this]
        simp [go_sem, Nat.reduceLT, Nat.reduceAdd, Nat.reduceEqDiff, Nat.reduceLeDiff, Nat.reduceSub, Nat.reduceMul, Int.reduceEq, eq_self, reduceIte, L28, R28]
      · simp only [go_sem, Nat.reduceLT, Nat.reduceAdd, Nat.reduceEqDiff, Nat.reduceLeDiff, Nat.reduceSub, Nat.reduceMul, Int.reduceEq, eq_self, reduceIte, hlt, hg, cN, e, wk]
        refine ⟨by simp, g - 1, by omega, k + 1, by omega, by rw [ht, hi]; simpa using e, ?_⟩
        simp [trim_mk, go_sem, Nat.reduceLT, Nat.reduceAdd, Nat.reduceEqDiff, Nat.reduceLeDiff, Nat.reduceSub, Nat.reduceMul, Int.reduceEq, eq_self, reduceIte, subHeap, renObj, pos]
    · have : l.take k = l := List.take_of_length_le (by omega)
      rw [this] at hi
      simp only [go_sem, Nat.reduceLT, Nat.reduceAdd, Nat.reduceEqDiff, Nat.reduceLeDiff, Nat.reduceSub, Nat.reduceMul, Int.reduceEq, eq_self, reduceIte, hlt]
      refine ret_pure hx ?_
      simp only [hi]
      simp [go_sem, Nat.reduceLT, Nat.reduceAdd, Nat.reduceEqDiff, Nat.reduceLeDiff, Nat.reduceSub, Nat.reduceMul, Int.reduceEq, eq_self, reduceIte, L28, R28]
theorem waitAt_meets (c : Int) (ws : List Wt) (ds : List Int) (n : Int) (hl : ws.length ≤ 9223372036854775806) : Meets Try.prog 29 [.agg (cSv c ws ds), .int .i64 n] [] (.int .i64 (idxF (fun w : Wt => decide (w.n = n)) ws 0)) [] := by
  refine Meets.of_walk Try.func29 Try.ntmps29 low29 res29 (by simp) fun x hx => ?_
  simp only [go_sem, Nat.reduceLT, Nat.reduceAdd, Nat.reduceEqDiff, Nat.reduceLeDiff, Nat.reduceSub, Nat.reduceMul, Int.reduceEq, eq_self, reduceIte, L29, R29, cSv]
  refine loop_inv [1, 2, 5] 1 (fun g st => ∃ k : Nat, k + g = ws.length ∧ idxF (fun w : Wt => decide (w.n = n)) (ws.drop k) k = idxF (fun w : Wt => decide (w.n = n)) ws 0 ∧
    st = ⟨mkE .top [(1, .int .i64 n), (2, .ptr 0 0), (5, .int .i64 k)], [.box (cSv c ws ds)]⟩) ws.length (by simp [hx]) (by simp) ?_ ?_
  · refine ⟨0, by omega, by simp, ?_⟩
    simp [trim_mk, go_sem, Nat.reduceLT, Nat.reduceAdd, Nat.reduceEqDiff, Nat.reduceLeDiff, Nat.reduceSub, Nat.reduceMul, Int.reduceEq, eq_self, reduceIte, subHeap, renObj, pos, List.range_succ, cSv]
  · rintro g st ⟨k, hk, hi, rfl⟩
    by_cases hlt : k < ws.length
    · have hg : ws[k]? = some (nth ws k) := nth_get? _ _ hlt
      have wk := i64_up (k := k) (by omega)
      rw [idxF_drop _ ws k hlt] at hi
      by_cases e : (nth ws k).n = n
      · rw [if_pos (by simpa using e)] at hi
        simp only [go_sem, Nat.reduceLT, Nat.reduceAdd, Nat.reduceEqDiff, Nat.reduceLeDiff, Nat.reduceSub, Nat.reduceMul, Int.reduceEq, eq_self, reduceIte, hlt, hg, cW, cSv, e]
        refine ret_pure hx ?_
        simp [go_sem, Nat.reduceLT, Nat.reduceAdd, Nat.reduceEqDiff, Nat.reduceLeDiff, Nat.reduceSub, Nat.reduceMul, Int.reduceEq, eq_self, reduceIte, L29, R29, hi]
      · rw [if_neg (by simpa using e)] at hi
        simp only [go_sem, Nat.reduceLT, Nat.reduceAdd, Nat.reduceEqDiff, Nat.reduceLeDiff, Nat.reduceSub, Nat.reduceMul, Int.reduceEq, eq_self, reduceIte, hlt, hg, cW, cSv, e, wk]
        refine ⟨by simp, g - 1, by omega, k + 1, by omega, hi, ?_⟩
        simp [trim_mk, go_sem, Nat.reduceLT, Nat.reduceAdd, Nat.reduceEqDiff, Nat.reduceLeDiff, Nat.reduceSub, Nat.reduceMul, Int.reduceEq, eq_self, reduceIte, subHeap, renObj, pos, List.range_succ, cSv]
    · have : ws.drop k = [] := List.drop_eq_nil_of_le (by omega)
      rw [this] at hi
      simp only [go_sem, Nat.reduceLT, Nat.reduceAdd, Nat.reduceEqDiff, Nat.reduceLeDiff, Nat.reduceSub, Nat.reduceMul, Int.reduceEq, eq_self, reduceIte, hlt, cSv]
      refine ret_pure hx ?_
      simp [go_sem, Nat.reduceLT, Nat.reduceAdd, Nat.reduceEqDiff, Nat.reduceLeDiff, Nat.reduceSub, Nat.reduceMul, Int.reduceEq, eq_self, reduceIte, L29, R29, ← hi, idxF]
/-- does the k-th stand before the i-th? -/
def bfrB (ws : List Wt) (i k : Nat) : Bool := decide ((nth ws k).t < (nth ws i).t) || (decide ((nth ws k).t = (nth ws i).t) && decide (k < i))
def bstK (ws : List Wt) (i k : Nat) : Bool := (List.range k).all fun j => !bfrB ws i j
theorem bstK_succ (ws : List Wt) (i k : Nat) : bstK ws i (k + 1) = (bstK ws i k && !bfrB ws i k) := by
  unfold bstK; rw [List.range_succ, List.all_append]; simp
def firstR (ws : List Wt) : Int := idxF (fun i => bstK ws i ws.length) (List.range ws.length) 0
theorem firstR_drop (ws : List Wt) {i : Nat} (h : i < ws.length) : idxF (fun i => bstK ws i ws.length) ((List.range ws.length).drop i) i = if bstK ws i ws.length = true then (i : Int) else idxF (fun i => bstK ws i ws.length) ((List.range ws.length).drop (i + 1)) (i + 1) := by
  rw [idxF_drop _ _ _ (by simpa using h), nth_eq _ _ (by simpa using h)]
  simp
set_option maxHeartbeats 2000000 in
theorem firstWait_meets (c : Int) (ws : List Wt) (ds : List Int) (hl : ws.length ≤ 9223372036854775806) : Meets Try.prog 30 [.agg (cSv c ws ds)] [] (.int .i64 (firstR ws)) [] := by
  refine Meets.of_walk Try.func30 Try.ntmps30 low30 res30 (by simp) fun x hx => ?_
  simp only [go_sem, Nat.reduceLT, Nat.reduceAdd, Nat.reduceEqDiff, Nat.reduceLeDiff, Nat.reduceSub, Nat.reduceMul, Int.reduceEq, eq_self, reduceIte, L30, R30, cSv]
  refine loop_inv [1, 3] 1 (fun g st => ∃ i : Nat, i + g = ws.length ∧ idxF (fun i => bstK ws i ws.length) ((List.range ws.length).drop i) i = firstR ws ∧
    st = ⟨mkE .top [(1, .ptr 0 0), (3, .int .i64 i)], [.box (cSv c ws ds)]⟩) ws.length (by simp [hx]) (by simp) ?_ ?_
  · refine ⟨0, by omega, by simp [firstR], ?_⟩
    simp [trim_mk, go_sem, Nat.reduceLT, Nat.reduceAdd, Nat.reduceEqDiff, Nat.reduceLeDiff, Nat.reduceSub, Nat.reduceMul, Int.reduceEq, eq_self, reduceIte, subHeap, renObj, pos, List.range_succ, cSv]
  · rintro g st ⟨i, hk, hi, rfl⟩
    by_cases hlt : i < ws.length
    · have hg : ws[i]? = some (nth ws i) := nth_get? _ _ hlt
      have wi := i64_up (k := i) (by omega)
      rw [firstR_drop ws hlt] at hi
      simp only [go_sem, Nat.reduceLT, Nat.reduceAdd, Nat.reduceEqDiff, Nat.reduceLeDiff, Nat.reduceSub, Nat.reduceMul, Int.reduceEq, eq_self, reduceIte, hlt, cSv]
      refine loop_inv [1, 3, 4, 5] 1 (fun g2 st => ∃ k : Nat, k + g2 = ws.length ∧
        st = ⟨mkE .top [(1, .ptr 0 0), (3, .int .i64 i), (4, .bool (bstK ws i k)), (5, .int .i64 k)], [.box (cSv c ws ds)]⟩) ws.length (by simp [hx]) (by simp) ?_ ?_
      · refine ⟨0, by omega, ?_⟩
        simp [trim_mk, go_sem, Nat.reduceLT, Nat.reduceAdd, Nat.reduceEqDiff, Nat.reduceLeDiff, Nat.reduceSub, Nat.reduceMul, Int.reduceEq, eq_self, reduceIte, subHeap, renObj, pos, List.range_succ, cSv, bstK]
      · rintro g2 st ⟨k, hk2, rfl⟩
        by_cases hlk : k < ws.length
        · have hgk : ws[k]? = some (nth ws k) := nth_get? _ _ hlk
          have wk := i64_up (k := k) (by omega)
          have hs := bstK_succ ws i k
          unfold bfrB at hs
          by_cases h1 : (nth ws k).t < (nth ws i).t
          · simp only [go_sem, Nat.reduceLT, Nat.reduceAdd, Nat.reduceEqDiff, Nat.reduceLeDiff, Nat.reduceSub, Nat.reduceMul, Int.reduceEq, eq_self, reduceIte, hlk, hgk, hlt, hg, cW, cSv, h1, wk]
            refine ⟨by simp, g2 - 1, by omega, k + 1, by omega, ?_⟩
            simp [trim_mk, go_sem, Nat.reduceLT, Nat.reduceAdd, Nat.reduceEqDiff, Nat.reduceLeDiff, Nat.reduceSub, Nat.reduceMul, Int.reduceEq, eq_self, reduceIte, subHeap, renObj, pos, List.range_succ, cSv, hs, h1]
          · by_cases h2 : (nth ws k).t = (nth ws i).t
            · by_cases h3 : k < i
              · simp only [go_sem, Nat.reduceLT, Nat.reduceAdd, Nat.reduceEqDiff, Nat.reduceLeDiff, Nat.reduceSub, Nat.reduceMul, Int.reduceEq, eq_self, reduceIte, hlk, hgk, hlt, hg, cW, cSv, h1, h2, h3, wk, Int.lt_irrefl]
                refine ⟨by simp, g2 - 1, by omega, k + 1, by omega, ?_⟩
                simp [trim_mk, go_sem, Nat.reduceLT, Nat.reduceAdd, Nat.reduceEqDiff, Nat.reduceLeDiff, Nat.reduceSub, Nat.reduceMul, Int.reduceEq, eq_self, reduceIte, subHeap, renObj, pos, List.range_succ, cSv, hs, h1, h2, h3]
              · simp only [go_sem, Nat.reduceLT, Nat.reduceAdd, Nat.reduceEqDiff, Nat.reduceLeDiff, Nat.reduceSub, Nat.reduceMul, Int.reduceEq, eq_self, reduceIte, hlk, hgk, hlt, hg, cW, cSv, h1, h2, h3, wk, Int.lt_irrefl]
                refine ⟨by simp, g2 - 1, by omega, k + 1, by omega, ?_⟩
                simp [trim_mk, go_sem, Nat.reduceLT, Nat.reduceAdd, Nat.reduceEqDiff, Nat.reduceLeDiff, Nat.reduceSub, Nat.reduceMul, Int.reduceEq, eq_self, reduceIte, subHeap, renObj, pos, List.range_succ, cSv, hs, h1, h2, h3]
            · simp only [go_sem, Nat.reduceLT, Nat.reduceAdd, Nat.reduceEqDiff, Nat.reduceLeDiff, Nat.reduceSub, Nat.reduceMul, Int.reduceEq, eq_self, reduceIte, hlk, hgk, hlt, hg, cW, cSv, h1, h2, wk]
              refine ⟨by simp, g2 - 1, by omega, k + 1, by omega, ?_⟩
              simp [trim_mk, go_sem, Nat.reduceLT, Nat.reduceAdd, Nat.reduceEqDiff, Nat.reduceLeDiff, Nat.reduceSub, Nat.reduceMul, Int.reduceEq, eq_self, reduceIte, subHeap, renObj, pos, List.range_succ, cSv, hs, h1, h2]
        · obtain rfl : k = ws.length := by omega
          cases hb : bstK ws i ws.length
          · rw [hb, if_neg (by simp)] at hi
            simp only [go_sem, Nat.reduceLT, Nat.reduceAdd, Nat.reduceEqDiff, Nat.reduceLeDiff, Nat.reduceSub, Nat.reduceMul, Int.reduceEq, eq_self, reduceIte, hlk, cSv, wi]
            refine ⟨by simp, g - 1, by omega, i + 1, by omega, hi, ?_⟩
            simp [trim_mk, go_sem, Nat.reduceLT, Nat.reduceAdd, Nat.reduceEqDiff, Nat.reduceLeDiff, Nat.reduceSub, Nat.reduceMul, Int.reduceEq, eq_self, reduceIte, subHeap, renObj, pos, List.range_succ, cSv]
          · rw [hb, if_pos rfl] at hi
            simp only [go_sem, Nat.reduceLT, Nat.reduceAdd, Nat.reduceEqDiff, Nat.reduceLeDiff, Nat.reduceSub, Nat.reduceMul, Int.reduceEq, eq_self, reduceIte, hlk, cSv]
            refine ret_pure hx ?_
            simp [go_sem, Nat.reduceLT, Nat.reduceAdd, Nat.reduceEqDiff, Nat.reduceLeDiff, Nat.reduceSub, Nat.reduceMul, Int.reduceEq, eq_self, reduceIte, L30, R30, hi]
    · have : (List.range ws.length).drop i = [] := List.drop_eq_nil_of_le (by simp; omega)
      rw [this] at hi
      simp only [go_sem, Nat.reduceLT, Nat.reduceAdd, Nat.reduceEqDiff, Nat.reduceLeDiff, Nat.reduceSub, Nat.reduceMul, Int.reduceEq, eq_self, reduceIte, hlt, cSv]
      refine ret_pure hx ?_
      simp [go_sem, Nat.reduceLT, Nat.reduceAdd, Nat.reduceEqDiff, Nat.reduceLeDiff, Nat.reduceSub, Nat.reduceMul, Int.reduceEq, eq_self, reduceIte, L30, R30, ← hi, idxF]
end Go.Proofs.Ytocglfkflpkafaa
/- Servers: plain laws: the first wait is the same in both words. No program in sight. -/
namespace Go.Proofs.Ytocglfkflpkafaa
/-- waits as a right server has them -/
def inW (l : List Wt) : Prop := ∀ k, k < l.length → 1 ≤ (nth l k).n ∧ (nth l k).n ≤ 20 ∧ 1 ≤ (nth l k).t ∧ (nth l k).t ≤ 999
theorem aheadV_neg {a b : Wt} (ha : 1 ≤ a.n ∧ a.n ≤ 20 ∧ 1 ≤ a.t ∧ a.t ≤ 999) (hb : 1 ≤ b.n ∧ b.n ≤ 20 ∧ 1 ≤ b.t ∧ b.t ≤ 999) : aheadV a b < 0 ↔ a.t < b.t ∨ (a.t = b.t ∧ a.n < b.n) := by
  unfold aheadV
  split
  · rw [Go.IntKind.wrap_i64]; omega
  · rw [Go.IntKind.wrap_i64]; omega
theorem firstK_spec {l : List Wt} (hu : upW l) (hb : inW l) : ∀ k, 0 < k → k ≤ l.length → ∃ m : Nat, firstK l k = m ∧ m < k ∧ ∀ j, j < k → (nth l m).t < (nth l j).t ∨ ((nth l m).t = (nth l j).t ∧ m ≤ j) := by
  intro k
  induction k with
  | zero => intro h; omega
  | succ k ih =>
    intro _ hk
    rcases Nat.eq_zero_or_pos k with rfl | hp
    · exact ⟨0, by rw [firstK_succ]; simp [firstK, stepF], by omega, fun j hj => .inr ⟨by rw [show j = 0 by omega], by omega⟩⟩
    · obtain ⟨m, h1, h2, h3⟩ := ih hp (by omega)
      have hn := hu m k h2 (by omega)
      have ha := aheadV_neg (hb k (by omega)) (hb m (by omega))
      rw [firstK_succ, h1, stepF]
      by_cases hlt : (nth l k).t < (nth l m).t
      · refine ⟨k, by rw [if_pos (.inr (by rw [Int.toNat_natCast]; exact ha.2 (.inl hlt)))], by omega, fun j hj => ?_⟩
        by_cases e : j = k
        · exact .inr ⟨by rw [e], by omega⟩
        · rcases h3 j (by omega) with h | ⟨h, -⟩
          · exact .inl (by omega)
          · exact .inl (by omega)
      · refine ⟨m, by rw [if_neg (by rw [Int.toNat_natCast, ha]; omega)], by omega, fun j hj => ?_⟩
        by_cases e : j = k
        · subst e; omega
        · exact h3 j (by omega)
theorem idxF_at {α : Type} [Inhabited α] (p : α → Bool) (l : List α) (m : Nat) (hm : m < l.length) (h1 : p (nth l m) = true) (h2 : ∀ j, j < m → p (nth l j) = false) : idxF p l 0 = m := by
  have key : ∀ d, d ≤ m → idxF p (l.drop (m - d)) (m - d) = m := by
    intro d
    induction d with
    | zero => intro _; rw [Nat.sub_zero, idxF_drop p l m hm, if_pos h1]
    | succ d ih =>
      intro hd
      rw [idxF_drop p l _ (by omega), if_neg (by rw [h2 _ (by omega)]; simp), show m - (d + 1) + 1 = m - d by omega]
      exact ih (by omega)
  have := key m (Nat.le_refl _)
  rwa [Nat.sub_self, List.drop_zero] at this
theorem firstR_eq {l : List Wt} (hu : upW l) (hb : inW l) : firstR l = firstW l := by
  rcases Nat.eq_zero_or_pos l.length with h0 | hp
  · have : l = [] := List.length_eq_zero_iff.1 h0
    subst this; rfl
  · obtain ⟨m, h1, h2, h3⟩ := firstK_spec hu hb l.length hp (Nat.le_refl _)
    rw [firstW, h1]
    have hr : ∀ j, j < l.length → nth (List.range l.length) j = j := fun j hj => by rw [nth_eq _ _ (by simpa using hj)]; simp
    refine idxF_at _ _ m (by simpa using h2) ?_ fun j hj => ?_
    · rw [hr m h2]
      unfold bstK
      rw [List.all_eq_true]
      intro j hj
      have := h3 j (List.mem_range.1 hj)
      simp only [bfrB, Bool.not_eq_true', Bool.or_eq_false_iff, decide_eq_false_iff_not, Bool.and_eq_false_iff]
      omega
    · rw [hr j (by omega)]
      cases e : bstK l j l.length
      · rfl
      · have := List.all_eq_true.1 e m (List.mem_range.2 h2)
        have h4 := h3 j (by omega)
        simp only [bfrB, Bool.not_eq_true', Bool.or_eq_false_iff, decide_eq_false_iff_not, Bool.and_eq_false_iff] at this
        omega
theorem waitK_in {c : Int} {ws : List Wt} (hc : wthn c 0 999 = true) (h : waitK c ws ws.length = 0) : inW ws := fun k hk => by
  obtain ⟨a, b, -⟩ := waitK_all _ h k hk
  rw [wthn_iff] at hc a b
  omega
end Go.Proofs.Ytocglfkflpkafaa
/- CheckServer, in the law text's words: a contract. -/
namespace Go.Proofs.Ytocglfkflpkafaa
set_option linter.unusedSimpArgs false
set_option linter.unusedVariables false
open Go.RowKit
set_option maxHeartbeats 4000000 in
theorem checkServer_meets (c : Int) (ws : List Wt) (ds : List Int) (hwl : ws.length ≤ 9223372036854775806) (hdl : ds.length ≤ 9223372036854775806) : Meets Try.prog 9 [.agg (cSv c ws ds)] [] (.int .i64 (svErr c ws ds)) [] := by
  refine Meets.of_walk Try.func9 Try.ntmps9 low9 res9 (by simp) fun x hx => ?_
  simp only [go_sem, Nat.reduceLT, Nat.reduceAdd, Nat.reduceEqDiff, Nat.reduceLeDiff, Nat.reduceSub, Nat.reduceMul, Int.reduceEq, eq_self, reduceIte, L9, R9, cSv]
  refine ops_call (.pureE (between_meets c 0 999) (by simp [go_sem, Nat.reduceLT, Nat.reduceAdd, Nat.reduceEqDiff, Nat.reduceLeDiff, Nat.reduceSub, Nat.reduceMul, Int.reduceEq, eq_self, reduceIte])) ?_
  cases hc : wthn c 0 999
  · simp only [go_sem, Nat.reduceLT, Nat.reduceAdd, Nat.reduceEqDiff, Nat.reduceLeDiff, Nat.reduceSub, Nat.reduceMul, Int.reduceEq, eq_self, reduceIte, cSv]
    refine ret_pure hx ?_
    simp [go_sem, Nat.reduceLT, Nat.reduceAdd, Nat.reduceEqDiff, Nat.reduceLeDiff, Nat.reduceSub, Nat.reduceMul, Int.reduceEq, eq_self, reduceIte, L9, R9, svErr, hc]
  · by_cases hw8 : (8 : Int) < (ws.length : Int)
    · simp only [go_sem, Nat.reduceLT, Nat.reduceAdd, Nat.reduceEqDiff, Nat.reduceLeDiff, Nat.reduceSub, Nat.reduceMul, Int.reduceEq, eq_self, reduceIte, cSv, hw8]
      refine ret_pure hx ?_
      have : svErr c ws ds = 2 := by rw [svErr, if_neg (by simp [hc]), if_pos (by omega)]
      simp [go_sem, Nat.reduceLT, Nat.reduceAdd, Nat.reduceEqDiff, Nat.reduceLeDiff, Nat.reduceSub, Nat.reduceMul, Int.reduceEq, eq_self, reduceIte, L9, R9, this]
    · by_cases hd30 : (30 : Int) < (ds.length : Int)
      · simp only [go_sem, Nat.reduceLT, Nat.reduceAdd, Nat.reduceEqDiff, Nat.reduceLeDiff, Nat.reduceSub, Nat.reduceMul, Int.reduceEq, eq_self, reduceIte, cSv, hw8, hd30]
        refine ret_pure hx ?_
        have : svErr c ws ds = 2 := by rw [svErr, if_neg (by simp [hc]), if_pos (by omega)]
        simp [go_sem, Nat.reduceLT, Nat.reduceAdd, Nat.reduceEqDiff, Nat.reduceLeDiff, Nat.reduceSub, Nat.reduceMul, Int.reduceEq, eq_self, reduceIte, L9, R9, this]
      · simp only [go_sem, Nat.reduceLT, Nat.reduceAdd, Nat.reduceEqDiff, Nat.reduceLeDiff, Nat.reduceSub, Nat.reduceMul, Int.reduceEq, eq_self, reduceIte, cSv, hw8, hd30]
        have wrong : waitK c ws ws.length ≠ 0 → svErr c ws ds = waitK c ws ws.length := fun h => by
          rw [svErr, if_neg (by simp [hc]), if_neg (by omega), if_pos h]
        refine loop_inv [1, 3] 1 (fun n st => ∃ k : Nat, k + n = ws.length ∧ waitK c ws k = 0 ∧
          st = ⟨mkE .top [(1, .ptr 0 0), (3, .int .i64 k)], [.box (cSv c ws ds)]⟩) ws.length (by simp [hx]) (by simp) ?_ ?_
        · refine ⟨0, by omega, rfl, ?_⟩
          simp [trim_mk, go_sem, Nat.reduceLT, Nat.reduceAdd, Nat.reduceEqDiff, Nat.reduceLeDiff, Nat.reduceSub, Nat.reduceMul, Int.reduceEq, eq_self, reduceIte, subHeap, renObj, pos, List.range_succ, cSv]
        · rintro n st ⟨k, hk, h0, rfl⟩
          by_cases hlt : k < ws.length
          · have hg : ws[k]? = some (nth ws k) := nth_get? _ _ hlt
            have wk := i64_up (k := k) (by omega)
            have hs : waitK c ws (k + 1) = if (wthn (nth ws k).n 1 20 && wthn (nth ws k).t 1 c) = false then 3 else if 0 < k ∧ (nth ws k).n ≤ (nth ws (k - 1)).n then 4 else 0 := by rw [waitK, if_neg (by simp [h0])]
            have hend : waitK c ws (k + 1) ≠ 0 → svErr c ws ds = waitK c ws (k + 1) := fun h => by
              have := waitK_up c ws (k + 1) h ws.length (by omega)
              rw [wrong (by rw [this]; exact h), this]
            simp only [go_sem, Nat.reduceLT, Nat.reduceAdd, Nat.reduceEqDiff, Nat.reduceLeDiff, Nat.reduceSub, Nat.reduceMul, Int.reduceEq, eq_self, reduceIte, hlt, hg, cW, cSv]
            refine ops_call (.pureE (between_meets (nth ws k).n 1 20) (by simp [go_sem, Nat.reduceLT, Nat.reduceAdd, Nat.reduceEqDiff, Nat.reduceLeDiff, Nat.reduceSub, Nat.reduceMul, Int.reduceEq, eq_self, reduceIte])) ?_
            cases h1 : wthn (nth ws k).n 1 20
            · rw [h1, Bool.false_and, if_pos rfl] at hs
              simp only [go_sem, Nat.reduceLT, Nat.reduceAdd, Nat.reduceEqDiff, Nat.reduceLeDiff, Nat.reduceSub, Nat.reduceMul, Int.reduceEq, eq_self, reduceIte, cW, cSv]
              refine ret_pure hx ?_
              simp [go_sem, Nat.reduceLT, Nat.reduceAdd, Nat.reduceEqDiff, Nat.reduceLeDiff, Nat.reduceSub, Nat.reduceMul, Int.reduceEq, eq_self, reduceIte, L9, R9, hend (by rw [hs]; decide), hs]
            · simp only [go_sem, Nat.reduceLT, Nat.reduceAdd, Nat.reduceEqDiff, Nat.reduceLeDiff, Nat.reduceSub, Nat.reduceMul, Int.reduceEq, eq_self, reduceIte, hlt, hg, cW, cSv]
              refine ops_call (.pureE (between_meets (nth ws k).t 1 c) (by simp [go_sem, Nat.reduceLT, Nat.reduceAdd, Nat.reduceEqDiff, Nat.reduceLeDiff, Nat.reduceSub, Nat.reduceMul, Int.reduceEq, eq_self, reduceIte])) ?_
              cases h2 : wthn (nth ws k).t 1 c
              · rw [h1, h2, Bool.true_and, if_pos rfl] at hs
                simp only [go_sem, Nat.reduceLT, Nat.reduceAdd, Nat.reduceEqDiff, Nat.reduceLeDiff, Nat.reduceSub, Nat.reduceMul, Int.reduceEq, eq_self, reduceIte, cW, cSv]
                refine ret_pure hx ?_
                simp [go_sem, Nat.reduceLT, Nat.reduceAdd, Nat.reduceEqDiff, Nat.reduceLeDiff, Nat.reduceSub, Nat.reduceMul, Int.reduceEq, eq_self, reduceIte, L9, R9, hend (by rw [hs]; decide), hs]
              · rw [h1, h2, Bool.true_and, if_neg (by simp)] at hs
                by_cases hk0 : k = 0
                · subst hk0
                  rw [if_neg (by omega)] at hs
                  simp only [go_sem, Nat.reduceLT, Nat.reduceAdd, Nat.reduceEqDiff, Nat.reduceLeDiff, Nat.reduceSub, Nat.reduceMul, Int.reduceEq, eq_self, reduceIte, cW, cSv, Int.cast_ofNat_Int, Int.lt_irrefl]
                  have w1 : IntKind.i64.wrap 1 = 1 := by decide +kernel
                  refine ⟨by simp, n - 1, by omega, 1, by omega, hs, ?_⟩
                  simp [w1, trim_mk, go_sem, Nat.reduceLT, Nat.reduceAdd, Nat.reduceEqDiff, Nat.reduceLeDiff, Nat.reduceSub, Nat.reduceMul, Int.reduceEq, eq_self, reduceIte, subHeap, renObj, pos, List.range_succ, cSv]
                · have hkp : (0 : Int) < (k : Int) := by omega
                  obtain ⟨k', rfl⟩ : ∃ k', k = k' + 1 := ⟨k - 1, by omega⟩
                  have hwd : IntKind.i64.wrap (((k' + 1 : Nat) : Int) - 1) = (k' : Int) := by rw [IntKind.wrap_i64]; omega
                  have hkl : k' < ws.length := by omega
                  have hg' : ws[k']? = some (nth ws k') := nth_get? _ _ hkl
                  rw [Nat.add_sub_cancel] at hs
                  by_cases h3 : (nth ws (k' + 1)).n ≤ (nth ws k').n
                  · rw [if_pos ⟨by omega, h3⟩] at hs
                    simp only [go_sem, Nat.reduceLT, Nat.reduceAdd, Nat.reduceEqDiff, Nat.reduceLeDiff, Nat.reduceSub, Nat.reduceMul, Int.reduceEq, eq_self, reduceIte, hlt, hg, cW, cSv, hkp, hwd, hkl, hg', h3]
                    refine ret_pure hx ?_
                    simp [go_sem, Nat.reduceLT, Nat.reduceAdd, Nat.reduceEqDiff, Nat.reduceLeDiff, Nat.reduceSub, Nat.reduceMul, Int.reduceEq, eq_self, reduceIte, L9, R9, hend (by rw [hs]; decide), hs]
                  · rw [if_neg (fun h => h3 h.2)] at hs
                    simp only [go_sem, Nat.reduceLT, Nat.reduceAdd, Nat.reduceEqDiff, Nat.reduceLeDiff, Nat.reduceSub, Nat.reduceMul, Int.reduceEq, eq_self, reduceIte, hlt, hg, cW, cSv, hkp, hwd, hkl, hg', h3, wk]
                    refine ⟨by simp, n - 1, by omega, k' + 1 + 1, by omega, hs, ?_⟩
                    simp [trim_mk, go_sem, Nat.reduceLT, Nat.reduceAdd, Nat.reduceEqDiff, Nat.reduceLeDiff, Nat.reduceSub, Nat.reduceMul, Int.reduceEq, eq_self, reduceIte, subHeap, renObj, pos, List.range_succ, cSv]
          · have : k = ws.length := by omega
            subst this
            have hk0 : waitK c ws ws.length = 0 := h0
            have hu := waitK_upW hk0
            have hin := waitK_in hc hk0
            have wrongd : doneErr ws ds ≠ 0 → svErr c ws ds = doneErr ws ds := fun h => by
              rw [svErr, if_neg (by simp [hc]), if_neg (by omega), if_neg (by simp [hk0]), if_pos h]
            simp only [go_sem, Nat.reduceLT, Nat.reduceAdd, Nat.reduceEqDiff, Nat.reduceLeDiff, Nat.reduceSub, Nat.reduceMul, Int.reduceEq, eq_self, reduceIte, hlt, cSv]
            refine loop_inv [1, 4] 1 (fun n st => ∃ k : Nat, k + n = ds.length ∧ doneK ws ds k = 0 ∧
              st = ⟨mkE .top [(1, .ptr 0 0), (4, .int .i64 k)], [.box (cSv c ws ds)]⟩) ds.length (by simp [hx]) (by simp) ?_ ?_
            · refine ⟨0, by omega, rfl, ?_⟩
              simp [trim_mk, go_sem, Nat.reduceLT, Nat.reduceAdd, Nat.reduceEqDiff, Nat.reduceLeDiff, Nat.reduceSub, Nat.reduceMul, Int.reduceEq, eq_self, reduceIte, subHeap, renObj, pos, List.range_succ, cSv]
            · rintro n st ⟨k, hk, h0, rfl⟩
              by_cases hlt2 : k < ds.length
              · have hg : ds[k]? = some (nth ds k) := nth_get? _ _ hlt2
                have wk := i64_up (k := k) (by omega)
                have hs : doneK ws ds (k + 1) = if wthn (nth ds k) 1 20 = false then 3 else if (foundW ws (nth ds k) || (ds.take k).any fun y => decide (y = nth ds k)) = true then 6 else 0 := by rw [doneK, if_neg (by simp [h0])]
                have hend : doneK ws ds (k + 1) ≠ 0 → svErr c ws ds = doneK ws ds (k + 1) := fun h => by
                  have e : doneErr ws ds = doneK ws ds (k + 1) := doneK_up ws ds (k + 1) h _ (by omega)
                  rw [wrongd (by rw [e]; exact h), e]
                simp only [go_sem, Nat.reduceLT, Nat.reduceAdd, Nat.reduceEqDiff, Nat.reduceLeDiff, Nat.reduceSub, Nat.reduceMul, Int.reduceEq, eq_self, reduceIte, hlt2, hg, cN, cSv]
                refine ops_call (.pureE (between_meets (nth ds k) 1 20) (by simp [go_sem, Nat.reduceLT, Nat.reduceAdd, Nat.reduceEqDiff, Nat.reduceLeDiff, Nat.reduceSub, Nat.reduceMul, Int.reduceEq, eq_self, reduceIte])) ?_
                cases h1 : wthn (nth ds k) 1 20
                · rw [if_pos h1] at hs
                  simp only [go_sem, Nat.reduceLT, Nat.reduceAdd, Nat.reduceEqDiff, Nat.reduceLeDiff, Nat.reduceSub, Nat.reduceMul, Int.reduceEq, eq_self, reduceIte, cSv]
                  refine ret_pure hx ?_
                  simp [go_sem, Nat.reduceLT, Nat.reduceAdd, Nat.reduceEqDiff, Nat.reduceLeDiff, Nat.reduceSub, Nat.reduceMul, Int.reduceEq, eq_self, reduceIte, L9, R9, hend (by rw [hs]; decide), hs]
                · rw [if_neg (by simp [h1])] at hs
                  have hrow : (∀ row ∈ List.map cN ds, row.length = 1) = True := eq_true (cN_row _)
                  have htk : List.take k (List.map cN ds) = List.map cN (List.take k ds) := List.map_take.symm
                  have hle : k ≤ ds.length := by omega
                  simp only [go_sem, Nat.reduceLT, Nat.reduceAdd, Nat.reduceEqDiff, Nat.reduceLeDiff, Nat.reduceSub, Nat.reduceMul, Int.reduceEq, eq_self, reduceIte, cSv, hlt2, hg, cN, hrow, htk, hle, Int.le_refl, Int.sub_zero, Int.toNat_zero]
                  refine ops_call (.pureE (hasInt_meets (ds.take k) (nth ds k) (by simp; omega)) (by simp [go_sem, Nat.reduceLT, Nat.reduceAdd, Nat.reduceEqDiff, Nat.reduceLeDiff, Nat.reduceSub, Nat.reduceMul, Int.reduceEq, eq_self, reduceIte, cN])) ?_
                  cases h3 : (ds.take k).any fun y => decide (y = nth ds k)
                  · rw [h3, Bool.or_false] at hs
                    simp only [go_sem, Nat.reduceLT, Nat.reduceAdd, Nat.reduceEqDiff, Nat.reduceLeDiff, Nat.reduceSub, Nat.reduceMul, Int.reduceEq, eq_self, reduceIte, cSv, hlt2, hg, cN]
                    refine ops_call (.pureE (waitAt_meets c ws ds (nth ds k) hwl) (by simp [go_sem, Nat.reduceLT, Nat.reduceAdd, Nat.reduceEqDiff, Nat.reduceLeDiff, Nat.reduceSub, Nat.reduceMul, Int.reduceEq, eq_self, reduceIte, cSv])) ?_
                    have hfd : (0 ≤ idxF (fun w : Wt => decide (w.n = nth ds k)) ws 0) ↔ foundW ws (nth ds k) = true := by
                      have := idxF_any (fun w : Wt => decide (w.n = nth ds k)) ws
                      unfold foundW
                      rw [← this]; simp
                    cases h2 : foundW ws (nth ds k)
                    · rw [h2, if_neg (by simp)] at hs
                      have hng : ¬ (0 ≤ idxF (fun w : Wt => decide (w.n = nth ds k)) ws 0) := fun h => by rw [hfd, h2] at h; cases h
                      simp only [go_sem, Nat.reduceLT, Nat.reduceAdd, Nat.reduceEqDiff, Nat.reduceLeDiff, Nat.reduceSub, Nat.reduceMul, Int.reduceEq, eq_self, reduceIte, cSv, hng, wk]
                      refine ⟨by simp, n - 1, by omega, k + 1, by omega, hs, ?_⟩
                      simp [trim_mk, go_sem, Nat.reduceLT, Nat.reduceAdd, Nat.reduceEqDiff, Nat.reduceLeDiff, Nat.reduceSub, Nat.reduceMul, Int.reduceEq, eq_self, reduceIte, subHeap, renObj, pos, List.range_succ, cSv]
                    · rw [h2, if_pos rfl] at hs
                      have hge : 0 ≤ idxF (fun w : Wt => decide (w.n = nth ds k)) ws 0 := hfd.2 h2
                      simp only [go_sem, Nat.reduceLT, Nat.reduceAdd, Nat.reduceEqDiff, Nat.reduceLeDiff, Nat.reduceSub, Nat.reduceMul, Int.reduceEq, eq_self, reduceIte, cSv, hge]
                      refine ret_pure hx ?_
                      simp [go_sem, Nat.reduceLT, Nat.reduceAdd, Nat.reduceEqDiff, Nat.reduceLeDiff, Nat.reduceSub, Nat.reduceMul, Int.reduceEq, eq_self, reduceIte, L9, R9, hend (by rw [hs]; decide), hs]
                  · rw [h3, Bool.or_true, if_pos rfl] at hs
                    simp only [go_sem, Nat.reduceLT, Nat.reduceAdd, Nat.reduceEqDiff, Nat.reduceLeDiff, Nat.reduceSub, Nat.reduceMul, Int.reduceEq, eq_self, reduceIte, cSv]
                    refine ret_pure hx ?_
                    simp [go_sem, Nat.reduceLT, Nat.reduceAdd, Nat.reduceEqDiff, Nat.reduceLeDiff, Nat.reduceSub, Nat.reduceMul, Int.reduceEq, eq_self, reduceIte, L9, R9, hend (by rw [hs]; decide), hs]
              · have : k = ds.length := by omega
                subst this
                have base : svErr c ws ds = if 0 ≤ firstW ws ∧ (nth ws (firstW ws).toNat).f = true then 4 else 0 := by
                  rw [svErr, if_neg (by simp [hc]), if_neg (by omega), if_neg (by simp [hk0]), if_neg (by simp [doneErr, h0])]
                have hf := firstR_eq hu hin
                simp only [go_sem, Nat.reduceLT, Nat.reduceAdd, Nat.reduceEqDiff, Nat.reduceLeDiff, Nat.reduceSub, Nat.reduceMul, Int.reduceEq, eq_self, reduceIte, hlt2, cSv]
                refine ops_call (.pureE (firstWait_meets c ws ds hwl) (by simp [go_sem, Nat.reduceLT, Nat.reduceAdd, Nat.reduceEqDiff, Nat.reduceLeDiff, Nat.reduceSub, Nat.reduceMul, Int.reduceEq, eq_self, reduceIte, cSv])) ?_
                rw [hf]
                by_cases hf : 0 ≤ firstW ws
                · obtain ⟨m, hm⟩ : ∃ m : Nat, firstW ws = m := ⟨(firstW ws).toNat, by omega⟩
                  have hml : m < ws.length := by have := (firstK_lt ws ws.length).1; rw [show firstK ws ws.length = firstW ws from rfl, hm] at this; omega
                  have hgm : ws[m]? = some (nth ws m) := nth_get? _ _ hml
                  rw [hm, Int.toNat_natCast] at base
                  cases hb : (nth ws m).f
                  · simp only [go_sem, Nat.reduceLT, Nat.reduceAdd, Nat.reduceEqDiff, Nat.reduceLeDiff, Nat.reduceSub, Nat.reduceMul, Int.reduceEq, eq_self, reduceIte, hm, hml, hgm, cW, cSv, hb]
                    refine ret_pure hx ?_
                    simp [go_sem, Nat.reduceLT, Nat.reduceAdd, Nat.reduceEqDiff, Nat.reduceLeDiff, Nat.reduceSub, Nat.reduceMul, Int.reduceEq, eq_self, reduceIte, L9, R9, base, hb]
                  · simp only [go_sem, Nat.reduceLT, Nat.reduceAdd, Nat.reduceEqDiff, Nat.reduceLeDiff, Nat.reduceSub, Nat.reduceMul, Int.reduceEq, eq_self, reduceIte, hm, hml, hgm, cW, cSv, hb]
                    refine ret_pure hx ?_
                    simp [go_sem, Nat.reduceLT, Nat.reduceAdd, Nat.reduceEqDiff, Nat.reduceLeDiff, Nat.reduceSub, Nat.reduceMul, Int.reduceEq, eq_self, reduceIte, L9, R9, base, hb]
                · rw [if_neg (fun h => hf h.1)] at base
                  simp only [go_sem, Nat.reduceLT, Nat.reduceAdd, Nat.reduceEqDiff, Nat.reduceLeDiff, Nat.reduceSub, Nat.reduceMul, Int.reduceEq, eq_self, reduceIte, hf, cSv]
                  refine ret_pure hx ?_
                  simp [go_sem, Nat.reduceLT, Nat.reduceAdd, Nat.reduceEqDiff, Nat.reduceLeDiff, Nat.reduceSub, Nat.reduceMul, Int.reduceEq, eq_self, reduceIte, L9, R9, base]
end Go.Proofs.Ytocglfkflpkafaa
/- SameServer at one server twice, serverIs: contracts. -/
namespace Go.Proofs.Ytocglfkflpkafaa
set_option linter.unusedSimpArgs false
set_option linter.unusedVariables false
open Go.RowKit
set_option maxHeartbeats 2000000 in
theorem sameServer_meets (c : Int) (ws : List Wt) (ds : List Int) (hwl : ws.length ≤ 9223372036854775806) (hdl : ds.length ≤ 9223372036854775806) : Meets Try.prog 35 [.agg (cSv c ws ds), .agg (cSv c ws ds)] [] (.bool true) [] := by
  refine Meets.of_walk Try.func35 Try.ntmps35 low35 res35 (by simp) fun x hx => ?_
  simp only [go_sem, Nat.reduceLT, Nat.reduceAdd, Nat.reduceEqDiff, Nat.reduceLeDiff, Nat.reduceSub, Nat.reduceMul, Int.reduceEq, eq_self, reduceIte, L35, R35, cSv]
  refine loop_inv [2, 3, 5] 2 (fun n st => ∃ k : Nat, k + n = ws.length ∧
    st = ⟨mkE .top [(2, .ptr 0 0), (3, .ptr 1 0), (5, .int .i64 k)], [.box (cSv c ws ds), .box (cSv c ws ds)]⟩) ws.length (by simp [hx]) (by simp) ?_ ?_
  · refine ⟨0, by omega, ?_⟩
    simp [trim_mk, go_sem, Nat.reduceLT, Nat.reduceAdd, Nat.reduceEqDiff, Nat.reduceLeDiff, Nat.reduceSub, Nat.reduceMul, Int.reduceEq, eq_self, reduceIte, subHeap, renObj, pos, List.range_succ, cSv]
  · rintro n st ⟨k, hk, rfl⟩
    by_cases hlt : k < ws.length
    · have hg : ws[k]? = some (nth ws k) := nth_get? _ _ hlt
      have wk := i64_up (k := k) (by omega)
      simp only [go_sem, Nat.reduceLT, Nat.reduceAdd, Nat.reduceEqDiff, Nat.reduceLeDiff, Nat.reduceSub, Nat.reduceMul, Int.reduceEq, eq_self, reduceIte, hlt, hg, cW, cSv, wk]
      refine ⟨by simp, n - 1, by omega, k + 1, by omega, ?_⟩
      simp [trim_mk, go_sem, Nat.reduceLT, Nat.reduceAdd, Nat.reduceEqDiff, Nat.reduceLeDiff, Nat.reduceSub, Nat.reduceMul, Int.reduceEq, eq_self, reduceIte, subHeap, renObj, pos, List.range_succ, cSv]
    · simp only [go_sem, Nat.reduceLT, Nat.reduceAdd, Nat.reduceEqDiff, Nat.reduceLeDiff, Nat.reduceSub, Nat.reduceMul, Int.reduceEq, eq_self, reduceIte, hlt, cSv]
      refine loop_inv [2, 3, 6] 2 (fun n st => ∃ k : Nat, k + n = ds.length ∧
        st = ⟨mkE .top [(2, .ptr 0 0), (3, .ptr 1 0), (6, .int .i64 k)], [.box (cSv c ws ds), .box (cSv c ws ds)]⟩) ds.length (by simp [hx]) (by simp) ?_ ?_
      · refine ⟨0, by omega, ?_⟩
        simp [trim_mk, go_sem, Nat.reduceLT, Nat.reduceAdd, Nat.reduceEqDiff, Nat.reduceLeDiff, Nat.reduceSub, Nat.reduceMul, Int.reduceEq, eq_self, reduceIte, subHeap, renObj, pos, List.range_succ, cSv]
      · rintro n st ⟨k, hk, rfl⟩
        by_cases hlt : k < ds.length
        · have hg : ds[k]? = some (nth ds k) := nth_get? _ _ hlt
          have wk := i64_up (k := k) (by omega)
          simp only [go_sem, Nat.reduceLT, Nat.reduceAdd, Nat.reduceEqDiff, Nat.reduceLeDiff, Nat.reduceSub, Nat.reduceMul, Int.reduceEq, eq_self, reduceIte, hlt, hg, cN, cSv, wk]
          refine ⟨by simp, n - 1, by omega, k + 1, by omega, ?_⟩
          simp [trim_mk, go_sem, Nat.reduceLT, Nat.reduceAdd, Nat.reduceEqDiff, Nat.reduceLeDiff, Nat.reduceSub, Nat.reduceMul, Int.reduceEq, eq_self, reduceIte, subHeap, renObj, pos, List.range_succ, cSv]
        · simp only [go_sem, Nat.reduceLT, Nat.reduceAdd, Nat.reduceEqDiff, Nat.reduceLeDiff, Nat.reduceSub, Nat.reduceMul, Int.reduceEq, eq_self, reduceIte, hlt, cSv]
          refine ret_pure hx ?_
          simp [go_sem, Nat.reduceLT, Nat.reduceAdd, Nat.reduceEqDiff, Nat.reduceLeDiff, Nat.reduceSub, Nat.reduceMul, Int.reduceEq, eq_self, reduceIte, L35, R35]
/-- a server's answer beside an errno is what it must be -/
theorem serverIs_meets (e c : Int) (ws : List Wt) (ds : List Int) (hwl : ws.length ≤ 9223372036854775806) (hdl : ds.length ≤ 9223372036854775806) :
    Meets Try.prog 15 [.agg (if e = 0 then cSv c ws ds else cSv 0 [] []), .int .i64 e, .int .i64 e, .agg (cSv c ws ds)] [] (.bool true) [] := by
  refine Meets.of_walk Try.func15 Try.ntmps15 low15 res15 (by simp) fun x hx => ?_
  by_cases h : e = 0
  · simp only [go_sem, Nat.reduceLT, Nat.reduceAdd, Nat.reduceEqDiff, Nat.reduceLeDiff, Nat.reduceSub, Nat.reduceMul, Int.reduceEq, eq_self, reduceIte, L15, R15, h, cSv]
    refine ops_call (.pureE (sameServer_meets c ws ds hwl hdl) (by simp [go_sem, Nat.reduceLT, Nat.reduceAdd, Nat.reduceEqDiff, Nat.reduceLeDiff, Nat.reduceSub, Nat.reduceMul, Int.reduceEq, eq_self, reduceIte, cSv])) ?_
    simp only [go_sem, Nat.reduceLT, Nat.reduceAdd, Nat.reduceEqDiff, Nat.reduceLeDiff, Nat.reduceSub, Nat.reduceMul, Int.reduceEq, eq_self, reduceIte]
    refine ret_pure hx ?_
    simp [go_sem, Nat.reduceLT, Nat.reduceAdd, Nat.reduceEqDiff, Nat.reduceLeDiff, Nat.reduceSub, Nat.reduceMul, Int.reduceEq, eq_self, reduceIte, L15, R15]
  · simp only [go_sem, Nat.reduceLT, Nat.reduceAdd, Nat.reduceEqDiff, Nat.reduceLeDiff, Nat.reduceSub, Nat.reduceMul, Int.reduceEq, eq_self, reduceIte, L15, R15, h, cSv]
    refine ops_call (.pureE (sameServer_meets 0 [] [] (by simp) (by simp)) (by simp [go_sem, Nat.reduceLT, Nat.reduceAdd, Nat.reduceEqDiff, Nat.reduceLeDiff, Nat.reduceSub, Nat.reduceMul, Int.reduceEq, eq_self, reduceIte, cSv])) ?_
    simp only [go_sem, Nat.reduceLT, Nat.reduceAdd, Nat.reduceEqDiff, Nat.reduceLeDiff, Nat.reduceSub, Nat.reduceMul, Int.reduceEq, eq_self, reduceIte]
    refine ret_pure hx ?_
    simp [go_sem, Nat.reduceLT, Nat.reduceAdd, Nat.reduceEqDiff, Nat.reduceLeDiff, Nat.reduceSub, Nat.reduceMul, Int.reduceEq, eq_self, reduceIte, L15, R15]
end Go.Proofs.Ytocglfkflpkafaa
/- Plain laws of laying a wait in by swaps. No program in sight. -/
namespace Go.Proofs.Ytocglfkflpkafaa
theorem nth_get {α : Type} [Inhabited α] {l : List α} {k : Nat} {x : α} (h : l[k]? = some x) : nth l k = x := by
  obtain ⟨h1, rfl⟩ := List.getElem?_eq_some_iff.1 h
  exact nth_eq _ _ h1
theorem ins_len (l : List Wt) (w : Wt) {k : Nat} (h : k ≤ l.length) : (l.insertIdx k w).length = l.length + 1 := by rw [List.length_insertIdx, if_pos h]
theorem ins_at (l : List Wt) (w : Wt) {k : Nat} (h : k ≤ l.length) : nth (l.insertIdx k w) k = w := nth_get (by rw [List.getElem?_insertIdx_self, if_pos h])
theorem ins_before (l : List Wt) (w : Wt) {k : Nat} (h : k < l.length) : nth (l.insertIdx (k + 1) w) k = nth l k := nth_get (by rw [List.getElem?_insertIdx_of_lt (by omega)]; exact nth_get? _ _ h)
theorem ins_end (l : List Wt) (w : Wt) : l.insertIdx l.length w = l ++ [w] := by
  refine List.ext_getElem? fun j => ?_
  rw [List.getElem?_insertIdx]
  by_cases h : j < l.length
  · rw [if_pos h, List.getElem?_append_left h]
  · rw [if_neg h]
    by_cases e : j = l.length
    · subst e; simp
    · rw [if_neg e, List.getElem?_eq_none (by omega), List.getElem?_eq_none (by simp; omega)]
theorem ins_swap (l : List Wt) (w : Wt) {k : Nat} (h : k < l.length) : ((l.insertIdx (k + 1) w).set (k + 1) (nth l k)).set k w = l.insertIdx k w := by
  refine List.ext_getElem? fun j => ?_
  have hl := ins_len l w (k := k + 1) (by omega)
  by_cases e : j = k
  · subst e
    rw [List.getElem?_set_self (by simp; omega), List.getElem?_insertIdx_self, if_pos (by omega)]
  · rw [List.getElem?_set_ne (fun h => e h.symm)]
    by_cases e2 : j = k + 1
    · subst e2
      rw [List.getElem?_set_self (by omega), List.getElem?_insertIdx_of_gt (by omega), Nat.add_sub_cancel, nth_get? _ _ h]
    · rw [List.getElem?_set_ne (fun h => e2 h.symm), List.getElem?_insertIdx, List.getElem?_insertIdx]
      by_cases h1 : j < k
      · rw [if_pos (by omega), if_pos h1]
      · rw [if_neg (by omega), if_neg e2, if_neg h1, if_neg e]
theorem pos_found {l : List Wt} (hu : upW l) {n : Int} (hf : foundW l n = false) {k : Nat} (hk : k ≤ l.length) (h1 : ∀ j, k ≤ j → j < l.length → n < (nth l j).n) (h2 : 0 < k → ¬ n < (nth l (k - 1)).n) : posW l n = k := by
  refine posW_at hk (fun j hj => ?_) fun j a b => by have := h1 j a b; omega
  have hne : ∀ j, j < l.length → (nth l j).n ≠ n := fun j hj e => by
    have := List.any_eq_false.1 hf (nth l j) (nthM hj)
    simp [e] at this
  have a := h2 (by omega)
  have b := hne (k - 1) (by omega)
  by_cases e : j = k - 1
  · rw [e]; omega
  · have := hu j (k - 1) (by omega) (by omega); omega
end Go.Proofs.Ytocglfkflpkafaa
/- ProposeOf, in the law text's words: a contract. -/
namespace Go.Proofs.Ytocglfkflpkafaa
set_option linter.unusedSimpArgs false
set_option linter.unusedVariables false
open Go.RowKit
def propErr (c : Int) (ws : List Wt) (ds : List Int) (n : Int) : Int :=
  if wthn n 1 20 = false then 3 else if (foundW ws n || ds.any fun y => decide (y = n)) = true then 6 else if ws.length = 8 ∨ c = 999 then 2 else 0
def propS (c : Int) (ws : List Wt) (ds : List Int) (n : Int) : List PV := if propErr c ws ds n = 0 then cSv (c + 1) (ws.insertIdx (posW ws n) ⟨n, c + 1, false⟩) ds else cSv 0 [] []
theorem waitAt_found (ws : List Wt) (n : Int) : (0 ≤ idxF (fun w : Wt => decide (w.n = n)) ws 0) ↔ foundW ws n = true := by
  have := idxF_any (fun w : Wt => decide (w.n = n)) ws
  unfold foundW
  rw [← this]; simp
set_option maxHeartbeats 2000000 in
theorem proposeOf_meets (c : Int) (ws : List Wt) (ds : List Int) (n : Int) (hu : upW ws) (hc : wthn c 0 999 = true) (hwl : ws.length ≤ 8) (hdl : ds.length ≤ 30) :
    Meets Try.prog 10 [.agg (cSv c ws ds), .int .i64 n] [] (.tup [.agg (propS c ws ds n), .int .i64 (propErr c ws ds n)]) [] := by
  refine Meets.of_walk Try.func10 Try.ntmps10 low10 res10 (by simp) fun x hx => ?_
  rw [wthn_iff] at hc
  simp only [go_sem, Nat.reduceLT, Nat.reduceAdd, Nat.reduceEqDiff, Nat.reduceLeDiff, Nat.reduceSub, Nat.reduceMul, Int.reduceEq, eq_self, reduceIte, L10, R10, cSv]
  refine ops_call (.pureE (between_meets n 1 20) (by simp [go_sem, Nat.reduceLT, Nat.reduceAdd, Nat.reduceEqDiff, Nat.reduceLeDiff, Nat.reduceSub, Nat.reduceMul, Int.reduceEq, eq_self, reduceIte])) ?_
  cases h1 : wthn n 1 20
  · have e : propErr c ws ds n = 3 := by rw [propErr, if_pos h1]
    simp only [go_sem, Nat.reduceLT, Nat.reduceAdd, Nat.reduceEqDiff, Nat.reduceLeDiff, Nat.reduceSub, Nat.reduceMul, Int.reduceEq, eq_self, reduceIte, cSv]
    refine ret_pure hx ?_
    simp [go_sem, Nat.reduceLT, Nat.reduceAdd, Nat.reduceEqDiff, Nat.reduceLeDiff, Nat.reduceSub, Nat.reduceMul, Int.reduceEq, eq_self, reduceIte, L10, R10, propS, e, cSv]
  · simp only [go_sem, Nat.reduceLT, Nat.reduceAdd, Nat.reduceEqDiff, Nat.reduceLeDiff, Nat.reduceSub, Nat.reduceMul, Int.reduceEq, eq_self, reduceIte, cSv]
    refine ops_call (.pureE (waitAt_meets c ws ds n (by omega)) (by simp [go_sem, Nat.reduceLT, Nat.reduceAdd, Nat.reduceEqDiff, Nat.reduceLeDiff, Nat.reduceSub, Nat.reduceMul, Int.reduceEq, eq_self, reduceIte, cSv])) ?_
    have hfd := waitAt_found ws n
    cases h2 : foundW ws n
    · have hng : ¬ (0 ≤ idxF (fun w : Wt => decide (w.n = n)) ws 0) := fun h => by rw [hfd, h2] at h; cases h
      simp only [go_sem, Nat.reduceLT, Nat.reduceAdd, Nat.reduceEqDiff, Nat.reduceLeDiff, Nat.reduceSub, Nat.reduceMul, Int.reduceEq, eq_self, reduceIte, cSv, hng]
      refine ops_call (.pureE (hasInt_meets ds n (by omega)) (by simp [go_sem, Nat.reduceLT, Nat.reduceAdd, Nat.reduceEqDiff, Nat.reduceLeDiff, Nat.reduceSub, Nat.reduceMul, Int.reduceEq, eq_self, reduceIte])) ?_
      cases h3 : ds.any fun y => decide (y = n)
      · have e0 : propErr c ws ds n = if ws.length = 8 ∨ c = 999 then 2 else 0 := by rw [propErr, if_neg (by simp [h1]), if_neg (by simp [h2, h3])]
        by_cases h4 : (ws.length : Int) = 8
        · have e : propErr c ws ds n = 2 := by rw [e0, if_pos (by omega)]
          simp only [go_sem, Nat.reduceLT, Nat.reduceAdd, Nat.reduceEqDiff, Nat.reduceLeDiff, Nat.reduceSub, Nat.reduceMul, Int.reduceEq, eq_self, reduceIte, cSv, h4]
          refine ret_pure hx ?_
          simp [go_sem, Nat.reduceLT, Nat.reduceAdd, Nat.reduceEqDiff, Nat.reduceLeDiff, Nat.reduceSub, Nat.reduceMul, Int.reduceEq, eq_self, reduceIte, L10, R10, propS, e, cSv]
        · by_cases h5 : c = 999
          · have e : propErr c ws ds n = 2 := by rw [e0, if_pos (.inr h5)]
            have e' : propErr 999 ws ds n = 2 := by rw [← h5]; exact e
            simp only [go_sem, Nat.reduceLT, Nat.reduceAdd, Nat.reduceEqDiff, Nat.reduceLeDiff, Nat.reduceSub, Nat.reduceMul, Int.reduceEq, eq_self, reduceIte, cSv, h4, h5]
            refine ret_pure hx ?_
            simp [go_sem, Nat.reduceLT, Nat.reduceAdd, Nat.reduceEqDiff, Nat.reduceLeDiff, Nat.reduceSub, Nat.reduceMul, Int.reduceEq, eq_self, reduceIte, L10, R10, propS, e', cSv]
          · have e : propErr c ws ds n = 0 := by rw [e0, if_neg (by omega)]
            have wc : IntKind.i64.wrap (c + 1) = c + 1 := by rw [IntKind.wrap_i64]; omega
            simp only [go_sem, Nat.reduceLT, Nat.reduceAdd, Nat.reduceEqDiff, Nat.reduceLeDiff, Nat.reduceSub, Nat.reduceMul, Int.reduceEq, eq_self, reduceIte, cSv, h4, h5, wc]
            rw [app_arr rfl rfl (by simp [cW]) (by simp; omega)]
            simp only [go_sem, Nat.reduceLT, Nat.reduceAdd, Nat.reduceEqDiff, Nat.reduceLeDiff, Nat.reduceSub, Nat.reduceMul, Int.reduceEq, eq_self, reduceIte]
            rw [app_arr rfl rfl (by simp) (by simp; omega)]
            simp only [go_sem, Nat.reduceLT, Nat.reduceAdd, Nat.reduceEqDiff, Nat.reduceLeDiff, Nat.reduceSub, Nat.reduceMul, Int.reduceEq, eq_self, reduceIte]
            repeat refine ⟨rfl, ?_⟩
            obtain ⟨w, hw⟩ : ∃ w : Wt, w = ⟨n, c + 1, false⟩ := ⟨_, rfl⟩
            have wl : IntKind.i64.wrap (ws.length : Int) = (ws.length : Int) := by rw [IntKind.wrap_i64]; omega
            refine loop_inv [4, 6, 7] 4 (fun g st => ∃ k : Nat, k = g ∧ k ≤ ws.length ∧ (∀ j, k ≤ j → j < ws.length → n < (nth ws j).n) ∧
              st = ⟨mkE .top [(4, .ptr 1 0), (6, .ptr 2 0), (7, .int .i64 k)], [.box (cSv c ws ds), .box [.int .i64 0, .nilsl, .nilsl], .box [.int .i64 (c + 1), .arr 3 2, .list (ds.map cN)], .arr 2 true false 48 3 ((ws.insertIdx k w).map cW)]⟩) ws.length (by simp [hx]) (by simp) ?_ ?_
            · refine ⟨ws.length, rfl, by omega, fun j a b => by omega, ?_⟩
              simp [trim_mk, go_sem, Nat.reduceLT, Nat.reduceAdd, Nat.reduceEqDiff, Nat.reduceLeDiff, Nat.reduceSub, Nat.reduceMul, Int.reduceEq, eq_self, reduceIte, subHeap, renObj, renCell, renLeaf, pos, List.range_succ, cSv, ins_end, cW, hw, wl]
            · rintro g st ⟨k, rfl, hk, hlo, rfl⟩
              have hil := ins_len ws w hk
              have hwn : w.n = n := by rw [hw]
              rcases Nat.eq_zero_or_pos k with rfl | hkp
              · have hp := pos_found hu h2 (k := 0) (by omega) hlo (fun h => by omega)
                simp only [go_sem, Nat.reduceLT, Nat.reduceAdd, Nat.reduceEqDiff, Nat.reduceLeDiff, Nat.reduceSub, Nat.reduceMul, Int.reduceEq, eq_self, reduceIte, cSv, Int.cast_ofNat_Int, Int.lt_irrefl]
                refine ret_weak (weak_shut 3 rfl) ?_
                refine ret_pure hx ?_
                simp [go_sem, Nat.reduceLT, Nat.reduceAdd, Nat.reduceEqDiff, Nat.reduceLeDiff, Nat.reduceSub, Nat.reduceMul, Int.reduceEq, eq_self, reduceIte, L10, R10, propS, e, cSv, hp, hw, frzAt, pos]
              · obtain ⟨k', rfl⟩ : ∃ k', k = k' + 1 := ⟨k - 1, by omega⟩
                have hg : (ws.insertIdx (k' + 1) w)[k' + 1]? = some w := by rw [List.getElem?_insertIdx_self, if_pos hk]
                have hg' : (ws.insertIdx (k' + 1) w)[k']? = some (nth ws k') := by rw [List.getElem?_insertIdx_of_lt (by omega)]; exact nth_get? _ _ (by omega)
                have hl1 : k' + 1 < (ws.insertIdx (k' + 1) w).length := by omega
                have hl2 : k' < (ws.insertIdx (k' + 1) w).length := by omega
                have hwd : IntKind.i64.wrap (((k' + 1 : Nat) : Int) - 1) = (k' : Int) := by rw [IntKind.wrap_i64]; omega
                have hkp' : (0 : Int) < ((k' + 1 : Nat) : Int) := by omega
                by_cases h6 : w.n < (nth ws k').n
                · have hs1 : (List.map cW (ws.insertIdx (k' + 1) w)).set (k' + 1) [PV.int .i64 (nth ws k').n, .int .i64 (nth ws k').t, .bool (nth ws k').f] = List.map cW ((ws.insertIdx (k' + 1) w).set (k' + 1) (nth ws k')) := by rw [List.map_set]; rfl
                  have hs2 : (List.map cW ((ws.insertIdx (k' + 1) w).set (k' + 1) (nth ws k'))).set k' [PV.int .i64 w.n, .int .i64 w.t, .bool w.f] = List.map cW (ws.insertIdx k' w) := by rw [← ins_swap ws w (show k' < ws.length by omega), List.map_set, List.map_set, List.map_set]; rfl
                  have hl3 : k' < ((ws.insertIdx (k' + 1) w).set (k' + 1) (nth ws k')).length := by rw [List.length_set]; exact hl2
                  have hg3 : ((ws.insertIdx (k' + 1) w).set (k' + 1) (nth ws k'))[k']? = some (nth ws k') := by rw [List.getElem?_set_ne (by omega)]; exact hg'
                  simp only [go_sem, Nat.reduceLT, Nat.reduceAdd, Nat.reduceEqDiff, Nat.reduceLeDiff, Nat.reduceSub, Nat.reduceMul, Int.reduceEq, eq_self, reduceIte, cSv, hkp', hl1, hl2, hg, hg', hwd, h6, cW, hs1, hs2, hl3, hg3, frz, false_or, or_true, List.drop_zero, List.append_nil]
                  repeat refine ⟨rfl, ?_⟩
                  refine ⟨by simp, k', by omega, k', rfl, by omega, fun j a b => ?_, ?_⟩
                  · by_cases ej : j = k'
                    · rw [ej, ← hwn]; exact h6
                    · exact hlo j (by omega) b
                  · simp [trim_mk, go_sem, Nat.reduceLT, Nat.reduceAdd, Nat.reduceEqDiff, Nat.reduceLeDiff, Nat.reduceSub, Nat.reduceMul, Int.reduceEq, eq_self, reduceIte, subHeap, renObj, renCell, renLeaf, pos, List.range_succ, cSv]
                · have hp := pos_found hu h2 (k := k' + 1) hk hlo (fun h => by rw [Nat.add_sub_cancel, ← hwn]; exact h6)
                  simp only [go_sem, Nat.reduceLT, Nat.reduceAdd, Nat.reduceEqDiff, Nat.reduceLeDiff, Nat.reduceSub, Nat.reduceMul, Int.reduceEq, eq_self, reduceIte, cSv, hkp', hl1, hl2, hg, hg', hwd, h6, cW]
                  refine ret_weak (weak_shut 3 rfl) ?_
                  refine ret_pure hx ?_
                  simp [go_sem, Nat.reduceLT, Nat.reduceAdd, Nat.reduceEqDiff, Nat.reduceLeDiff, Nat.reduceSub, Nat.reduceMul, Int.reduceEq, eq_self, reduceIte, L10, R10, propS, e, cSv, hp, hw, frzAt, pos]
      · have e : propErr c ws ds n = 6 := by rw [propErr, if_neg (by simp [h1]), if_pos (by simp [h3])]
        simp only [go_sem, Nat.reduceLT, Nat.reduceAdd, Nat.reduceEqDiff, Nat.reduceLeDiff, Nat.reduceSub, Nat.reduceMul, Int.reduceEq, eq_self, reduceIte, cSv]
        refine ret_pure hx ?_
        simp [go_sem, Nat.reduceLT, Nat.reduceAdd, Nat.reduceEqDiff, Nat.reduceLeDiff, Nat.reduceSub, Nat.reduceMul, Int.reduceEq, eq_self, reduceIte, L10, R10, propS, e, cSv]
    · have e : propErr c ws ds n = 6 := by rw [propErr, if_neg (by simp [h1]), if_pos (by simp [h2])]
      have hge := hfd.2 h2
      simp only [go_sem, Nat.reduceLT, Nat.reduceAdd, Nat.reduceEqDiff, Nat.reduceLeDiff, Nat.reduceSub, Nat.reduceMul, Int.reduceEq, eq_self, reduceIte, cSv, hge]
      refine ret_pure hx ?_
      simp [go_sem, Nat.reduceLT, Nat.reduceAdd, Nat.reduceEqDiff, Nat.reduceLeDiff, Nat.reduceSub, Nat.reduceMul, Int.reduceEq, eq_self, reduceIte, L10, R10, propS, e, cSv]
end Go.Proofs.Ytocglfkflpkafaa
/- Servers: a keeper of a server: contracts of Clone, own, propose. -/
namespace Go.Proofs.Ytocglfkflpkafaa
set_option linter.unusedSimpArgs false
set_option linter.unusedVariables false
open Go.RowKit
theorem cloneW_meets (rows : List (List PV)) (hz : ∀ row ∈ rows, row.length = 3) (hb : rows.length * 24 ≤ 140737488355328) : Meets Try.prog 36 [.list rows] [] (.arr 0 1) [.arr 1 true false 48 3 rows] := by
  refine Meets.of_walk Try.func36 Try.ntmps36 low36 res36 (by simp) fun x hx => ?_
  simp only [go_sem, Nat.reduceLT, Nat.reduceAdd, Nat.reduceEqDiff, Nat.reduceLeDiff, Nat.reduceSub, Nat.reduceMul, Int.reduceEq, eq_self, reduceIte, L36, R36]
  refine ops_isnil rfl fun b hb' => ?_
  cases b
  · simp only [go_sem, Nat.reduceLT, Nat.reduceAdd, Nat.reduceEqDiff, Nat.reduceLeDiff, Nat.reduceSub, Nat.reduceMul, Int.reduceEq, eq_self, reduceIte]
    rw [app_arr rfl rfl hz (by simpa using hb)]
    simp only [go_sem, Nat.reduceLT, Nat.reduceAdd, Nat.reduceEqDiff, Nat.reduceLeDiff, Nat.reduceSub, Nat.reduceMul, Int.reduceEq, eq_self, reduceIte]
    refine ret_keep [0] (by simp) (by simp [hx]) (by simp [hx]) ?_ ?_
    · simp [go_sem, Nat.reduceLT, Nat.reduceAdd, Nat.reduceEqDiff, Nat.reduceLeDiff, Nat.reduceSub, Nat.reduceMul, Int.reduceEq, eq_self, reduceIte, L36, R36, hx, pos]
    · simp [subHeap, renObj, hx]
  · simp only [go_sem, Nat.reduceLT, Nat.reduceAdd, Nat.reduceEqDiff, Nat.reduceLeDiff, Nat.reduceSub, Nat.reduceMul, Int.reduceEq, eq_self, reduceIte]
    refine ret_weak (weak_own 2 1 48 3 true false rfl (by omega)) ?_
    have : rows = [] := hb' rfl
    subst this
    rw [put_mk]
    refine ret_keep [0] (by simp) (by simp [hx]) (by simp [hx]) ?_ ?_
    · simp [go_sem, Nat.reduceLT, Nat.reduceAdd, Nat.reduceEqDiff, Nat.reduceLeDiff, Nat.reduceSub, Nat.reduceMul, Int.reduceEq, eq_self, reduceIte, L36, R36, hx, pos]
    · simp [subHeap, renObj, hx]
theorem cloneN_meets (rows : List (List PV)) (hz : ∀ row ∈ rows, row.length = 1) (hb : rows.length * 8 ≤ 140737488355328) : Meets Try.prog 37 [.list rows] [] (.arr 0 1) [.arr 1 true false 3 1 rows] := by
  refine Meets.of_walk Try.func37 Try.ntmps37 low37 res37 (by simp) fun x hx => ?_
  simp only [go_sem, Nat.reduceLT, Nat.reduceAdd, Nat.reduceEqDiff, Nat.reduceLeDiff, Nat.reduceSub, Nat.reduceMul, Int.reduceEq, eq_self, reduceIte, L37, R37]
  refine ops_isnil rfl fun b hb' => ?_
  cases b
  · simp only [go_sem, Nat.reduceLT, Nat.reduceAdd, Nat.reduceEqDiff, Nat.reduceLeDiff, Nat.reduceSub, Nat.reduceMul, Int.reduceEq, eq_self, reduceIte]
    rw [app_arr rfl rfl hz (by simpa using hb)]
    simp only [go_sem, Nat.reduceLT, Nat.reduceAdd, Nat.reduceEqDiff, Nat.reduceLeDiff, Nat.reduceSub, Nat.reduceMul, Int.reduceEq, eq_self, reduceIte]
    refine ret_keep [0] (by simp) (by simp [hx]) (by simp [hx]) ?_ ?_
    · simp [go_sem, Nat.reduceLT, Nat.reduceAdd, Nat.reduceEqDiff, Nat.reduceLeDiff, Nat.reduceSub, Nat.reduceMul, Int.reduceEq, eq_self, reduceIte, L37, R37, hx, pos]
    · simp [subHeap, renObj, hx]
  · simp only [go_sem, Nat.reduceLT, Nat.reduceAdd, Nat.reduceEqDiff, Nat.reduceLeDiff, Nat.reduceSub, Nat.reduceMul, Int.reduceEq, eq_self, reduceIte]
    refine ret_weak (weak_own 2 1 3 1 true false rfl (by omega)) ?_
    have : rows = [] := hb' rfl
    subst this
    rw [put_mk]
    refine ret_keep [0] (by simp) (by simp [hx]) (by simp [hx]) ?_ ?_
    · simp [go_sem, Nat.reduceLT, Nat.reduceAdd, Nat.reduceEqDiff, Nat.reduceLeDiff, Nat.reduceSub, Nat.reduceMul, Int.reduceEq, eq_self, reduceIte, L37, R37, hx, pos]
    · simp [subHeap, renObj, hx]
/-- a keeper: a server of one's own -/
def hSv (a b : Nat) (c : Int) (ws : List Wt) (ds : List Int) : List AObj := [.box [.int .i64 c, .arr 1 a, .arr 2 b], .arr a true false 48 3 (ws.map cW), .arr b true false 3 1 (ds.map cN)]
theorem skOwn_meets (c : Int) (ws : List Wt) (ds : List Int) (hwl : ws.length * 24 ≤ 140737488355328) (hdl : ds.length * 8 ≤ 140737488355328) : Meets Try.prog 20 [.agg (cSv c ws ds)] [] (.ptr 0 0) (hSv 1 1 c ws ds) := by
  refine Meets.of_walk Try.func20 Try.ntmps20 low20 res20 (by simp) fun x hx => ?_
  simp only [go_sem, Nat.reduceLT, Nat.reduceAdd, Nat.reduceEqDiff, Nat.reduceLeDiff, Nat.reduceSub, Nat.reduceMul, Int.reduceEq, eq_self, reduceIte, L20, R20, cSv]
  refine ops_call2 (r := .arr 1 1) (cloneW_meets (ws.map cW) (cW_row _) (by simp; omega)) rfl rfl (by simp [go_sem, Nat.reduceLT, Nat.reduceAdd, Nat.reduceEqDiff, Nat.reduceLeDiff, Nat.reduceSub, Nat.reduceMul, Int.reduceEq, eq_self, reduceIte]) rfl ?_
  simp only [go_sem, Nat.reduceLT, Nat.reduceAdd, Nat.reduceEqDiff, Nat.reduceLeDiff, Nat.reduceSub, Nat.reduceMul, Int.reduceEq, eq_self, reduceIte, cSv]
  refine ops_call2 (r := .arr 2 1) (cloneN_meets (ds.map cN) (cN_row _) (by simp; omega)) rfl rfl (by simp [go_sem, Nat.reduceLT, Nat.reduceAdd, Nat.reduceEqDiff, Nat.reduceLeDiff, Nat.reduceSub, Nat.reduceMul, Int.reduceEq, eq_self, reduceIte]) rfl ?_
  simp only [go_sem, Nat.reduceLT, Nat.reduceAdd, Nat.reduceEqDiff, Nat.reduceLeDiff, Nat.reduceSub, Nat.reduceMul, Int.reduceEq, eq_self, reduceIte, cSv]
  repeat refine ⟨rfl, ?_⟩
  refine ret_keep [3, 1, 2] (by simp) (by simp [hx]) (by simp [hx]) ?_ ?_
  · simp [go_sem, Nat.reduceLT, Nat.reduceAdd, Nat.reduceEqDiff, Nat.reduceLeDiff, Nat.reduceSub, Nat.reduceMul, Int.reduceEq, eq_self, reduceIte, L20, R20, hx, pos]
  · simp [subHeap, renObj, hx, pos, go_sem, Nat.reduceLT, Nat.reduceAdd, Nat.reduceEqDiff, Nat.reduceLeDiff, Nat.reduceSub, Nat.reduceMul, Int.reduceEq, eq_self, reduceIte, hSv]
end Go.Proofs.Ytocglfkflpkafaa
/- Servers: propose: a contract. -/
namespace Go.Proofs.Ytocglfkflpkafaa
set_option linter.unusedSimpArgs false
set_option linter.unusedVariables false
open Go.RowKit
theorem posW_le (l : List Wt) (n : Int) : posW l n ≤ l.length := by unfold posW; exact List.countP_le_length
theorem insIdx_map {α β : Type} (f : α → β) (w : α) : ∀ (ws : List α) (i : Nat), (ws.map f).insertIdx i (f w) = (ws.insertIdx i w).map f
  | [], 0 => rfl
  | [], _ + 1 => rfl
  | _ :: _, 0 => rfl
  | y :: ws, i + 1 => by
    simp only [List.map_cons, List.insertIdx_succ_cons]
    rw [insIdx_map f w ws i]
set_option maxHeartbeats 1000000 in
theorem skPropose_meets (a b : Nat) (c : Int) (ws : List Wt) (ds : List Int) (n : Int) (hu : upW ws) (hc : wthn c 0 999 = true) (hwl : ws.length ≤ 8) (hdl : ds.length ≤ 30) :
    Meets Try.prog 21 [.ptr 0 0, .int .i64 n] (hSv a b c ws ds) (.int .i64 (propErr c ws ds n))
      (if propErr c ws ds n = 0 then hSv (a + 1) b (c + 1) (ws.insertIdx (posW ws n) ⟨n, c + 1, false⟩) ds else hSv a b c ws ds) := by
  refine Meets.of_walk Try.func21 Try.ntmps21 low21 res21 (by simp) fun x hx => ?_
  rw [wthn_iff] at hc
  simp only [go_sem, Nat.reduceLT, Nat.reduceAdd, Nat.reduceEqDiff, Nat.reduceLeDiff, Nat.reduceSub, Nat.reduceMul, Int.reduceEq, eq_self, reduceIte, L21, R21, hSv]
  refine ops_call (.scalarE (skFind_meets ws n hu (by omega)) rfl (by simp [go_sem, Nat.reduceLT, Nat.reduceAdd, Nat.reduceEqDiff, Nat.reduceLeDiff, Nat.reduceSub, Nat.reduceMul, Int.reduceEq, eq_self, reduceIte, frzAt, pos])) ?_
  simp only [go_sem, Nat.reduceLT, Nat.reduceAdd, Nat.reduceEqDiff, Nat.reduceLeDiff, Nat.reduceSub, Nat.reduceMul, Int.reduceEq, eq_self, reduceIte]
  refine ops_call (.pureE (skNumber_meets n) (by simp [go_sem, Nat.reduceLT, Nat.reduceAdd, Nat.reduceEqDiff, Nat.reduceLeDiff, Nat.reduceSub, Nat.reduceMul, Int.reduceEq, eq_self, reduceIte])) ?_
  have stop : ∀ nt e st, st.heap = hSv a b c ws ds → propErr c ws ds n = e → e ≠ 0 → st.env 4 = .int .i64 e → retQ x nt R21 (.int .i64 (propErr c ws ds n)) (if propErr c ws ds n = 0 then hSv (a + 1) b (c + 1) (ws.insertIdx (posW ws n) ⟨n, c + 1, false⟩) ds else hSv a b c ws ds) .ret st := fun nt e st h1 h2 h3 h4 => by
    rw [h2, if_neg h3]
    refine ret_keep [] (by simp) (by simp) (by simp [hx, h1, hSv]) ?_ ?_
    · simp [go_sem, Nat.reduceLT, Nat.reduceAdd, Nat.reduceEqDiff, Nat.reduceLeDiff, Nat.reduceSub, Nat.reduceMul, Int.reduceEq, eq_self, reduceIte, L21, R21, hx, pos, h4]
    · simp [subHeap, renObj, hx, pos, go_sem, Nat.reduceLT, Nat.reduceAdd, Nat.reduceEqDiff, Nat.reduceLeDiff, Nat.reduceSub, Nat.reduceMul, Int.reduceEq, eq_self, reduceIte, hSv, h1, List.range_succ]
  cases h1 : wthn n 1 20
  · simp only [go_sem, Nat.reduceLT, Nat.reduceAdd, Nat.reduceEqDiff, Nat.reduceLeDiff, Nat.reduceSub, Nat.reduceMul, Int.reduceEq, eq_self, reduceIte]
    exact stop _ 3 _ rfl (by rw [propErr, if_pos h1]) (by decide) (by simp [go_sem, Nat.reduceLT, Nat.reduceAdd, Nat.reduceEqDiff, Nat.reduceLeDiff, Nat.reduceSub, Nat.reduceMul, Int.reduceEq, eq_self, reduceIte])
  · simp only [go_sem, Nat.reduceLT, Nat.reduceAdd, Nat.reduceEqDiff, Nat.reduceLeDiff, Nat.reduceSub, Nat.reduceMul, Int.reduceEq, eq_self, reduceIte]
    cases h2 : foundW ws n
    · simp only [go_sem, Nat.reduceLT, Nat.reduceAdd, Nat.reduceEqDiff, Nat.reduceLeDiff, Nat.reduceSub, Nat.reduceMul, Int.reduceEq, eq_self, reduceIte]
      refine ops_call (.scalarE (contN_meets ds n (by omega)) rfl (by simp [go_sem, Nat.reduceLT, Nat.reduceAdd, Nat.reduceEqDiff, Nat.reduceLeDiff, Nat.reduceSub, Nat.reduceMul, Int.reduceEq, eq_self, reduceIte, frzAt, pos])) ?_
      cases h3 : ds.any fun y => decide (y = n)
      · have e0 : propErr c ws ds n = if ws.length = 8 ∨ c = 999 then 2 else 0 := by rw [propErr, if_neg (by simp [h1]), if_neg (by simp [h2, h3])]
        by_cases h4 : (ws.length : Int) = 8
        · have e : propErr c ws ds n = 2 := by rw [e0, if_pos (by omega)]
          simp only [go_sem, Nat.reduceLT, Nat.reduceAdd, Nat.reduceEqDiff, Nat.reduceLeDiff, Nat.reduceSub, Nat.reduceMul, Int.reduceEq, eq_self, reduceIte, h4]
          exact stop _ 2 _ rfl e (by decide) (by simp [go_sem, Nat.reduceLT, Nat.reduceAdd, Nat.reduceEqDiff, Nat.reduceLeDiff, Nat.reduceSub, Nat.reduceMul, Int.reduceEq, eq_self, reduceIte])
        · by_cases h5 : c = 999
          · have e : propErr c ws ds n = 2 := by rw [e0, if_pos (.inr h5)]
            subst h5
            simp only [go_sem, Nat.reduceLT, Nat.reduceAdd, Nat.reduceEqDiff, Nat.reduceLeDiff, Nat.reduceSub, Nat.reduceMul, Int.reduceEq, eq_self, reduceIte, h4]
            exact stop _ 2 _ rfl e (by decide) (by simp [go_sem, Nat.reduceLT, Nat.reduceAdd, Nat.reduceEqDiff, Nat.reduceLeDiff, Nat.reduceSub, Nat.reduceMul, Int.reduceEq, eq_self, reduceIte])
          · have e : propErr c ws ds n = 0 := by rw [e0, if_neg (by omega)]
            have wc : IntKind.i64.wrap (c + 1) = c + 1 := by rw [IntKind.wrap_i64]; omega
            simp only [go_sem, Nat.reduceLT, Nat.reduceAdd, Nat.reduceEqDiff, Nat.reduceLeDiff, Nat.reduceSub, Nat.reduceMul, Int.reduceEq, eq_self, reduceIte, h4, h5, wc]
            refine ops_call1 1 (insW_meets (ws.map cW) (cW ⟨n, c + 1, false⟩) a (posW ws n) (by simp; exact posW_le _ _) rfl (by simp; omega)) rfl rfl rfl rfl (by simp [go_sem, Nat.reduceLT, Nat.reduceAdd, Nat.reduceEqDiff, Nat.reduceLeDiff, Nat.reduceSub, Nat.reduceMul, Int.reduceEq, eq_self, reduceIte]) (by simp [go_sem, Nat.reduceLT, Nat.reduceAdd, Nat.reduceEqDiff, Nat.reduceLeDiff, Nat.reduceSub, Nat.reduceMul, Int.reduceEq, eq_self, reduceIte, pos, cW]) rfl ?_
            simp only [go_sem, Nat.reduceLT, Nat.reduceAdd, Nat.reduceEqDiff, Nat.reduceLeDiff, Nat.reduceSub, Nat.reduceMul, Int.reduceEq, eq_self, reduceIte]
            rw [e, if_pos rfl]
            refine ret_keep [] (by simp) (by simp) (by simp [hx, hSv]) ?_ ?_
            · simp [go_sem, Nat.reduceLT, Nat.reduceAdd, Nat.reduceEqDiff, Nat.reduceLeDiff, Nat.reduceSub, Nat.reduceMul, Int.reduceEq, eq_self, reduceIte, L21, R21, hx, pos]
            · simp [subHeap, renObj, hx, pos, go_sem, Nat.reduceLT, Nat.reduceAdd, Nat.reduceEqDiff, Nat.reduceLeDiff, Nat.reduceSub, Nat.reduceMul, Int.reduceEq, eq_self, reduceIte, hSv, List.range_succ, insIdx_map]
      · have e : propErr c ws ds n = 6 := by rw [propErr, if_neg (by simp [h1]), if_pos (by simp [h3])]
        simp only [go_sem, Nat.reduceLT, Nat.reduceAdd, Nat.reduceEqDiff, Nat.reduceLeDiff, Nat.reduceSub, Nat.reduceMul, Int.reduceEq, eq_self, reduceIte]
        exact stop _ 6 _ rfl e (by decide) (by simp [go_sem, Nat.reduceLT, Nat.reduceAdd, Nat.reduceEqDiff, Nat.reduceLeDiff, Nat.reduceSub, Nat.reduceMul, Int.reduceEq, eq_self, reduceIte])
    · have e : propErr c ws ds n = 6 := by rw [propErr, if_neg (by simp [h1]), if_pos (by simp [h2])]
      simp only [go_sem, Nat.reduceLT, Nat.reduceAdd, Nat.reduceEqDiff, Nat.reduceLeDiff, Nat.reduceSub, Nat.reduceMul, Int.reduceEq, eq_self, reduceIte]
      exact stop _ 6 _ rfl e (by decide) (by simp [go_sem, Nat.reduceLT, Nat.reduceAdd, Nat.reduceEqDiff, Nat.reduceLeDiff, Nat.reduceSub, Nat.reduceMul, Int.reduceEq, eq_self, reduceIte])
end Go.Proofs.Ytocglfkflpkafaa
/- Servers: commit: a contract. -/
namespace Go.Proofs.Ytocglfkflpkafaa
set_option linter.unusedSimpArgs false
set_option linter.unusedVariables false
open Go.RowKit
theorem found_pos {l : List Wt} (hu : upW l) {n : Int} (h : foundW l n = true) : posW l n < l.length ∧ (nth l (posW l n)).n = n := by
  unfold foundW at h
  obtain ⟨w, hw, hn⟩ := List.any_eq_true.1 h
  obtain ⟨k, hk, rfl⟩ := List.getElem_of_mem hw
  rw [← nth_eq _ _ hk, decide_eq_true_eq] at hn
  have hp : posW l n = k := posW_at (by omega) (fun j hj => by have := hu j k hj hk; omega) fun j a b => by
    by_cases e : j = k
    · subst e; omega
    · have := hu k j (by omega) b; omega
  rw [hp]; exact ⟨hk, hn⟩
/-- the first wait, if it is for good -/
def readyW (ws : List Wt) : Bool := decide (0 ≤ firstW ws) && (nth ws (firstW ws).toNat).f
/-- those that are first, and for good, go: one by one -/
def sweepN : Nat → List Wt → List Int → List Wt × List Int
  | 0, ws, ds => (ws, ds)
  | k + 1, ws, ds => if readyW ws = true then sweepN k (ws.eraseIdx (firstW ws).toNat) (ds ++ [(nth ws (firstW ws).toNat).n]) else (ws, ds)
def swept (ws : List Wt) (ds : List Int) : List Wt × List Int := sweepN ws.length ws ds
theorem first_lt {ws : List Wt} (h : 0 ≤ firstW ws) : (firstW ws).toNat < ws.length := by
  have := (firstK_lt ws ws.length).1
  rw [show firstK ws ws.length = firstW ws from rfl] at this
  omega
theorem ready_lt {ws : List Wt} (h : readyW ws = true) : 0 ≤ firstW ws ∧ (firstW ws).toNat < ws.length ∧ (nth ws (firstW ws).toNat).f = true := by
  simp only [readyW, Bool.and_eq_true, decide_eq_true_eq] at h
  exact ⟨h.1, first_lt h.1, h.2⟩
theorem swept_step {ws : List Wt} {ds : List Int} (h : readyW ws = true) : swept ws ds = swept (ws.eraseIdx (firstW ws).toNat) (ds ++ [(nth ws (firstW ws).toNat).n]) := by
  have hl := (ready_lt h).2.1
  unfold swept
  rw [List.length_eraseIdx, if_pos hl]
  obtain ⟨m, hm⟩ : ∃ m, ws.length = m + 1 := ⟨ws.length - 1, by omega⟩
  rw [hm, sweepN, if_pos h, Nat.add_sub_cancel]
theorem swept_end {ws : List Wt} {ds : List Int} (h : readyW ws = false) : swept ws ds = (ws, ds) := by
  unfold swept
  cases hl : ws.length with
  | zero => rfl
  | succ m => rw [sweepN, if_neg (by simp [h])]
theorem sweepN_len (k : Nat) : ∀ (ws : List Wt) (ds : List Int), (sweepN k ws ds).1.length + (sweepN k ws ds).2.length = ws.length + ds.length ∧ (sweepN k ws ds).1.length ≤ ws.length := by
  induction k with
  | zero => intro ws ds; exact ⟨rfl, Nat.le_refl _⟩
  | succ k ih =>
    intro ws ds
    rw [sweepN]
    split
    · rename_i h
      obtain ⟨a, b⟩ := ih (ws.eraseIdx (firstW ws).toNat) (ds ++ [(nth ws (firstW ws).toNat).n])
      have hl := (ready_lt h).2.1
      rw [List.length_eraseIdx, if_pos hl] at a b
      simp only [List.length_append, List.length_cons, List.length_nil] at a
      omega
    · exact ⟨rfl, Nat.le_refl _⟩
theorem upW_erase {ws : List Wt} (hu : upW ws) (i : Nat) : upW (ws.eraseIdx i) := by
  intro a b hab hb
  rw [List.length_eraseIdx] at hb
  have key : ∀ k, k < (ws.eraseIdx i).length → nth (ws.eraseIdx i) k = nth ws (if k < i then k else k + 1) := by
    intro k hk
    rw [nth_eq _ _ hk, List.getElem_eraseIdx]
    rw [List.length_eraseIdx] at hk
    split
    · rw [nth_eq]
    · rw [nth_eq]
  have hl : (ws.eraseIdx i).length = if i < ws.length then ws.length - 1 else ws.length := List.length_eraseIdx
  rw [key a (by rw [hl]; split <;> split at hb <;> omega), key b (by rw [hl]; exact hb)]
  refine hu _ _ (by split <;> split <;> omega) ?_
  split at hb <;> split <;> omega
theorem upW_set {ws : List Wt} (hu : upW ws) {i : Nat} (hi : i < ws.length) {w : Wt} (hw : w.n = (nth ws i).n) : upW (ws.set i w) := by
  intro a b hab hb
  rw [List.length_set] at hb
  have key : ∀ k, k < ws.length → (nth (ws.set i w) k).n = (nth ws k).n := by
    intro k hk
    rw [nth_eq _ _ (by simpa using hk), List.getElem_set]
    split
    · rename_i e; subst e; exact hw
    · rw [nth_eq _ _ hk]
  rw [key a (by omega), key b hb]
  exact hu a b hab hb
/-- a wait's time for good -/
def setW (ws : List Wt) (n t : Int) : List Wt := ws.set (posW ws n) ⟨(nth ws (posW ws n)).n, t, true⟩
/-- what is wrong with a commit, before anything is done -/
def commE0 (ws : List Wt) (n t : Int) : Int :=
  if (wthn n 1 20 && wthn t 1 999) = false then 3 else if foundW ws n = false then 5 else if (nth ws (posW ws n)).f = true ∨ t < (nth ws (posW ws n)).t then 4 else 0
def commErr (ws : List Wt) (ds : List Int) (n t : Int) : Int :=
  if commE0 ws n t ≠ 0 then commE0 ws n t else if 30 < (swept (setW ws n t) ds).2.length then 2 else 0
def maxI (a b : Int) : Int := if a < b then b else a
/-- a keeper behind a commit -/
def commH (a b : Nat) (c : Int) (ws : List Wt) (ds : List Int) (n t : Int) : List AObj :=
  if commE0 ws n t ≠ 0 then hSv a b c ws ds else hSv (a + (ws.length - (swept (setW ws n t) ds).1.length)) (b + (ws.length - (swept (setW ws n t) ds).1.length)) (maxI c t) (swept (setW ws n t) ds).1 (swept (setW ws n t) ds).2
theorem eraseIdx_mapF {α β : Type} (f : α → β) : ∀ (ws : List α) (i : Nat), (ws.map f).eraseIdx i = (ws.eraseIdx i).map f
  | [], _ => rfl
  | _ :: _, 0 => rfl
  | y :: ws, i + 1 => by
    simp only [List.map_cons, List.eraseIdx_cons_succ]
    rw [eraseIdx_mapF f ws i]
set_option maxHeartbeats 2000000 in
theorem skCommit_meets (a b : Nat) (c : Int) (ws : List Wt) (ds : List Int) (n t : Int) (hu : upW ws) (hwl : ws.length ≤ 9) (hdl : ds.length ≤ 30) :
    Meets Try.prog 22 [.ptr 0 0, .int .i64 n, .int .i64 t] (hSv a b c ws ds) (.int .i64 (commErr ws ds n t)) (commH a b c ws ds n t) := by
  refine Meets.of_walk Try.func22 Try.ntmps22 low22 res22 (by simp) fun x hx => ?_
  have stop : ∀ nt e st, st.heap = hSv a b c ws ds → commE0 ws n t = e → e ≠ 0 → st.env 6 = .int .i64 e → retQ x nt R22 (.int .i64 (commErr ws ds n t)) (commH a b c ws ds n t) .ret st := fun nt e st h1 h2 h3 h4 => by
    rw [commErr, commH, if_pos (by rw [h2]; exact h3), if_pos (by rw [h2]; exact h3), h2]
    refine ret_keep [] (by simp) (by simp) (by simp [hx, h1, hSv]) ?_ ?_
    · simp [go_sem, Nat.reduceLT, Nat.reduceAdd, Nat.reduceEqDiff, Nat.reduceLeDiff, Nat.reduceSub, Nat.reduceMul, Int.reduceEq, eq_self, reduceIte, L22, R22, hx, pos, h4]
    · simp [subHeap, renObj, hx, pos, go_sem, Nat.reduceLT, Nat.reduceAdd, Nat.reduceEqDiff, Nat.reduceLeDiff, Nat.reduceSub, Nat.reduceMul, Int.reduceEq, eq_self, reduceIte, hSv, h1, List.range_succ]
  simp only [go_sem, Nat.reduceLT, Nat.reduceAdd, Nat.reduceEqDiff, Nat.reduceLeDiff, Nat.reduceSub, Nat.reduceMul, Int.reduceEq, eq_self, reduceIte, L22, R22, hSv]
  refine ops_call (.pureE (skNumber_meets n) (by simp [go_sem, Nat.reduceLT, Nat.reduceAdd, Nat.reduceEqDiff, Nat.reduceLeDiff, Nat.reduceSub, Nat.reduceMul, Int.reduceEq, eq_self, reduceIte])) ?_
  cases h1 : wthn n 1 20
  · simp only [go_sem, Nat.reduceLT, Nat.reduceAdd, Nat.reduceEqDiff, Nat.reduceLeDiff, Nat.reduceSub, Nat.reduceMul, Int.reduceEq, eq_self, reduceIte]
    exact stop _ 3 _ rfl (by rw [commE0, if_pos (by simp [h1])]) (by decide) (by simp [go_sem, Nat.reduceLT, Nat.reduceAdd, Nat.reduceEqDiff, Nat.reduceLeDiff, Nat.reduceSub, Nat.reduceMul, Int.reduceEq, eq_self, reduceIte])
  · simp only [go_sem, Nat.reduceLT, Nat.reduceAdd, Nat.reduceEqDiff, Nat.reduceLeDiff, Nat.reduceSub, Nat.reduceMul, Int.reduceEq, eq_self, reduceIte]
    refine ops_call (.pureE (skWithin_meets t 1 999) (by simp [go_sem, Nat.reduceLT, Nat.reduceAdd, Nat.reduceEqDiff, Nat.reduceLeDiff, Nat.reduceSub, Nat.reduceMul, Int.reduceEq, eq_self, reduceIte])) ?_
    cases h2 : wthn t 1 999
    · simp only [go_sem, Nat.reduceLT, Nat.reduceAdd, Nat.reduceEqDiff, Nat.reduceLeDiff, Nat.reduceSub, Nat.reduceMul, Int.reduceEq, eq_self, reduceIte]
      exact stop _ 3 _ rfl (by rw [commE0, if_pos (by simp [h2])]) (by decide) (by simp [go_sem, Nat.reduceLT, Nat.reduceAdd, Nat.reduceEqDiff, Nat.reduceLeDiff, Nat.reduceSub, Nat.reduceMul, Int.reduceEq, eq_self, reduceIte])
    · simp only [go_sem, Nat.reduceLT, Nat.reduceAdd, Nat.reduceEqDiff, Nat.reduceLeDiff, Nat.reduceSub, Nat.reduceMul, Int.reduceEq, eq_self, reduceIte]
      refine ops_call (.scalarE (skFind_meets ws n hu (by omega)) rfl (by simp [go_sem, Nat.reduceLT, Nat.reduceAdd, Nat.reduceEqDiff, Nat.reduceLeDiff, Nat.reduceSub, Nat.reduceMul, Int.reduceEq, eq_self, reduceIte, frzAt, pos])) ?_
      cases h3 : foundW ws n
      · simp only [go_sem, Nat.reduceLT, Nat.reduceAdd, Nat.reduceEqDiff, Nat.reduceLeDiff, Nat.reduceSub, Nat.reduceMul, Int.reduceEq, eq_self, reduceIte]
        exact stop _ 5 _ rfl (by rw [commE0, if_neg (by simp [h1, h2]), if_pos h3]) (by decide) (by simp [go_sem, Nat.reduceLT, Nat.reduceAdd, Nat.reduceEqDiff, Nat.reduceLeDiff, Nat.reduceSub, Nat.reduceMul, Int.reduceEq, eq_self, reduceIte])
      · obtain ⟨g1, g2⟩ := found_pos hu h3
        have e0 : commE0 ws n t = if (nth ws (posW ws n)).f = true ∨ t < (nth ws (posW ws n)).t then 4 else 0 := by rw [commE0, if_neg (by simp [h1, h2]), if_neg (by simp [h3])]
        have hset : setW ws n t = ws.set (posW ws n) ⟨(nth ws (posW ws n)).n, t, true⟩ := rfl
        have hup : ∀ w : Wt, w.n = (nth ws (posW ws n)).n → upW (ws.set (posW ws n) w) := fun w hw => upW_set hu g1 hw
        generalize posW ws n = i at *
        have hg : ws[i]? = some (nth ws i) := nth_get? _ _ g1
        cases h4 : (nth ws i).f
        · by_cases h5 : t < (nth ws i).t
          · simp only [go_sem, Nat.reduceLT, Nat.reduceAdd, Nat.reduceEqDiff, Nat.reduceLeDiff, Nat.reduceSub, Nat.reduceMul, Int.reduceEq, eq_self, reduceIte, g1, hg, cW, h4, h5]
            exact stop _ 4 _ rfl (by rw [e0, if_pos (.inr h5)]) (by decide) (by simp [go_sem, Nat.reduceLT, Nat.reduceAdd, Nat.reduceEqDiff, Nat.reduceLeDiff, Nat.reduceSub, Nat.reduceMul, Int.reduceEq, eq_self, reduceIte])
          · simp only [go_sem, Nat.reduceLT, Nat.reduceAdd, Nat.reduceEqDiff, Nat.reduceLeDiff, Nat.reduceSub, Nat.reduceMul, Int.reduceEq, eq_self, reduceIte, g1, hg, cW, h4, h5]
            have hs1 : (List.map cW ws).set i [PV.int .i64 (nth ws i).n, .int .i64 t, .bool false] = List.map cW (ws.set i ⟨(nth ws i).n, t, false⟩) := by rw [List.map_set]; rfl
            have hs2 : (List.map cW (ws.set i ⟨(nth ws i).n, t, false⟩)).set i [PV.int .i64 (nth ws i).n, .int .i64 t, .bool true] = List.map cW (ws.set i ⟨(nth ws i).n, t, true⟩) := by rw [show ([PV.int .i64 (nth ws i).n, .int .i64 t, .bool true] : List PV) = cW ⟨(nth ws i).n, t, true⟩ from rfl, ← List.map_set, List.set_set]
            have hl3 : i < (ws.set i ⟨(nth ws i).n, t, false⟩).length := by rw [List.length_set]; exact g1
            have hg3 : (ws.set i ⟨(nth ws i).n, t, false⟩)[i]? = some ⟨(nth ws i).n, t, false⟩ := by rw [List.getElem?_set_self g1]
            simp only [go_sem, Nat.reduceLT, Nat.reduceAdd, Nat.reduceEqDiff, Nat.reduceLeDiff, Nat.reduceSub, Nat.reduceMul, Int.reduceEq, eq_self, reduceIte, frz, false_or, or_true, hs1, hl3, hg3, cW, hs2, List.drop_zero, List.append_nil]
            repeat refine ⟨rfl, ?_⟩
            rw [← hset]
            have hu1 : upW (setW ws n t) := by rw [hset]; exact hup _ rfl
            have hl1 : (setW ws n t).length = ws.length := by rw [hset, List.length_set]
            have er : commErr ws ds n t = if 30 < (swept (setW ws n t) ds).2.length then 2 else 0 := by rw [commErr, if_neg (by rw [e0, if_neg (by simp [h4, h5])]; simp)]
            have eH : commH a b c ws ds n t = hSv (a + (ws.length - (swept (setW ws n t) ds).1.length)) (b + (ws.length - (swept (setW ws n t) ds).1.length)) (maxI c t) (swept (setW ws n t) ds).1 (swept (setW ws n t) ds).2 := by rw [commH, if_neg (by rw [e0, if_neg (by simp [h4, h5])]; simp)]
            refine ops_call (.scalarE (skFirst_meets (setW ws n t) (by omega)) rfl (by simp [go_sem, Nat.reduceLT, Nat.reduceAdd, Nat.reduceEqDiff, Nat.reduceLeDiff, Nat.reduceSub, Nat.reduceMul, Int.reduceEq, eq_self, reduceIte, frzAt, pos])) ?_
            simp only [go_sem, Nat.reduceLT, Nat.reduceAdd, Nat.reduceEqDiff, Nat.reduceLeDiff, Nat.reduceSub, Nat.reduceMul, Int.reduceEq, eq_self, reduceIte]
            refine loop_inv [0, 9] 3 (fun m st => ∃ (k : Nat) (us : List Wt) (es : List Int), us.length = m ∧ m + k = ws.length ∧ upW us ∧ es.length = ds.length + k ∧ swept us es = swept (setW ws n t) ds ∧
              st = ⟨mkE .top [(0, .ptr 0 0), (9, .int .i64 (firstW us))], hSv (a + k) (b + k) (maxI c t) us es⟩) ws.length (by simp [hx, hSv]) (by simp) ?_ ?_
            · refine ⟨0, setW ws n t, ds, hl1, by omega, hu1, by omega, rfl, ?_⟩
              simp [trim_mk, go_sem, Nat.reduceLT, Nat.reduceAdd, Nat.reduceEqDiff, Nat.reduceLeDiff, Nat.reduceSub, Nat.reduceMul, Int.reduceEq, eq_self, reduceIte, subHeap, renObj, renCell, renLeaf, pos, List.range_succ, hSv, maxI]
            · rintro m st ⟨k, us, es, hm, hmk, hus, hes, hsw, rfl⟩
              by_cases hf : 0 ≤ firstW us
              · have hfl := first_lt hf
                obtain ⟨q, hq⟩ : ∃ q : Nat, firstW us = q := ⟨(firstW us).toNat, by omega⟩
                rw [hq, Int.toNat_natCast] at hfl
                have hgq : us[q]? = some (nth us q) := nth_get? _ _ hfl
                cases hfin : (nth us q).f
                · have hr : readyW us = false := by simp [readyW, hq, hfin]
                  rw [swept_end hr] at hsw
                  simp only [go_sem, Nat.reduceLT, Nat.reduceAdd, Nat.reduceEqDiff, Nat.reduceLeDiff, Nat.reduceSub, Nat.reduceMul, Int.reduceEq, eq_self, reduceIte, hSv, hq, hfl, hgq, cW, hfin]
                  rw [er, eH, ← hsw]
                  have hk1 : ws.length - us.length = k := by omega
                  by_cases h30 : (30 : Int) < (es.length : Int)
                  · have h30' : 30 < es.length := by omega
                    simp only [go_sem, Nat.reduceLT, Nat.reduceAdd, Nat.reduceEqDiff, Nat.reduceLeDiff, Nat.reduceSub, Nat.reduceMul, Int.reduceEq, eq_self, reduceIte, h30]
                    rw [if_pos h30', hk1]
                    refine ret_keep [] (by simp) (by simp) (by simp [hx, hSv]) ?_ ?_
                    · simp [go_sem, Nat.reduceLT, Nat.reduceAdd, Nat.reduceEqDiff, Nat.reduceLeDiff, Nat.reduceSub, Nat.reduceMul, Int.reduceEq, eq_self, reduceIte, L22, R22, hx, pos]
                    · simp [subHeap, renObj, hx, pos, go_sem, Nat.reduceLT, Nat.reduceAdd, Nat.reduceEqDiff, Nat.reduceLeDiff, Nat.reduceSub, Nat.reduceMul, Int.reduceEq, eq_self, reduceIte, hSv, List.range_succ]
                  · have h30' : ¬ 30 < es.length := by omega
                    simp only [go_sem, Nat.reduceLT, Nat.reduceAdd, Nat.reduceEqDiff, Nat.reduceLeDiff, Nat.reduceSub, Nat.reduceMul, Int.reduceEq, eq_self, reduceIte, h30]
                    rw [if_neg h30', hk1]
                    refine ret_keep [] (by simp) (by simp) (by simp [hx, hSv]) ?_ ?_
                    · simp [go_sem, Nat.reduceLT, Nat.reduceAdd, Nat.reduceEqDiff, Nat.reduceLeDiff, Nat.reduceSub, Nat.reduceMul, Int.reduceEq, eq_self, reduceIte, L22, R22, hx, pos]
                    · simp [subHeap, renObj, hx, pos, go_sem, Nat.reduceLT, Nat.reduceAdd, Nat.reduceEqDiff, Nat.reduceLeDiff, Nat.reduceSub, Nat.reduceMul, Int.reduceEq, eq_self, reduceIte, hSv, List.range_succ]
                · have hr : readyW us = true := by simp [readyW, hq, hfin]
                  rw [swept_step hr, hq, Int.toNat_natCast] at hsw
                  simp only [go_sem, Nat.reduceLT, Nat.reduceAdd, Nat.reduceEqDiff, Nat.reduceLeDiff, Nat.reduceSub, Nat.reduceMul, Int.reduceEq, eq_self, reduceIte, hSv, hq, hfl, hgq, cW, hfin]
                  rw [app_arr rfl rfl (by simp) (by simp; omega)]
                  simp only [go_sem, Nat.reduceLT, Nat.reduceAdd, Nat.reduceEqDiff, Nat.reduceLeDiff, Nat.reduceSub, Nat.reduceMul, Int.reduceEq, eq_self, reduceIte]
                  repeat refine ⟨rfl, ?_⟩
                  have wq := i64_up (k := q) (by omega)
                  simp only [go_sem, Nat.reduceLT, Nat.reduceAdd, Nat.reduceEqDiff, Nat.reduceLeDiff, Nat.reduceSub, Nat.reduceMul, Int.reduceEq, eq_self, reduceIte, wq]
                  refine ops_call1 1 (delW_meets (us.map cW) (a + k) 48 q (by simpa using hfl)) rfl rfl rfl rfl (by simp [go_sem, Nat.reduceLT, Nat.reduceAdd, Nat.reduceEqDiff, Nat.reduceLeDiff, Nat.reduceSub, Nat.reduceMul, Int.reduceEq, eq_self, reduceIte]) (by simp [go_sem, Nat.reduceLT, Nat.reduceAdd, Nat.reduceEqDiff, Nat.reduceLeDiff, Nat.reduceSub, Nat.reduceMul, Int.reduceEq, eq_self, reduceIte, pos]) rfl ?_
                  rw [eraseIdx_mapF]
                  have hle : (us.eraseIdx q).length = us.length - 1 := by rw [List.length_eraseIdx, if_pos hfl]
                  have hce : List.map cN es ++ [[PV.int .i64 (nth us q).n]] = (es ++ [(nth us q).n]).map cN := by simp [cN]
                  simp only [go_sem, Nat.reduceLT, Nat.reduceAdd, Nat.reduceEqDiff, Nat.reduceLeDiff, Nat.reduceSub, Nat.reduceMul, Int.reduceEq, eq_self, reduceIte, hce]
                  refine ops_call (.scalarE (skFirst_meets (us.eraseIdx q) (by omega)) rfl (by simp [go_sem, Nat.reduceLT, Nat.reduceAdd, Nat.reduceEqDiff, Nat.reduceLeDiff, Nat.reduceSub, Nat.reduceMul, Int.reduceEq, eq_self, reduceIte, frzAt, pos])) ?_
                  simp only [go_sem, Nat.reduceLT, Nat.reduceAdd, Nat.reduceEqDiff, Nat.reduceLeDiff, Nat.reduceSub, Nat.reduceMul, Int.reduceEq, eq_self, reduceIte]
                  refine ⟨by simp, m - 1, by omega, k + 1, us.eraseIdx q, es ++ [(nth us q).n], by omega, by omega, upW_erase hus q, by simp; omega, hsw, ?_⟩
                  simp [trim_mk, go_sem, Nat.reduceLT, Nat.reduceAdd, Nat.reduceEqDiff, Nat.reduceLeDiff, Nat.reduceSub, Nat.reduceMul, Int.reduceEq, eq_self, reduceIte, subHeap, renObj, renCell, renLeaf, pos, List.range_succ, hSv, Nat.add_assoc]
              · have hr : readyW us = false := by simp [readyW, hf]
                rw [swept_end hr] at hsw
                simp only [go_sem, Nat.reduceLT, Nat.reduceAdd, Nat.reduceEqDiff, Nat.reduceLeDiff, Nat.reduceSub, Nat.reduceMul, Int.reduceEq, eq_self, reduceIte, hSv, hf]
                rw [er, eH, ← hsw]
                have hk1 : ws.length - us.length = k := by omega
                by_cases h30 : (30 : Int) < (es.length : Int)
                · have h30' : 30 < es.length := by omega
                  simp only [go_sem, Nat.reduceLT, Nat.reduceAdd, Nat.reduceEqDiff, Nat.reduceLeDiff, Nat.reduceSub, Nat.reduceMul, Int.reduceEq, eq_self, reduceIte, h30]
                  rw [if_pos h30', hk1]
                  refine ret_keep [] (by simp) (by simp) (by simp [hx, hSv]) ?_ ?_
                  · simp [go_sem, Nat.reduceLT, Nat.reduceAdd, Nat.reduceEqDiff, Nat.reduceLeDiff, Nat.reduceSub, Nat.reduceMul, Int.reduceEq, eq_self, reduceIte, L22, R22, hx, pos]
                  · simp [subHeap, renObj, hx, pos, go_sem, Nat.reduceLT, Nat.reduceAdd, Nat.reduceEqDiff, Nat.reduceLeDiff, Nat.reduceSub, Nat.reduceMul, Int.reduceEq, eq_self, reduceIte, hSv, List.range_succ]
                · have h30' : ¬ 30 < es.length := by omega
                  simp only [go_sem, Nat.reduceLT, Nat.reduceAdd, Nat.reduceEqDiff, Nat.reduceLeDiff, Nat.reduceSub, Nat.reduceMul, Int.reduceEq, eq_self, reduceIte, h30]
                  rw [if_neg h30', hk1]
                  refine ret_keep [] (by simp) (by simp) (by simp [hx, hSv]) ?_ ?_
                  · simp [go_sem, Nat.reduceLT, Nat.reduceAdd, Nat.reduceEqDiff, Nat.reduceLeDiff, Nat.reduceSub, Nat.reduceMul, Int.reduceEq, eq_self, reduceIte, L22, R22, hx, pos]
                  · simp [subHeap, renObj, hx, pos, go_sem, Nat.reduceLT, Nat.reduceAdd, Nat.reduceEqDiff, Nat.reduceLeDiff, Nat.reduceSub, Nat.reduceMul, Int.reduceEq, eq_self, reduceIte, hSv, List.range_succ]
        · simp only [go_sem, Nat.reduceLT, Nat.reduceAdd, Nat.reduceEqDiff, Nat.reduceLeDiff, Nat.reduceSub, Nat.reduceMul, Int.reduceEq, eq_self, reduceIte, g1, hg, cW, h4]
          exact stop _ 4 _ rfl (by rw [e0, if_pos (.inl h4)]) (by decide) (by simp [go_sem, Nat.reduceLT, Nat.reduceAdd, Nat.reduceEqDiff, Nat.reduceLeDiff, Nat.reduceSub, Nat.reduceMul, Int.reduceEq, eq_self, reduceIte])
end Go.Proofs.Ytocglfkflpkafaa
/- Servers: Propose, Commit: contracts. -/
namespace Go.Proofs.Ytocglfkflpkafaa
set_option linter.unusedSimpArgs false
set_option linter.unusedVariables false
open Go.RowKit
theorem svErr_ok {c : Int} {ws : List Wt} {ds : List Int} (h : svErr c ws ds = 0) : wthn c 0 999 = true ∧ ws.length ≤ 8 ∧ ds.length ≤ 30 ∧ waitK c ws ws.length = 0 ∧ upW ws ∧ doneErr ws ds = 0 := by
  unfold svErr at h
  split at h
  · cases h
  · rename_i h1
    split at h
    · cases h
    · rename_i h2
      split at h
      · rename_i h3; exact (h3 h).elim
      · rename_i h3
        split at h
        · rename_i h4; exact (h4 h).elim
        · rename_i h4
          have h3' : waitK c ws ws.length = 0 := by simpa using h3
          exact ⟨by simpa using h1, by omega, by omega, h3', waitK_upW h3', by simpa using h4⟩
/-- what a call of Propose answers -/
def propE (c : Int) (ws : List Wt) (ds : List Int) (n : Int) : Int := if svErr c ws ds ≠ 0 then svErr c ws ds else propErr c ws ds n
def propR (c : Int) (ws : List Wt) (ds : List Int) (n : Int) : Int × List Wt × List Int := if propE c ws ds n = 0 then (c + 1, ws.insertIdx (posW ws n) ⟨n, c + 1, false⟩, ds) else (0, [], [])
def cSv3 (s : Int × List Wt × List Int) : List PV := cSv s.1 s.2.1 s.2.2
def commE (c : Int) (ws : List Wt) (ds : List Int) (n t : Int) : Int := if svErr c ws ds ≠ 0 then svErr c ws ds else commErr ws ds n t
def commR (c : Int) (ws : List Wt) (ds : List Int) (n t : Int) : Int × List Wt × List Int := if commE c ws ds n t = 0 then (maxI c t, swept (setW ws n t) ds) else (0, [], [])
set_option maxHeartbeats 1000000 in
theorem skProposeX_meets (c : Int) (ws : List Wt) (ds : List Int) (n : Int) (hwl : ws.length * 24 ≤ 140737488355328) (hdl : ds.length * 8 ≤ 140737488355328) :
    Meets Try.prog 6 [.agg (cSv c ws ds), .int .i64 n] [] (.tup [.agg (cSv3 (propR c ws ds n)), .int .i64 (propR c ws ds n).1, .int .i64 (propE c ws ds n)]) [] := by
  refine Meets.of_walk Try.func6 Try.ntmps6 low6 res6 (by simp) fun x hx => ?_
  simp only [go_sem, Nat.reduceLT, Nat.reduceAdd, Nat.reduceEqDiff, Nat.reduceLeDiff, Nat.reduceSub, Nat.reduceMul, Int.reduceEq, eq_self, reduceIte, L6, R6, cSv]
  refine ops_call (.pureE (skCheck_meets c ws ds (by omega) (by omega)) (by simp [go_sem, Nat.reduceLT, Nat.reduceAdd, Nat.reduceEqDiff, Nat.reduceLeDiff, Nat.reduceSub, Nat.reduceMul, Int.reduceEq, eq_self, reduceIte, cSv])) ?_
  simp only [go_sem, Nat.reduceLT, Nat.reduceAdd, Nat.reduceEqDiff, Nat.reduceLeDiff, Nat.reduceSub, Nat.reduceMul, Int.reduceEq, eq_self, reduceIte, cSv]
  refine ops_call (.heapE [] (r' := .ptr 2 0) (H' := [.box (cSv c ws ds), .box [.int .i64 0, .nilsl, .nilsl], .box [.int .i64 c, .arr 3 1, .arr 4 1], .arr 1 true false 48 3 (ws.map cW), .arr 1 true false 3 1 (ds.map cN)]) (skOwn_meets c ws ds hwl hdl) (by simp) (by simp) (by simp [go_sem, Nat.reduceLT, Nat.reduceAdd, Nat.reduceEqDiff, Nat.reduceLeDiff, Nat.reduceSub, Nat.reduceMul, Int.reduceEq, eq_self, reduceIte, cSv]) rfl rfl rfl) ?_
  by_cases h0 : svErr c ws ds = 0
  · obtain ⟨hc, hw8, hd30, -, hu, -⟩ := svErr_ok h0
    have e0 : propE c ws ds n = propErr c ws ds n := by rw [propE, if_neg (by simp [h0])]
    have hp := skPropose_meets 1 1 c ws ds n hu hc hw8 hd30
    simp only [go_sem, Nat.reduceLT, Nat.reduceAdd, Nat.reduceEqDiff, Nat.reduceLeDiff, Nat.reduceSub, Nat.reduceMul, Int.reduceEq, eq_self, reduceIte, h0, cSv]
    by_cases h1 : propErr c ws ds n = 0
    · rw [if_pos h1, h1] at hp
      have er : propR c ws ds n = (c + 1, ws.insertIdx (posW ws n) ⟨n, c + 1, false⟩, ds) := by rw [propR, if_pos (by rw [e0, h1])]
      refine ops_call (.heapE [2, 3, 4] (r' := .int .i64 0) (H' := [.box (cSv c ws ds), .box [.int .i64 0, .nilsl, .nilsl], .box [.int .i64 (c + 1), .arr 3 2, .arr 4 1], .arr 2 true false 48 3 ((ws.insertIdx (posW ws n) ⟨n, c + 1, false⟩).map cW), .arr 1 true false 3 1 (ds.map cN)]) hp (by simp) (by simp) (by simp [go_sem, Nat.reduceLT, Nat.reduceAdd, Nat.reduceEqDiff, Nat.reduceLeDiff, Nat.reduceSub, Nat.reduceMul, Int.reduceEq, eq_self, reduceIte, pos]) rfl rfl rfl) ?_
      simp only [go_sem, Nat.reduceLT, Nat.reduceAdd, Nat.reduceEqDiff, Nat.reduceLeDiff, Nat.reduceSub, Nat.reduceMul, Int.reduceEq, eq_self, reduceIte, cSv]
      repeat refine ⟨rfl, ?_⟩
      refine ret_weak (weak_shut 3 rfl) ?_
      refine ret_pure hx ?_
      simp [go_sem, Nat.reduceLT, Nat.reduceAdd, Nat.reduceEqDiff, Nat.reduceLeDiff, Nat.reduceSub, Nat.reduceMul, Int.reduceEq, eq_self, reduceIte, L6, R6, er, e0, h1, cSv3, cSv, frzAt, pos]
    · rw [if_neg h1] at hp
      have er : propR c ws ds n = (0, [], []) := by rw [propR, if_neg (by rw [e0]; exact h1)]
      refine ops_call (.heapE [2, 3, 4] (r' := .int .i64 (propErr c ws ds n)) (H' := [.box (cSv c ws ds), .box [.int .i64 0, .nilsl, .nilsl], .box [.int .i64 c, .arr 3 1, .arr 4 1], .arr 1 true false 48 3 (ws.map cW), .arr 1 true false 3 1 (ds.map cN)]) hp (by simp) (by simp) (by simp [go_sem, Nat.reduceLT, Nat.reduceAdd, Nat.reduceEqDiff, Nat.reduceLeDiff, Nat.reduceSub, Nat.reduceMul, Int.reduceEq, eq_self, reduceIte, pos]) rfl rfl rfl) ?_
      simp only [go_sem, Nat.reduceLT, Nat.reduceAdd, Nat.reduceEqDiff, Nat.reduceLeDiff, Nat.reduceSub, Nat.reduceMul, Int.reduceEq, eq_self, reduceIte, cSv, h1]
      refine ret_pure hx ?_
      simp [go_sem, Nat.reduceLT, Nat.reduceAdd, Nat.reduceEqDiff, Nat.reduceLeDiff, Nat.reduceSub, Nat.reduceMul, Int.reduceEq, eq_self, reduceIte, L6, R6, er, e0, cSv3, cSv, frzAt, pos]
  · have e0 : propE c ws ds n = svErr c ws ds := by rw [propE, if_pos h0]
    have er : propR c ws ds n = (0, [], []) := by rw [propR, if_neg (by rw [e0]; exact h0)]
    simp only [go_sem, Nat.reduceLT, Nat.reduceAdd, Nat.reduceEqDiff, Nat.reduceLeDiff, Nat.reduceSub, Nat.reduceMul, Int.reduceEq, eq_self, reduceIte, h0, cSv]
    refine ret_pure hx ?_
    simp [go_sem, Nat.reduceLT, Nat.reduceAdd, Nat.reduceEqDiff, Nat.reduceLeDiff, Nat.reduceSub, Nat.reduceMul, Int.reduceEq, eq_self, reduceIte, L6, R6, er, e0, cSv3, cSv, frzAt, pos]
set_option maxHeartbeats 1000000 in
theorem skCommitX_meets (c : Int) (ws : List Wt) (ds : List Int) (n t : Int) (hwl : ws.length * 24 ≤ 140737488355328) (hdl : ds.length * 8 ≤ 140737488355328) :
    Meets Try.prog 7 [.agg (cSv c ws ds), .int .i64 n, .int .i64 t] [] (.tup [.agg (cSv3 (commR c ws ds n t)), .int .i64 (commE c ws ds n t)]) [] := by
  refine Meets.of_walk Try.func7 Try.ntmps7 low7 res7 (by simp) fun x hx => ?_
  simp only [go_sem, Nat.reduceLT, Nat.reduceAdd, Nat.reduceEqDiff, Nat.reduceLeDiff, Nat.reduceSub, Nat.reduceMul, Int.reduceEq, eq_self, reduceIte, L7, R7, cSv]
  refine ops_call (.pureE (skCheck_meets c ws ds (by omega) (by omega)) (by simp [go_sem, Nat.reduceLT, Nat.reduceAdd, Nat.reduceEqDiff, Nat.reduceLeDiff, Nat.reduceSub, Nat.reduceMul, Int.reduceEq, eq_self, reduceIte, cSv])) ?_
  simp only [go_sem, Nat.reduceLT, Nat.reduceAdd, Nat.reduceEqDiff, Nat.reduceLeDiff, Nat.reduceSub, Nat.reduceMul, Int.reduceEq, eq_self, reduceIte, cSv]
  refine ops_call (.heapE [] (r' := .ptr 2 0) (H' := [.box (cSv c ws ds), .box [.int .i64 0, .nilsl, .nilsl], .box [.int .i64 c, .arr 3 1, .arr 4 1], .arr 1 true false 48 3 (ws.map cW), .arr 1 true false 3 1 (ds.map cN)]) (skOwn_meets c ws ds hwl hdl) (by simp) (by simp) (by simp [go_sem, Nat.reduceLT, Nat.reduceAdd, Nat.reduceEqDiff, Nat.reduceLeDiff, Nat.reduceSub, Nat.reduceMul, Int.reduceEq, eq_self, reduceIte, cSv]) rfl rfl rfl) ?_
  by_cases h0 : svErr c ws ds = 0
  · obtain ⟨hc, hw8, hd30, -, hu, -⟩ := svErr_ok h0
    have e0 : commE c ws ds n t = commErr ws ds n t := by rw [commE, if_neg (by simp [h0])]
    have hp := skCommit_meets 1 1 c ws ds n t hu (by omega) hd30
    simp only [go_sem, Nat.reduceLT, Nat.reduceAdd, Nat.reduceEqDiff, Nat.reduceLeDiff, Nat.reduceSub, Nat.reduceMul, Int.reduceEq, eq_self, reduceIte, h0, cSv]
    by_cases h1 : commErr ws ds n t = 0
    · have h2 : commE0 ws n t = 0 := by
        rw [commErr] at h1
        split at h1
        · exact h1
        · rename_i h; simpa using h
      have er : commR c ws ds n t = (maxI c t, swept (setW ws n t) ds) := by rw [commR, if_pos (by rw [e0, h1])]
      rw [commH, if_neg (by simp [h2]), h1] at hp
      generalize ws.length - (swept (setW ws n t) ds).1.length = k at hp
      refine ops_call (.heapE [2, 3, 4] (r' := .int .i64 0) (H' := [.box (cSv c ws ds), .box [.int .i64 0, .nilsl, .nilsl], .box [.int .i64 (maxI c t), .arr 3 (1 + k), .arr 4 (1 + k)], .arr (1 + k) true false 48 3 ((swept (setW ws n t) ds).1.map cW), .arr (1 + k) true false 3 1 ((swept (setW ws n t) ds).2.map cN)]) hp (by simp) (by simp) (by simp [go_sem, Nat.reduceLT, Nat.reduceAdd, Nat.reduceEqDiff, Nat.reduceLeDiff, Nat.reduceSub, Nat.reduceMul, Int.reduceEq, eq_self, reduceIte, pos]) rfl rfl rfl) ?_
      simp only [go_sem, Nat.reduceLT, Nat.reduceAdd, Nat.reduceEqDiff, Nat.reduceLeDiff, Nat.reduceSub, Nat.reduceMul, Int.reduceEq, eq_self, reduceIte, cSv]
      repeat refine ⟨rfl, ?_⟩
      refine ret_weak (weak_shut 3 rfl) ?_
      refine ret_pure hx ?_
      simp [go_sem, Nat.reduceLT, Nat.reduceAdd, Nat.reduceEqDiff, Nat.reduceLeDiff, Nat.reduceSub, Nat.reduceMul, Int.reduceEq, eq_self, reduceIte, L7, R7, er, e0, h1, cSv3, cSv, frzAt, pos]
    · have er : commR c ws ds n t = (0, [], []) := by rw [commR, if_neg (by rw [e0]; exact h1)]
      have key : ∃ (a' b' : Nat) (c' : Int) (us : List Wt) (es : List Int), commH 1 1 c ws ds n t = hSv a' b' c' us es := by
        rw [commH]; split
        · exact ⟨_, _, _, _, _, rfl⟩
        · exact ⟨_, _, _, _, _, rfl⟩
      obtain ⟨a', b', c', us, es, hk⟩ := key
      rw [hk] at hp
      refine ops_call (.heapE [2, 3, 4] (r' := .int .i64 (commErr ws ds n t)) (H' := [.box (cSv c ws ds), .box [.int .i64 0, .nilsl, .nilsl], .box [.int .i64 c', .arr 3 a', .arr 4 b'], .arr a' true false 48 3 (us.map cW), .arr b' true false 3 1 (es.map cN)]) hp (by simp) (by simp) (by simp [go_sem, Nat.reduceLT, Nat.reduceAdd, Nat.reduceEqDiff, Nat.reduceLeDiff, Nat.reduceSub, Nat.reduceMul, Int.reduceEq, eq_self, reduceIte, pos]) rfl rfl rfl) ?_
      simp only [go_sem, Nat.reduceLT, Nat.reduceAdd, Nat.reduceEqDiff, Nat.reduceLeDiff, Nat.reduceSub, Nat.reduceMul, Int.reduceEq, eq_self, reduceIte, cSv, h1]
      refine ret_pure hx ?_
      simp [go_sem, Nat.reduceLT, Nat.reduceAdd, Nat.reduceEqDiff, Nat.reduceLeDiff, Nat.reduceSub, Nat.reduceMul, Int.reduceEq, eq_self, reduceIte, L7, R7, er, e0, cSv3, cSv, frzAt, pos]
  · have e0 : commE c ws ds n t = svErr c ws ds := by rw [commE, if_pos h0]
    have er : commR c ws ds n t = (0, [], []) := by rw [commR, if_neg (by rw [e0]; exact h0)]
    simp only [go_sem, Nat.reduceLT, Nat.reduceAdd, Nat.reduceEqDiff, Nat.reduceLeDiff, Nat.reduceSub, Nat.reduceMul, Int.reduceEq, eq_self, reduceIte, h0, cSv]
    refine ret_pure hx ?_
    simp [go_sem, Nat.reduceLT, Nat.reduceAdd, Nat.reduceEqDiff, Nat.reduceLeDiff, Nat.reduceSub, Nat.reduceMul, Int.reduceEq, eq_self, reduceIte, L7, R7, er, e0, cSv3, cSv, frzAt, pos]
end Go.Proofs.Ytocglfkflpkafaa
/- CommitOf, in the law text's words: a contract. -/
namespace Go.Proofs.Ytocglfkflpkafaa
set_option linter.unusedSimpArgs false
set_option linter.unusedVariables false
open Go.RowKit
theorem waitAt_pos {ws : List Wt} (hu : upW ws) {n : Int} (h : foundW ws n = true) : idxF (fun w : Wt => decide (w.n = n)) ws 0 = posW ws n := by
  obtain ⟨a, b⟩ := found_pos hu h
  refine idxF_at _ _ _ a (by simpa using b) fun j hj => ?_
  have := hu j _ hj a
  simp; omega
theorem waitAt_none {ws : List Wt} {n : Int} (h : foundW ws n = false) : idxF (fun w : Wt => decide (w.n = n)) ws 0 < 0 := by
  have := waitAt_found ws n
  rw [h] at this
  simp at this
  exact this
theorem inW_set {ws : List Wt} (hb : inW ws) {i : Nat} {w : Wt} (hw : 1 ≤ w.n ∧ w.n ≤ 20 ∧ 1 ≤ w.t ∧ w.t ≤ 999) : inW (ws.set i w) := by
  intro k hk
  rw [List.length_set] at hk
  rw [nth_eq _ _ (by simpa using hk), List.getElem_set]
  split
  · exact hw
  · rw [← nth_eq _ _ hk]; exact hb k hk
theorem inW_erase {ws : List Wt} (hb : inW ws) (i : Nat) : inW (ws.eraseIdx i) := by
  intro k hk
  have hl : (ws.eraseIdx i).length = if i < ws.length then ws.length - 1 else ws.length := List.length_eraseIdx
  rw [nth_eq _ _ hk, List.getElem_eraseIdx]
  split
  · rw [← nth_eq _ _ (by rw [hl] at hk; split at hk <;> omega)]; exact hb _ (by rw [hl] at hk; split at hk <;> omega)
  · rw [← nth_eq _ _ (by rw [hl] at hk; split at hk <;> omega)]; exact hb _ (by rw [hl] at hk; split at hk <;> omega)
/-- what CommitOf answers beside the errno -/
def commS (c : Int) (ws : List Wt) (ds : List Int) (n t : Int) : List PV := if commErr ws ds n t = 0 then cSv (maxI c t) (swept (setW ws n t) ds).1 (swept (setW ws n t) ds).2 else cSv 0 [] []
set_option maxHeartbeats 4000000 in
theorem commitOf_meets (c : Int) (ws : List Wt) (ds : List Int) (n t : Int) (hu : upW ws) (hb : inW ws) (hwl : ws.length ≤ 9) (hdl : ds.length ≤ 30) :
    Meets Try.prog 11 [.agg (cSv c ws ds), .int .i64 n, .int .i64 t] [] (.tup [.agg (commS c ws ds n t), .int .i64 (commErr ws ds n t)]) [] := by
  refine Meets.of_walk Try.func11 Try.ntmps11 low11 res11 (by simp) fun x hx => ?_
  have stop : ∀ e, commE0 ws n t = e → e ≠ 0 → commErr ws ds n t = e ∧ commS c ws ds n t = cSv 0 [] [] := fun e h2 h3 => by
    have : commErr ws ds n t = e := by rw [commErr, if_pos (by rw [h2]; exact h3), h2]
    exact ⟨this, by rw [commS, if_neg (by rw [this]; exact h3)]⟩
  simp only [go_sem, Nat.reduceLT, Nat.reduceAdd, Nat.reduceEqDiff, Nat.reduceLeDiff, Nat.reduceSub, Nat.reduceMul, Int.reduceEq, eq_self, reduceIte, L11, R11, cSv]
  refine ops_call (.pureE (between_meets n 1 20) (by simp [go_sem, Nat.reduceLT, Nat.reduceAdd, Nat.reduceEqDiff, Nat.reduceLeDiff, Nat.reduceSub, Nat.reduceMul, Int.reduceEq, eq_self, reduceIte])) ?_
  cases h1 : wthn n 1 20
  · obtain ⟨s1, s2⟩ := stop 3 (by rw [commE0, if_pos (by simp [h1])]) (by decide)
    simp only [go_sem, Nat.reduceLT, Nat.reduceAdd, Nat.reduceEqDiff, Nat.reduceLeDiff, Nat.reduceSub, Nat.reduceMul, Int.reduceEq, eq_self, reduceIte, cSv]
    refine ret_pure hx ?_
    simp [go_sem, Nat.reduceLT, Nat.reduceAdd, Nat.reduceEqDiff, Nat.reduceLeDiff, Nat.reduceSub, Nat.reduceMul, Int.reduceEq, eq_self, reduceIte, L11, R11, s1, s2, cSv]
  · simp only [go_sem, Nat.reduceLT, Nat.reduceAdd, Nat.reduceEqDiff, Nat.reduceLeDiff, Nat.reduceSub, Nat.reduceMul, Int.reduceEq, eq_self, reduceIte]
    refine ops_call (.pureE (between_meets t 1 999) (by simp [go_sem, Nat.reduceLT, Nat.reduceAdd, Nat.reduceEqDiff, Nat.reduceLeDiff, Nat.reduceSub, Nat.reduceMul, Int.reduceEq, eq_self, reduceIte])) ?_
    cases h2 : wthn t 1 999
    · obtain ⟨s1, s2⟩ := stop 3 (by rw [commE0, if_pos (by simp [h2])]) (by decide)
      simp only [go_sem, Nat.reduceLT, Nat.reduceAdd, Nat.reduceEqDiff, Nat.reduceLeDiff, Nat.reduceSub, Nat.reduceMul, Int.reduceEq, eq_self, reduceIte, cSv]
      refine ret_pure hx ?_
      simp [go_sem, Nat.reduceLT, Nat.reduceAdd, Nat.reduceEqDiff, Nat.reduceLeDiff, Nat.reduceSub, Nat.reduceMul, Int.reduceEq, eq_self, reduceIte, L11, R11, s1, s2, cSv]
    · simp only [go_sem, Nat.reduceLT, Nat.reduceAdd, Nat.reduceEqDiff, Nat.reduceLeDiff, Nat.reduceSub, Nat.reduceMul, Int.reduceEq, eq_self, reduceIte, cSv]
      refine ops_call (.pureE (waitAt_meets c ws ds n (by omega)) (by simp [go_sem, Nat.reduceLT, Nat.reduceAdd, Nat.reduceEqDiff, Nat.reduceLeDiff, Nat.reduceSub, Nat.reduceMul, Int.reduceEq, eq_self, reduceIte, cSv])) ?_
      cases h3 : foundW ws n
      · obtain ⟨s1, s2⟩ := stop 5 (by rw [commE0, if_neg (by simp [h1, h2]), if_pos h3]) (by decide)
        have hlt := waitAt_none h3
        simp only [go_sem, Nat.reduceLT, Nat.reduceAdd, Nat.reduceEqDiff, Nat.reduceLeDiff, Nat.reduceSub, Nat.reduceMul, Int.reduceEq, eq_self, reduceIte, cSv, hlt]
        refine ret_pure hx ?_
        simp [go_sem, Nat.reduceLT, Nat.reduceAdd, Nat.reduceEqDiff, Nat.reduceLeDiff, Nat.reduceSub, Nat.reduceMul, Int.reduceEq, eq_self, reduceIte, L11, R11, s1, s2, cSv]
      · rw [waitAt_pos hu h3]
        obtain ⟨g1, g2⟩ := found_pos hu h3
        have e0 : commE0 ws n t = if (nth ws (posW ws n)).f = true ∨ t < (nth ws (posW ws n)).t then 4 else 0 := by rw [commE0, if_neg (by simp [h1, h2]), if_neg (by simp [h3])]
        have hset : setW ws n t = ws.set (posW ws n) ⟨(nth ws (posW ws n)).n, t, true⟩ := rfl
        have hup : ∀ w : Wt, w.n = (nth ws (posW ws n)).n → upW (ws.set (posW ws n) w) := fun w hw => upW_set hu g1 hw
        generalize posW ws n = i at *
        have hg : ws[i]? = some (nth ws i) := nth_get? _ _ g1
        have hi0 : ¬ ((i : Int) < 0) := by omega
        cases h4 : (nth ws i).f
        · by_cases h5 : t < (nth ws i).t
          · obtain ⟨s1, s2⟩ := stop 4 (by rw [e0, if_pos (.inr h5)]) (by decide)
            simp only [go_sem, Nat.reduceLT, Nat.reduceAdd, Nat.reduceEqDiff, Nat.reduceLeDiff, Nat.reduceSub, Nat.reduceMul, Int.reduceEq, eq_self, reduceIte, hi0, g1, hg, cW, cSv, h4, h5]
            refine ret_pure hx ?_
            simp [go_sem, Nat.reduceLT, Nat.reduceAdd, Nat.reduceEqDiff, Nat.reduceLeDiff, Nat.reduceSub, Nat.reduceMul, Int.reduceEq, eq_self, reduceIte, L11, R11, s1, s2, cSv]
          · rw [wthn_iff] at h2
            have hu1 : upW (setW ws n t) := by rw [hset]; exact hup _ rfl
            have hb1 : inW (setW ws n t) := by
              have := hb i g1
              rw [hset]; exact inW_set hb (by simp only; omega)
            have hl1 : (setW ws n t).length = ws.length := by rw [hset, List.length_set]
            have hs1 : (List.map cW ws).set i [PV.int .i64 n, .int .i64 t, .bool true] = List.map cW (setW ws n t) := by rw [hset, List.map_set, ← g2]; rfl
            have er0 : commErr ws ds n t = if 30 < (swept (setW ws n t) ds).2.length then 2 else 0 := by rw [commErr, if_neg (by rw [e0, if_neg (by simp [h4, h5])]; simp)]
            by_cases h6 : c < t
            · have hmx : maxI c t = t := by rw [maxI, if_pos h6]
              simp only [go_sem, Nat.reduceLT, Nat.reduceAdd, Nat.reduceEqDiff, Nat.reduceLeDiff, Nat.reduceSub, Nat.reduceMul, Int.reduceEq, eq_self, reduceIte, hi0, g1, hg, cW, cSv, h4, h5, h6]
              rw [app_arr rfl rfl (cW_row _) (by simp; omega)]
              simp only [go_sem, Nat.reduceLT, Nat.reduceAdd, Nat.reduceEqDiff, Nat.reduceLeDiff, Nat.reduceSub, Nat.reduceMul, Int.reduceEq, eq_self, reduceIte]
              rw [app_arr rfl rfl (cN_row _) (by simp; omega)]
              simp only [go_sem, Nat.reduceLT, Nat.reduceAdd, Nat.reduceEqDiff, Nat.reduceLeDiff, Nat.reduceSub, Nat.reduceMul, Int.reduceEq, eq_self, reduceIte]
              repeat refine ⟨rfl, ?_⟩
              simp only [go_sem, Nat.reduceLT, Nat.reduceAdd, Nat.reduceEqDiff, Nat.reduceLeDiff, Nat.reduceSub, Nat.reduceMul, Int.reduceEq, eq_self, reduceIte, cSv, List.drop_zero, List.append_nil, g1, hg, cW, frz, false_or, or_true, List.drop_nil, hs1]
              refine ops_call (.scalarE (firstWait_meets (maxI c t) (setW ws n t) ds (by omega)) rfl (by simp [go_sem, Nat.reduceLT, Nat.reduceAdd, Nat.reduceEqDiff, Nat.reduceLeDiff, Nat.reduceSub, Nat.reduceMul, Int.reduceEq, eq_self, reduceIte, frzAt, pos, cSv, hmx])) ?_
              rw [firstR_eq hu1 hb1]
              simp only [go_sem, Nat.reduceLT, Nat.reduceAdd, Nat.reduceEqDiff, Nat.reduceLeDiff, Nat.reduceSub, Nat.reduceMul, Int.reduceEq, eq_self, reduceIte]
              refine loop_sel (fun m st => ∃ (v k : Nat) (us : List Wt) (es : List Int), us.length = m ∧ m + k = ws.length ∧ upW us ∧ inW us ∧ es.length = ds.length + k ∧ swept us es = swept (setW ws n t) ds ∧
                st = ⟨mkE .top [(6, .ptr 0 0), (9, .ptr 1 0), (10, .int .i64 (firstW us))], [.box [.int .i64 0, .nilsl, .nilsl], .box [.int .i64 (maxI c t), .arr 2 v, .arr 3 (2 + k)], .arr v false false 48 3 (us.map cW), .arr (2 + k) true false 3 1 (es.map cN)]⟩) ws.length ?_ ?_
              · refine ⟨_, Weak.trans (weak_sel [6, 9, 10] [1, 2, 3, 4] (by simp) (by simp) (by simp [hx])) (weak_shut 2 (v := 2) (T := 48) (sz := 3) (sto := true) (rows := (setW ws n t).map cW) (by simp [sel_mk, go_sem, Nat.reduceLT, Nat.reduceAdd, Nat.reduceEqDiff, Nat.reduceLeDiff, Nat.reduceSub, Nat.reduceMul, Int.reduceEq, eq_self, reduceIte, subHeap, renObj, pos])), 2, 0, setW ws n t, ds, hl1, by omega, hu1, hb1, by omega, rfl, ?_⟩
                simp [sel_mk, go_sem, Nat.reduceLT, Nat.reduceAdd, Nat.reduceEqDiff, Nat.reduceLeDiff, Nat.reduceSub, Nat.reduceMul, Int.reduceEq, eq_self, reduceIte, subHeap, renObj, renCell, renLeaf, pos, hmx]
              · rintro m st ⟨v, k, us, es, hm, hmk, hus, hbs, hes, hsw, rfl⟩
                by_cases hf : 0 ≤ firstW us
                · have hfl := first_lt hf
                  obtain ⟨q, hq⟩ : ∃ q : Nat, firstW us = q := ⟨(firstW us).toNat, by omega⟩
                  rw [hq, Int.toNat_natCast] at hfl
                  have hgq : us[q]? = some (nth us q) := nth_get? _ _ hfl
                  cases hfin : (nth us q).f
                  · have hr : readyW us = false := by simp [readyW, hq, hfin]
                    simp only [go_sem, Nat.reduceLT, Nat.reduceAdd, Nat.reduceEqDiff, Nat.reduceLeDiff, Nat.reduceSub, Nat.reduceMul, Int.reduceEq, eq_self, reduceIte, cSv, hq, hfl, hgq, cW, hfin]
                    rw [swept_end hr] at hsw
                    have er : commErr ws ds n t = if 30 < es.length then 2 else 0 := by rw [er0, ← hsw]
                    by_cases h30 : (30 : Int) < (es.length : Int)
                    · have h30' : 30 < es.length := by omega
                      rw [if_pos h30'] at er
                      simp only [go_sem, Nat.reduceLT, Nat.reduceAdd, Nat.reduceEqDiff, Nat.reduceLeDiff, Nat.reduceSub, Nat.reduceMul, Int.reduceEq, eq_self, reduceIte, h30, cSv]
                      refine ret_pure hx ?_
                      simp [go_sem, Nat.reduceLT, Nat.reduceAdd, Nat.reduceEqDiff, Nat.reduceLeDiff, Nat.reduceSub, Nat.reduceMul, Int.reduceEq, eq_self, reduceIte, L11, R11, commS, er, cSv]
                    · have h30' : ¬ 30 < es.length := by omega
                      rw [if_neg h30'] at er
                      simp only [go_sem, Nat.reduceLT, Nat.reduceAdd, Nat.reduceEqDiff, Nat.reduceLeDiff, Nat.reduceSub, Nat.reduceMul, Int.reduceEq, eq_self, reduceIte, h30, cSv]
                      refine ret_pure hx ?_
                      simp [go_sem, Nat.reduceLT, Nat.reduceAdd, Nat.reduceEqDiff, Nat.reduceLeDiff, Nat.reduceSub, Nat.reduceMul, Int.reduceEq, eq_self, reduceIte, L11, R11, commS, er, cSv, frzAt, pos, ← hsw]
                  · have hr : readyW us = true := by simp [readyW, hq, hfin]
                    rw [swept_step hr, hq, Int.toNat_natCast] at hsw
                    simp only [go_sem, Nat.reduceLT, Nat.reduceAdd, Nat.reduceEqDiff, Nat.reduceLeDiff, Nat.reduceSub, Nat.reduceMul, Int.reduceEq, eq_self, reduceIte, cSv, hq, hfl, hgq, cW, hfin]
                    rw [app_arr rfl rfl (by simp) (by simp; omega)]
                    simp only [go_sem, Nat.reduceLT, Nat.reduceAdd, Nat.reduceEqDiff, Nat.reduceLeDiff, Nat.reduceSub, Nat.reduceMul, Int.reduceEq, eq_self, reduceIte]
                    repeat refine ⟨rfl, ?_⟩
                    have wq := i64_up (k := q) (by omega)
                    have hrow : (∀ row ∈ List.map cW us, row.length = 3) = True := eq_true (cW_row _)
                    have hq1 : q ≤ us.length := by omega
                    have hq2 : q + 1 ≤ us.length := by omega
                    simp only [go_sem, Nat.reduceLT, Nat.reduceAdd, Nat.reduceEqDiff, Nat.reduceLeDiff, Nat.reduceSub, Nat.reduceMul, Int.reduceEq, eq_self, reduceIte, wq, hrow, hq1, hq2, Int.le_refl, Int.sub_zero, Int.toNat_zero]
                    rw [app_arr rfl rfl (fun row h => cW_row us row (List.mem_of_mem_take h)) (by simp; omega)]
                    simp only [go_sem, Nat.reduceLT, Nat.reduceAdd, Nat.reduceEqDiff, Nat.reduceLeDiff, Nat.reduceSub, Nat.reduceMul, Int.reduceEq, eq_self, reduceIte, wq, hrow, hq1, hq2, Int.le_refl, Int.sub_zero, Int.toNat_zero]
                    have htd : List.take ((us.length : Int) - ((q + 1 : Nat) : Int)).toNat (List.drop (q + 1) (List.map cW us)) = List.drop (q + 1) (List.map cW us) := List.take_of_length_le (by simp; omega)
                    have hce : List.map cN es ++ [[PV.int .i64 (nth us q).n]] = (es ++ [(nth us q).n]).map cN := by simp [cN]
                    have her : List.take q (List.map cW us) ++ List.drop (q + 1) (List.map cW us) = (us.eraseIdx q).map cW := by rw [← eraseIdx_mapF, List.eraseIdx_eq_take_drop_succ]
                    have hle : (us.eraseIdx q).length = us.length - 1 := by rw [List.length_eraseIdx, if_pos hfl]
                    rw [htd, hce, app_arr rfl rfl (fun row h => cW_row us row (List.mem_of_mem_drop h)) (by simp; omega)]
                    simp only [go_sem, Nat.reduceLT, Nat.reduceAdd, Nat.reduceEqDiff, Nat.reduceLeDiff, Nat.reduceSub, Nat.reduceMul, Int.reduceEq, eq_self, reduceIte, her]
                    repeat refine ⟨rfl, ?_⟩
                    refine ops_call (.scalarE (firstWait_meets (maxI c t) (us.eraseIdx q) (es ++ [(nth us q).n]) (by omega)) rfl (by simp [go_sem, Nat.reduceLT, Nat.reduceAdd, Nat.reduceEqDiff, Nat.reduceLeDiff, Nat.reduceSub, Nat.reduceMul, Int.reduceEq, eq_self, reduceIte, frzAt, pos, cSv])) ?_
                    rw [firstR_eq (upW_erase hus q) (inW_erase hbs q)]
                    simp only [go_sem, Nat.reduceLT, Nat.reduceAdd, Nat.reduceEqDiff, Nat.reduceLeDiff, Nat.reduceSub, Nat.reduceMul, Int.reduceEq, eq_self, reduceIte]
                    refine ⟨m - 1, _, by omega, Weak.trans (weak_sel [6, 9, 10] [0, 1, 4, 3] (by simp) (by simp) (by simp [hx])) (weak_shut 2 (v := 2) (T := 48) (sz := 3) (sto := true) (rows := (us.eraseIdx q).map cW) (by simp [sel_mk, go_sem, Nat.reduceLT, Nat.reduceAdd, Nat.reduceEqDiff, Nat.reduceLeDiff, Nat.reduceSub, Nat.reduceMul, Int.reduceEq, eq_self, reduceIte, subHeap, renObj, pos])), 2, k + 1, us.eraseIdx q, es ++ [(nth us q).n], by omega, by omega, upW_erase hus q, inW_erase hbs q, by simp; omega, hsw, ?_⟩
                    simp [sel_mk, go_sem, Nat.reduceLT, Nat.reduceAdd, Nat.reduceEqDiff, Nat.reduceLeDiff, Nat.reduceSub, Nat.reduceMul, Int.reduceEq, eq_self, reduceIte, subHeap, renObj, renCell, renLeaf, pos, Nat.add_assoc]
                · have hr : readyW us = false := by simp [readyW, hf]
                  simp only [go_sem, Nat.reduceLT, Nat.reduceAdd, Nat.reduceEqDiff, Nat.reduceLeDiff, Nat.reduceSub, Nat.reduceMul, Int.reduceEq, eq_self, reduceIte, cSv, hf]
                  rw [swept_end hr] at hsw
                  have er : commErr ws ds n t = if 30 < es.length then 2 else 0 := by rw [er0, ← hsw]
                  by_cases h30 : (30 : Int) < (es.length : Int)
                  · have h30' : 30 < es.length := by omega
                    rw [if_pos h30'] at er
                    simp only [go_sem, Nat.reduceLT, Nat.reduceAdd, Nat.reduceEqDiff, Nat.reduceLeDiff, Nat.reduceSub, Nat.reduceMul, Int.reduceEq, eq_self, reduceIte, h30, cSv]
                    refine ret_pure hx ?_
                    simp [go_sem, Nat.reduceLT, Nat.reduceAdd, Nat.reduceEqDiff, Nat.reduceLeDiff, Nat.reduceSub, Nat.reduceMul, Int.reduceEq, eq_self, reduceIte, L11, R11, commS, er, cSv]
                  · have h30' : ¬ 30 < es.length := by omega
                    rw [if_neg h30'] at er
                    simp only [go_sem, Nat.reduceLT, Nat.reduceAdd, Nat.reduceEqDiff, Nat.reduceLeDiff, Nat.reduceSub, Nat.reduceMul, Int.reduceEq, eq_self, reduceIte, h30, cSv]
                    refine ret_pure hx ?_
                    simp [go_sem, Nat.reduceLT, Nat.reduceAdd, Nat.reduceEqDiff, Nat.reduceLeDiff, Nat.reduceSub, Nat.reduceMul, Int.reduceEq, eq_self, reduceIte, L11, R11, commS, er, cSv, frzAt, pos, ← hsw]
            · have hmx : maxI c t = c := by rw [maxI, if_neg h6]
              simp only [go_sem, Nat.reduceLT, Nat.reduceAdd, Nat.reduceEqDiff, Nat.reduceLeDiff, Nat.reduceSub, Nat.reduceMul, Int.reduceEq, eq_self, reduceIte, hi0, g1, hg, cW, cSv, h4, h5, h6]
              rw [app_arr rfl rfl (cW_row _) (by simp; omega)]
              simp only [go_sem, Nat.reduceLT, Nat.reduceAdd, Nat.reduceEqDiff, Nat.reduceLeDiff, Nat.reduceSub, Nat.reduceMul, Int.reduceEq, eq_self, reduceIte]
              rw [app_arr rfl rfl (cN_row _) (by simp; omega)]
              simp only [go_sem, Nat.reduceLT, Nat.reduceAdd, Nat.reduceEqDiff, Nat.reduceLeDiff, Nat.reduceSub, Nat.reduceMul, Int.reduceEq, eq_self, reduceIte]
              repeat refine ⟨rfl, ?_⟩
              simp only [go_sem, Nat.reduceLT, Nat.reduceAdd, Nat.reduceEqDiff, Nat.reduceLeDiff, Nat.reduceSub, Nat.reduceMul, Int.reduceEq, eq_self, reduceIte, cSv, List.drop_zero, List.append_nil, g1, hg, cW, frz, false_or, or_true, List.drop_nil, hs1]
              refine ops_call (.scalarE (firstWait_meets (maxI c t) (setW ws n t) ds (by omega)) rfl (by simp [go_sem, Nat.reduceLT, Nat.reduceAdd, Nat.reduceEqDiff, Nat.reduceLeDiff, Nat.reduceSub, Nat.reduceMul, Int.reduceEq, eq_self, reduceIte, frzAt, pos, cSv, hmx])) ?_
              rw [firstR_eq hu1 hb1]
              simp only [go_sem, Nat.reduceLT, Nat.reduceAdd, Nat.reduceEqDiff, Nat.reduceLeDiff, Nat.reduceSub, Nat.reduceMul, Int.reduceEq, eq_self, reduceIte]
              refine loop_sel (fun m st => ∃ (v k : Nat) (us : List Wt) (es : List Int), us.length = m ∧ m + k = ws.length ∧ upW us ∧ inW us ∧ es.length = ds.length + k ∧ swept us es = swept (setW ws n t) ds ∧
                st = ⟨mkE .top [(6, .ptr 0 0), (9, .ptr 1 0), (10, .int .i64 (firstW us))], [.box [.int .i64 0, .nilsl, .nilsl], .box [.int .i64 (maxI c t), .arr 2 v, .arr 3 (2 + k)], .arr v false false 48 3 (us.map cW), .arr (2 + k) true false 3 1 (es.map cN)]⟩) ws.length ?_ ?_
              · refine ⟨_, Weak.trans (weak_sel [6, 9, 10] [1, 2, 3, 4] (by simp) (by simp) (by simp [hx])) (weak_shut 2 (v := 2) (T := 48) (sz := 3) (sto := true) (rows := (setW ws n t).map cW) (by simp [sel_mk, go_sem, Nat.reduceLT, Nat.reduceAdd, Nat.reduceEqDiff, Nat.reduceLeDiff, Nat.reduceSub, Nat.reduceMul, Int.reduceEq, eq_self, reduceIte, subHeap, renObj, pos])), 2, 0, setW ws n t, ds, hl1, by omega, hu1, hb1, by omega, rfl, ?_⟩
                simp [sel_mk, go_sem, Nat.reduceLT, Nat.reduceAdd, Nat.reduceEqDiff, Nat.reduceLeDiff, Nat.reduceSub, Nat.reduceMul, Int.reduceEq, eq_self, reduceIte, subHeap, renObj, renCell, renLeaf, pos, hmx]
              · rintro m st ⟨v, k, us, es, hm, hmk, hus, hbs, hes, hsw, rfl⟩
                by_cases hf : 0 ≤ firstW us
                · have hfl := first_lt hf
                  obtain ⟨q, hq⟩ : ∃ q : Nat, firstW us = q := ⟨(firstW us).toNat, by omega⟩
                  rw [hq, Int.toNat_natCast] at hfl
                  have hgq : us[q]? = some (nth us q) := nth_get? _ _ hfl
                  cases hfin : (nth us q).f
                  · have hr : readyW us = false := by simp [readyW, hq, hfin]
                    simp only [go_sem, Nat.reduceLT, Nat.reduceAdd, Nat.reduceEqDiff, Nat.reduceLeDiff, Nat.reduceSub, Nat.reduceMul, Int.reduceEq, eq_self, reduceIte, cSv, hq, hfl, hgq, cW, hfin]
                    rw [swept_end hr] at hsw
                    have er : commErr ws ds n t = if 30 < es.length then 2 else 0 := by rw [er0, ← hsw]
                    by_cases h30 : (30 : Int) < (es.length : Int)
                    · have h30' : 30 < es.length := by omega
                      rw [if_pos h30'] at er
                      simp only [go_sem, Nat.reduceLT, Nat.reduceAdd, Nat.reduceEqDiff, Nat.reduceLeDiff, Nat.reduceSub, Nat.reduceMul, Int.reduceEq, eq_self, reduceIte, h30, cSv]
                      refine ret_pure hx ?_
                      simp [go_sem, Nat.reduceLT, Nat.reduceAdd, Nat.reduceEqDiff, Nat.reduceLeDiff, Nat.reduceSub, Nat.reduceMul, Int.reduceEq, eq_self, reduceIte, L11, R11, commS, er, cSv]
                    · have h30' : ¬ 30 < es.length := by omega
                      rw [if_neg h30'] at er
                      simp only [go_sem, Nat.reduceLT, Nat.reduceAdd, Nat.reduceEqDiff, Nat.reduceLeDiff, Nat.reduceSub, Nat.reduceMul, Int.reduceEq, eq_self, reduceIte, h30, cSv]
                      refine ret_pure hx ?_
                      simp [go_sem, Nat.reduceLT, Nat.reduceAdd, Nat.reduceEqDiff, Nat.reduceLeDiff, Nat.reduceSub, Nat.reduceMul, Int.reduceEq, eq_self, reduceIte, L11, R11, commS, er, cSv, frzAt, pos, ← hsw]
                  · have hr : readyW us = true := by simp [readyW, hq, hfin]
                    rw [swept_step hr, hq, Int.toNat_natCast] at hsw
                    simp only [go_sem, Nat.reduceLT, Nat.reduceAdd, Nat.reduceEqDiff, Nat.reduceLeDiff, Nat.reduceSub, Nat.reduceMul, Int.reduceEq, eq_self, reduceIte, cSv, hq, hfl, hgq, cW, hfin]
                    rw [app_arr rfl rfl (by simp) (by simp; omega)]
                    simp only [go_sem, Nat.reduceLT, Nat.reduceAdd, Nat.reduceEqDiff, Nat.reduceLeDiff, Nat.reduceSub, Nat.reduceMul, Int.reduceEq, eq_self, reduceIte]
                    repeat refine ⟨rfl, ?_⟩
                    have wq := i64_up (k := q) (by omega)
                    have hrow : (∀ row ∈ List.map cW us, row.length = 3) = True := eq_true (cW_row _)
                    have hq1 : q ≤ us.length := by omega
                    have hq2 : q + 1 ≤ us.length := by omega
                    simp only [go_sem, Nat.reduceLT, Nat.reduceAdd, Nat.reduceEqDiff, Nat.reduceLeDiff, Nat.reduceSub, Nat.reduceMul, Int.reduceEq, eq_self, reduceIte, wq, hrow, hq1, hq2, Int.le_refl, Int.sub_zero, Int.toNat_zero]
                    rw [app_arr rfl rfl (fun row h => cW_row us row (List.mem_of_mem_take h)) (by simp; omega)]
                    simp only [go_sem, Nat.reduceLT, Nat.reduceAdd, Nat.reduceEqDiff, Nat.reduceLeDiff, Nat.reduceSub, Nat.reduceMul, Int.reduceEq, eq_self, reduceIte, wq, hrow, hq1, hq2, Int.le_refl, Int.sub_zero, Int.toNat_zero]
                    have htd : List.take ((us.length : Int) - ((q + 1 : Nat) : Int)).toNat (List.drop (q + 1) (List.map cW us)) = List.drop (q + 1) (List.map cW us) := List.take_of_length_le (by simp; omega)
                    have hce : List.map cN es ++ [[PV.int .i64 (nth us q).n]] = (es ++ [(nth us q).n]).map cN := by simp [cN]
                    have her : List.take q (List.map cW us) ++ List.drop (q + 1) (List.map cW us) = (us.eraseIdx q).map cW := by rw [← eraseIdx_mapF, List.eraseIdx_eq_take_drop_succ]
                    have hle : (us.eraseIdx q).length = us.length - 1 := by rw [List.length_eraseIdx, if_pos hfl]
                    rw [htd, hce, app_arr rfl rfl (fun row h => cW_row us row (List.mem_of_mem_drop h)) (by simp; omega)]
                    simp only [go_sem, Nat.reduceLT, Nat.reduceAdd, Nat.reduceEqDiff, Nat.reduceLeDiff, Nat.reduceSub, Nat.reduceMul, Int.reduceEq, eq_self, reduceIte, her]
                    repeat refine ⟨rfl, ?_⟩
                    refine ops_call (.scalarE (firstWait_meets (maxI c t) (us.eraseIdx q) (es ++ [(nth us q).n]) (by omega)) rfl (by simp [go_sem, Nat.reduceLT, Nat.reduceAdd, Nat.reduceEqDiff, Nat.reduceLeDiff, Nat.reduceSub, Nat.reduceMul, Int.reduceEq, eq_self, reduceIte, frzAt, pos, cSv])) ?_
                    rw [firstR_eq (upW_erase hus q) (inW_erase hbs q)]
                    simp only [go_sem, Nat.reduceLT, Nat.reduceAdd, Nat.reduceEqDiff, Nat.reduceLeDiff, Nat.reduceSub, Nat.reduceMul, Int.reduceEq, eq_self, reduceIte]
                    refine ⟨m - 1, _, by omega, Weak.trans (weak_sel [6, 9, 10] [0, 1, 4, 3] (by simp) (by simp) (by simp [hx])) (weak_shut 2 (v := 2) (T := 48) (sz := 3) (sto := true) (rows := (us.eraseIdx q).map cW) (by simp [sel_mk, go_sem, Nat.reduceLT, Nat.reduceAdd, Nat.reduceEqDiff, Nat.reduceLeDiff, Nat.reduceSub, Nat.reduceMul, Int.reduceEq, eq_self, reduceIte, subHeap, renObj, pos])), 2, k + 1, us.eraseIdx q, es ++ [(nth us q).n], by omega, by omega, upW_erase hus q, inW_erase hbs q, by simp; omega, hsw, ?_⟩
                    simp [sel_mk, go_sem, Nat.reduceLT, Nat.reduceAdd, Nat.reduceEqDiff, Nat.reduceLeDiff, Nat.reduceSub, Nat.reduceMul, Int.reduceEq, eq_self, reduceIte, subHeap, renObj, renCell, renLeaf, pos, Nat.add_assoc]
                · have hr : readyW us = false := by simp [readyW, hf]
                  simp only [go_sem, Nat.reduceLT, Nat.reduceAdd, Nat.reduceEqDiff, Nat.reduceLeDiff, Nat.reduceSub, Nat.reduceMul, Int.reduceEq, eq_self, reduceIte, cSv, hf]
                  rw [swept_end hr] at hsw
                  have er : commErr ws ds n t = if 30 < es.length then 2 else 0 := by rw [er0, ← hsw]
                  by_cases h30 : (30 : Int) < (es.length : Int)
                  · have h30' : 30 < es.length := by omega
                    rw [if_pos h30'] at er
                    simp only [go_sem, Nat.reduceLT, Nat.reduceAdd, Nat.reduceEqDiff, Nat.reduceLeDiff, Nat.reduceSub, Nat.reduceMul, Int.reduceEq, eq_self, reduceIte, h30, cSv]
                    refine ret_pure hx ?_
                    simp [go_sem, Nat.reduceLT, Nat.reduceAdd, Nat.reduceEqDiff, Nat.reduceLeDiff, Nat.reduceSub, Nat.reduceMul, Int.reduceEq, eq_self, reduceIte, L11, R11, commS, er, cSv]
                  · have h30' : ¬ 30 < es.length := by omega
                    rw [if_neg h30'] at er
                    simp only [go_sem, Nat.reduceLT, Nat.reduceAdd, Nat.reduceEqDiff, Nat.reduceLeDiff, Nat.reduceSub, Nat.reduceMul, Int.reduceEq, eq_self, reduceIte, h30, cSv]
                    refine ret_pure hx ?_
                    simp [go_sem, Nat.reduceLT, Nat.reduceAdd, Nat.reduceEqDiff, Nat.reduceLeDiff, Nat.reduceSub, Nat.reduceMul, Int.reduceEq, eq_self, reduceIte, L11, R11, commS, er, cSv, frzAt, pos, ← hsw]
        · obtain ⟨s1, s2⟩ := stop 4 (by rw [e0, if_pos (.inl h4)]) (by decide)
          simp only [go_sem, Nat.reduceLT, Nat.reduceAdd, Nat.reduceEqDiff, Nat.reduceLeDiff, Nat.reduceSub, Nat.reduceMul, Int.reduceEq, eq_self, reduceIte, hi0, g1, hg, cW, cSv, h4]
          refine ret_pure hx ?_
          simp [go_sem, Nat.reduceLT, Nat.reduceAdd, Nat.reduceEqDiff, Nat.reduceLeDiff, Nat.reduceSub, Nat.reduceMul, Int.reduceEq, eq_self, reduceIte, L11, R11, s1, s2, cSv]
end Go.Proofs.Ytocglfkflpkafaa
/- Servers: what All does to each keeper: contracts. -/
namespace Go.Proofs.Ytocglfkflpkafaa
set_option linter.unusedSimpArgs false
set_option linter.unusedVariables false
open Go.RowKit
structure KS where
  a : Nat
  b : Nat
  c : Int
  ws : List Wt
  ds : List Int
def hK (s : KS) : List AObj := hSv s.a s.b s.c s.ws s.ds
def propK (s : KS) (n : Int) : KS := if propErr s.c s.ws s.ds n = 0 then ⟨s.a + 1, s.b, s.c + 1, s.ws.insertIdx (posW s.ws n) ⟨n, s.c + 1, false⟩, s.ds⟩ else s
def commK (s : KS) (n t : Int) : KS :=
  if commE0 s.ws n t ≠ 0 then s else ⟨s.a + (s.ws.length - (swept (setW s.ws n t) s.ds).1.length), s.b + (s.ws.length - (swept (setW s.ws n t) s.ds).1.length), maxI s.c t, (swept (setW s.ws n t) s.ds).1, (swept (setW s.ws n t) s.ds).2⟩
theorem commH_K (s : KS) (n t : Int) : commH s.a s.b s.c s.ws s.ds n t = hK (commK s n t) := by
  unfold commH commK hK; split <;> rfl
theorem skAll1_meets (s : KS) (n t : Int) (hu : upW s.ws) (hc : wthn s.c 0 999 = true) (hwl : s.ws.length ≤ 8) (hdl : s.ds.length ≤ 30) :
    Meets Try.prog 25 [.ptr 0 0, .ptr 3 0, .ptr 4 0] (hK s ++ [.box [.int .i64 n], .box [.int .i64 t]]) (.int .i64 (propErr s.c s.ws s.ds n)) (hK (propK s n) ++ [.box [.int .i64 n], .box [.int .i64 (maxI t (propK s n).c)]]) := by
  refine Meets.of_walk Try.func25 Try.ntmps25 low25 res25 (by simp) fun x hx => ?_
  have hp : Meets Try.prog 21 [.ptr 0 0, .int .i64 n] (hK s) (.int .i64 (propErr s.c s.ws s.ds n)) (hK (propK s n)) := by
    have := skPropose_meets s.a s.b s.c s.ws s.ds n hu hc hwl hdl
    unfold propK hK
    split
    · rename_i h; rw [if_pos h] at this; exact this
    · rename_i h; rw [if_neg h] at this; exact this
  generalize propK s n = s' at hp ⊢
  simp only [go_sem, Nat.reduceLT, Nat.reduceAdd, Nat.reduceEqDiff, Nat.reduceLeDiff, Nat.reduceSub, Nat.reduceMul, Int.reduceEq, eq_self, reduceIte, L25, R25, hK, hSv]
  refine ops_call (.heapE [0, 1, 2] (r' := .int .i64 (propErr s.c s.ws s.ds n)) (H' := hK s' ++ [.box [.int .i64 n], .box [.int .i64 t]]) hp (by simp) (by simp) (by simp [go_sem, Nat.reduceLT, Nat.reduceAdd, Nat.reduceEqDiff, Nat.reduceLeDiff, Nat.reduceSub, Nat.reduceMul, Int.reduceEq, eq_self, reduceIte, pos]) rfl rfl rfl) ?_
  by_cases h : t < s'.c
  · simp only [go_sem, Nat.reduceLT, Nat.reduceAdd, Nat.reduceEqDiff, Nat.reduceLeDiff, Nat.reduceSub, Nat.reduceMul, Int.reduceEq, eq_self, reduceIte, hK, hSv, h]
    repeat refine ⟨rfl, ?_⟩
    refine ret_keep [] (by simp) (by simp) (by simp [hx, hK, hSv]) ?_ ?_
    · simp [go_sem, Nat.reduceLT, Nat.reduceAdd, Nat.reduceEqDiff, Nat.reduceLeDiff, Nat.reduceSub, Nat.reduceMul, Int.reduceEq, eq_self, reduceIte, L25, R25, hx, pos]
    · simp [subHeap, renObj, hx, pos, go_sem, Nat.reduceLT, Nat.reduceAdd, Nat.reduceEqDiff, Nat.reduceLeDiff, Nat.reduceSub, Nat.reduceMul, Int.reduceEq, eq_self, reduceIte, hK, hSv, List.range_succ, maxI, h]
  · simp only [go_sem, Nat.reduceLT, Nat.reduceAdd, Nat.reduceEqDiff, Nat.reduceLeDiff, Nat.reduceSub, Nat.reduceMul, Int.reduceEq, eq_self, reduceIte, hK, hSv, h]
    repeat refine ⟨rfl, ?_⟩
    refine ret_keep [] (by simp) (by simp) (by simp [hx, hK, hSv]) ?_ ?_
    · simp [go_sem, Nat.reduceLT, Nat.reduceAdd, Nat.reduceEqDiff, Nat.reduceLeDiff, Nat.reduceSub, Nat.reduceMul, Int.reduceEq, eq_self, reduceIte, L25, R25, hx, pos]
    · simp [subHeap, renObj, hx, pos, go_sem, Nat.reduceLT, Nat.reduceAdd, Nat.reduceEqDiff, Nat.reduceLeDiff, Nat.reduceSub, Nat.reduceMul, Int.reduceEq, eq_self, reduceIte, hK, hSv, List.range_succ, maxI, h]
theorem skAll2_meets (s : KS) (n t : Int) (hu : upW s.ws) (hwl : s.ws.length ≤ 9) (hdl : s.ds.length ≤ 30) :
    Meets Try.prog 26 [.ptr 0 0, .ptr 3 0, .ptr 4 0] (hK s ++ [.box [.int .i64 n], .box [.int .i64 t]]) (.int .i64 (commErr s.ws s.ds n t)) (hK (commK s n t) ++ [.box [.int .i64 n], .box [.int .i64 t]]) := by
  refine Meets.of_walk Try.func26 Try.ntmps26 low26 res26 (by simp) fun x hx => ?_
  have hp : Meets Try.prog 22 [.ptr 0 0, .int .i64 n, .int .i64 t] (hK s) (.int .i64 (commErr s.ws s.ds n t)) (hK (commK s n t)) := by
    rw [← commH_K]; exact skCommit_meets s.a s.b s.c s.ws s.ds n t hu hwl hdl
  generalize commK s n t = s' at hp ⊢
  simp only [go_sem, Nat.reduceLT, Nat.reduceAdd, Nat.reduceEqDiff, Nat.reduceLeDiff, Nat.reduceSub, Nat.reduceMul, Int.reduceEq, eq_self, reduceIte, L26, R26, hK, hSv]
  refine ops_call (.heapE [0, 1, 2] (r' := .int .i64 (commErr s.ws s.ds n t)) (H' := hK s' ++ [.box [.int .i64 n], .box [.int .i64 t]]) hp (by simp) (by simp) (by simp [go_sem, Nat.reduceLT, Nat.reduceAdd, Nat.reduceEqDiff, Nat.reduceLeDiff, Nat.reduceSub, Nat.reduceMul, Int.reduceEq, eq_self, reduceIte, pos]) rfl rfl rfl) ?_
  simp only [go_sem, Nat.reduceLT, Nat.reduceAdd, Nat.reduceEqDiff, Nat.reduceLeDiff, Nat.reduceSub, Nat.reduceMul, Int.reduceEq, eq_self, reduceIte, hK, hSv]
  refine ret_keep [] (by simp) (by simp) (by simp [hx, hK, hSv]) ?_ ?_
  · simp [go_sem, Nat.reduceLT, Nat.reduceAdd, Nat.reduceEqDiff, Nat.reduceLeDiff, Nat.reduceSub, Nat.reduceMul, Int.reduceEq, eq_self, reduceIte, L26, R26, hx, pos]
  · simp [subHeap, renObj, hx, pos, go_sem, Nat.reduceLT, Nat.reduceAdd, Nat.reduceEqDiff, Nat.reduceLeDiff, Nat.reduceSub, Nat.reduceMul, Int.reduceEq, eq_self, reduceIte, hK, hSv, List.range_succ]
end Go.Proofs.Ytocglfkflpkafaa
/- Servers: all keepers of some colors: a contract. -/
namespace Go.Proofs.Ytocglfkflpkafaa
set_option linter.unusedSimpArgs false
set_option linter.unusedVariables false
open Go.RowKit
def hKat (i : Nat) (s : KS) : List AObj := [.box [.int .i64 s.c, .arr (i + 1) s.a, .arr (i + 2) s.b], .arr s.a true false 48 3 (s.ws.map cW), .arr s.b true false 3 1 (s.ds.map cN)]
def upd {α : Type} (T : Nat → α) (k : Nat) (s : α) : Nat → α := fun i => if i = k then s else T i
theorem wr1 : IntKind.i64.wrap 1 = 1 := by decide +kernel
theorem wr2 : IntKind.i64.wrap 2 = 2 := by decide +kernel
theorem wr3 : IntKind.i64.wrap 3 = 3 := by decide +kernel
theorem condW_of {b b' : Bool} {A B : Bx} (h : b = b') (hk : @condW (.bool b') A B) : @condW (.bool b) A B := h ▸ hk
/-- three keepers -/
def hA (v : Nat) (n t : Int) (T : Nat → KS) : List AObj := [.box [.int .i64 n], .box [.int .i64 t], .arr v true true 50 1 [[.ptr 3 0], [.ptr 6 0], [.ptr 9 0]]] ++ (hKat 3 (T 0) ++ (hKat 6 (T 1) ++ hKat 9 (T 2)))
section
variable (E : KS → Int → Int) (N : KS → Int → KS) (U : KS → Int → Int) (bit : Nat → Bool)
/-- what is done to the last m of three -/
def runK : Nat → (Nat → KS) → Int → Int × (Nat → KS) × Int
  | 0, T, t => (0, T, t)
  | m + 1, T, t => if bit (2 - m) = false then runK m T t else if E (T (2 - m)) t ≠ 0 then (E (T (2 - m)) t, upd T (2 - m) (N (T (2 - m)) t), U (T (2 - m)) t) else runK m (upd T (2 - m) (N (T (2 - m)) t)) (U (T (2 - m)) t)
end
theorem bit_shr {c : Int} (h : wthn c 1 7 = true) : ∀ k : Nat, k < 3 → (decide (IntKind.i64.wrap (((BitVec.ofInt 64 (c.fdiv (2 ^ min (k : Int).toNat 64))) &&& (BitVec.ofInt 64 1)).toNat : Int) = 0)) = !bitB c k := by
  rw [wthn_iff] at h
  intro k hk
  have hc : c = 1 ∨ c = 2 ∨ c = 3 ∨ c = 4 ∨ c = 5 ∨ c = 6 ∨ c = 7 := by omega
  have hk' : k = 0 ∨ k = 1 ∨ k = 2 := by omega
  rcases hk' with rfl | rfl | rfl <;> rcases hc with rfl | rfl | rfl | rfl | rfl | rfl | rfl <;> decide +kernel
set_option maxHeartbeats 4000000 in
theorem skAll_meets (f : Nat) (hb : hasBody Try.prog f = true) (E : KS → Int → Int) (N : KS → Int → KS) (U : KS → Int → Int) (T : Nat → KS) (v : Nat) (n t c : Int) (hc : wthn c 1 7 = true)
    (hf : ∀ k, k < 3 → ∀ t, Meets Try.prog f [.ptr 0 0, .ptr 3 0, .ptr 4 0] (hK (T k) ++ [.box [.int .i64 n], .box [.int .i64 t]]) (.int .i64 (E (T k) t)) (hK (N (T k) t) ++ [.box [.int .i64 n], .box [.int .i64 (U (T k) t)]])) :
    Meets Try.prog 24 [.arr 2 v, .int .i64 c, .clo f [.ptr 0 0, .ptr 1 0]] (hA v n t T) (.int .i64 (runK E N U (bitB c) 3 T t).1) (hA v n (runK E N U (bitB c) 3 T t).2.2 (runK E N U (bitB c) 3 T t).2.1) := by
  refine Meets.of_walk Try.func24 Try.ntmps24 low24 res24 (by simp) fun x hx => ?_
  simp only [go_sem, Nat.reduceLT, Nat.reduceAdd, Nat.reduceEqDiff, Nat.reduceLeDiff, Nat.reduceSub, Nat.reduceMul, Int.reduceEq, eq_self, reduceIte, L24, R24, hA, hKat]
  refine loop_keep [1, 2, 10, 11, 12] (fun m st => ∃ (k : Nat) (T' : Nat → KS) (t' : Int), m + k = 3 ∧ (∀ j, k ≤ j → T' j = T j) ∧ runK E N U (bitB c) m T' t' = runK E N U (bitB c) 3 T t ∧
    st = ⟨mkE .top [(1, .int .i64 c), (2, .clo f [.ptr 0 0, .ptr 1 0]), (10, .arr 2 v), (11, .int .i64 3), (12, .int .i64 k)], hA v n t' T'⟩) 3 ?_ ?_
  · refine ⟨0, T, t, rfl, fun _ _ => rfl, rfl, ?_⟩
    simp [keep_mk, mkE_cons, mkE_nil, hA, hKat]
  · rintro m st ⟨k, T', t', hmk, hTe, hrun, rfl⟩
    have hk : k = 0 ∨ k = 1 ∨ k = 2 ∨ k = 3 := by omega
    rcases hk with rfl | rfl | rfl | rfl
    · skip
      have hk3 : m = 3 - 0 := by omega
      subst hk3
      have hbk : decide (IntKind.i64.wrap (((BitVec.ofInt 64 (c.fdiv (2 ^ min 0 64))) &&& (BitVec.ofInt 64 1)).toNat : Int) = 0) = !bitB c 0 := bit_shr hc 0 (by decide)
      have hTk : T' 0 = T 0 := hTe 0 (by decide)
      have hrun' := hrun
      rw [show (3 - 0 : Nat) = 2 - 0 + 1 from rfl, runK] at hrun'
      simp only [Nat.reduceSub] at hrun'
      cases hbit : bitB c 0
      · rw [hbit] at hbk
        rw [hbit, if_pos rfl] at hrun'
        simp only [go_sem, Nat.reduceLT, Nat.reduceAdd, Nat.reduceEqDiff, Nat.reduceLeDiff, Nat.reduceSub, Nat.reduceMul, Int.reduceEq, eq_self, reduceIte, hA, hKat, Int.ofNat_zero, Int.natCast_one, Int.cast_ofNat_Int, Int.reduceLT, Int.reduceLE, Int.reduceToNat, Nat.reduceLT, Int.toNat_zero]
        refine condW_of hbk ?_
        simp only [go_sem, Nat.reduceLT, Nat.reduceAdd, Nat.reduceEqDiff, Nat.reduceLeDiff, Nat.reduceSub, Nat.reduceMul, Int.reduceEq, eq_self, reduceIte]
        refine ⟨2 - 0, by decide, 0 + 1, T', t', rfl, fun j hj => hTe j (by omega), hrun', ?_⟩
        simp [keep_mk, mkE_cons, mkE_nil, hA, hKat, wr1, wr2, wr3]
      · rw [hbit] at hbk
        rw [hbit, if_neg (by decide), hTk] at hrun'
        simp only [go_sem, Nat.reduceLT, Nat.reduceAdd, Nat.reduceEqDiff, Nat.reduceLeDiff, Nat.reduceSub, Nat.reduceMul, Int.reduceEq, eq_self, reduceIte, hA, hKat, Int.ofNat_zero, Int.natCast_one, Int.cast_ofNat_Int, Int.reduceLT, Int.reduceLE, Int.reduceToNat, Nat.reduceLT, Int.toNat_zero]
        refine condW_of hbk ?_
        simp only [go_sem, Nat.reduceLT, Nat.reduceAdd, Nat.reduceEqDiff, Nat.reduceLeDiff, Nat.reduceSub, Nat.reduceMul, Int.reduceEq, eq_self, reduceIte]
        have hcall := hf 0 (by decide) t'
        by_cases he : E (T 0) t' = 0
        · rw [if_neg (by simp [he])] at hrun'
          rw [he] at hcall
          refine ops_callv rfl hb (.heapE [3, 3 + 1, 3 + 2, 0, 1] (r' := .int .i64 0) (H' := hA v n (U (T 0) t') (upd T' 0 (N (T 0) t'))) hcall (by simp) (by simp) (by simp [go_sem, Nat.reduceLT, Nat.reduceAdd, Nat.reduceEqDiff, Nat.reduceLeDiff, Nat.reduceSub, Nat.reduceMul, Int.reduceEq, eq_self, reduceIte, pos]) (by simp [subHeap, renObj, go_sem, Nat.reduceLT, Nat.reduceAdd, Nat.reduceEqDiff, Nat.reduceLeDiff, Nat.reduceSub, Nat.reduceMul, Int.reduceEq, eq_self, reduceIte, pos, hK, hSv, hTk]) rfl rfl) ?_
          · simp only [go_sem, Nat.reduceLT, Nat.reduceAdd, Nat.reduceEqDiff, Nat.reduceLeDiff, Nat.reduceSub, Nat.reduceMul, Int.reduceEq, eq_self, reduceIte, hA, hKat]
            refine ⟨2 - 0, by decide, 0 + 1, upd T' 0 (N (T 0) t'), U (T 0) t', rfl, fun j hj => ?_, hrun', ?_⟩
            · rw [upd, if_neg (by omega)]; exact hTe j (by omega)
            · simp [keep_mk, mkE_cons, mkE_nil, hA, hKat, wr1, wr2, wr3]
        · rw [if_pos he] at hrun'
          refine ops_callv rfl hb (.heapE [3, 3 + 1, 3 + 2, 0, 1] (r' := .int .i64 (E (T 0) t')) (H' := hA v n (U (T 0) t') (upd T' 0 (N (T 0) t'))) hcall (by simp) (by simp) (by simp [go_sem, Nat.reduceLT, Nat.reduceAdd, Nat.reduceEqDiff, Nat.reduceLeDiff, Nat.reduceSub, Nat.reduceMul, Int.reduceEq, eq_self, reduceIte, pos]) (by simp [subHeap, renObj, go_sem, Nat.reduceLT, Nat.reduceAdd, Nat.reduceEqDiff, Nat.reduceLeDiff, Nat.reduceSub, Nat.reduceMul, Int.reduceEq, eq_self, reduceIte, pos, hK, hSv, hTk]) rfl rfl) ?_
          simp only [go_sem, Nat.reduceLT, Nat.reduceAdd, Nat.reduceEqDiff, Nat.reduceLeDiff, Nat.reduceSub, Nat.reduceMul, Int.reduceEq, eq_self, reduceIte, hA, hKat, he]
          rw [← hrun']
          refine ret_keep [] (by simp) (by simp) (by simp [hx, hA, hKat]) ?_ ?_
          · simp [go_sem, Nat.reduceLT, Nat.reduceAdd, Nat.reduceEqDiff, Nat.reduceLeDiff, Nat.reduceSub, Nat.reduceMul, Int.reduceEq, eq_self, reduceIte, L24, R24, hx, pos]
          · simp [subHeap, renObj, hx, pos, go_sem, Nat.reduceLT, Nat.reduceAdd, Nat.reduceEqDiff, Nat.reduceLeDiff, Nat.reduceSub, Nat.reduceMul, Int.reduceEq, eq_self, reduceIte, hA, hKat, List.range_succ]
    · skip
      have hk3 : m = 3 - 1 := by omega
      subst hk3
      have hbk : decide (IntKind.i64.wrap (((BitVec.ofInt 64 (c.fdiv (2 ^ min 1 64))) &&& (BitVec.ofInt 64 1)).toNat : Int) = 0) = !bitB c 1 := bit_shr hc 1 (by decide)
      have hTk : T' 1 = T 1 := hTe 1 (by decide)
      have hrun' := hrun
      rw [show (3 - 1 : Nat) = 2 - 1 + 1 from rfl, runK] at hrun'
      simp only [Nat.reduceSub] at hrun'
      cases hbit : bitB c 1
      · rw [hbit] at hbk
        rw [hbit, if_pos rfl] at hrun'
        simp only [go_sem, Nat.reduceLT, Nat.reduceAdd, Nat.reduceEqDiff, Nat.reduceLeDiff, Nat.reduceSub, Nat.reduceMul, Int.reduceEq, eq_self, reduceIte, hA, hKat, Int.ofNat_zero, Int.natCast_one, Int.cast_ofNat_Int, Int.reduceLT, Int.reduceLE, Int.reduceToNat, Nat.reduceLT, Int.toNat_zero]
        refine condW_of hbk ?_
        simp only [go_sem, Nat.reduceLT, Nat.reduceAdd, Nat.reduceEqDiff, Nat.reduceLeDiff, Nat.reduceSub, Nat.reduceMul, Int.reduceEq, eq_self, reduceIte]
        refine ⟨2 - 1, by decide, 1 + 1, T', t', rfl, fun j hj => hTe j (by omega), hrun', ?_⟩
        simp [keep_mk, mkE_cons, mkE_nil, hA, hKat, wr1, wr2, wr3]
      · rw [hbit] at hbk
        rw [hbit, if_neg (by decide), hTk] at hrun'
        simp only [go_sem, Nat.reduceLT, Nat.reduceAdd, Nat.reduceEqDiff, Nat.reduceLeDiff, Nat.reduceSub, Nat.reduceMul, Int.reduceEq, eq_self, reduceIte, hA, hKat, Int.ofNat_zero, Int.natCast_one, Int.cast_ofNat_Int, Int.reduceLT, Int.reduceLE, Int.reduceToNat, Nat.reduceLT, Int.toNat_zero]
        refine condW_of hbk ?_
        simp only [go_sem, Nat.reduceLT, Nat.reduceAdd, Nat.reduceEqDiff, Nat.reduceLeDiff, Nat.reduceSub, Nat.reduceMul, Int.reduceEq, eq_self, reduceIte]
        have hcall := hf 1 (by decide) t'
        by_cases he : E (T 1) t' = 0
        · rw [if_neg (by simp [he])] at hrun'
          rw [he] at hcall
          refine ops_callv rfl hb (.heapE [6, 6 + 1, 6 + 2, 0, 1] (r' := .int .i64 0) (H' := hA v n (U (T 1) t') (upd T' 1 (N (T 1) t'))) hcall (by simp) (by simp) (by simp [go_sem, Nat.reduceLT, Nat.reduceAdd, Nat.reduceEqDiff, Nat.reduceLeDiff, Nat.reduceSub, Nat.reduceMul, Int.reduceEq, eq_self, reduceIte, pos]) (by simp [subHeap, renObj, go_sem, Nat.reduceLT, Nat.reduceAdd, Nat.reduceEqDiff, Nat.reduceLeDiff, Nat.reduceSub, Nat.reduceMul, Int.reduceEq, eq_self, reduceIte, pos, hK, hSv, hTk]) rfl rfl) ?_
          · simp only [go_sem, Nat.reduceLT, Nat.reduceAdd, Nat.reduceEqDiff, Nat.reduceLeDiff, Nat.reduceSub, Nat.reduceMul, Int.reduceEq, eq_self, reduceIte, hA, hKat]
            refine ⟨2 - 1, by decide, 1 + 1, upd T' 1 (N (T 1) t'), U (T 1) t', rfl, fun j hj => ?_, hrun', ?_⟩
            · rw [upd, if_neg (by omega)]; exact hTe j (by omega)
            · simp [keep_mk, mkE_cons, mkE_nil, hA, hKat, wr1, wr2, wr3]
        · rw [if_pos he] at hrun'
          refine ops_callv rfl hb (.heapE [6, 6 + 1, 6 + 2, 0, 1] (r' := .int .i64 (E (T 1) t')) (H' := hA v n (U (T 1) t') (upd T' 1 (N (T 1) t'))) hcall (by simp) (by simp) (by simp [go_sem, Nat.reduceLT, Nat.reduceAdd, Nat.reduceEqDiff, Nat.reduceLeDiff, Nat.reduceSub, Nat.reduceMul, Int.reduceEq, eq_self, reduceIte, pos]) (by simp [subHeap, renObj, go_sem, Nat.reduceLT, Nat.reduceAdd, Nat.reduceEqDiff, Nat.reduceLeDiff, Nat.reduceSub, Nat.reduceMul, Int.reduceEq, eq_self, reduceIte, pos, hK, hSv, hTk]) rfl rfl) ?_
          simp only [go_sem, Nat.reduceLT, Nat.reduceAdd, Nat.reduceEqDiff, Nat.reduceLeDiff, Nat.reduceSub, Nat.reduceMul, Int.reduceEq, eq_self, reduceIte, hA, hKat, he]
          rw [← hrun']
          refine ret_keep [] (by simp) (by simp) (by simp [hx, hA, hKat]) ?_ ?_
          · simp [go_sem, Nat.reduceLT, Nat.reduceAdd, Nat.reduceEqDiff, Nat.reduceLeDiff, Nat.reduceSub, Nat.reduceMul, Int.reduceEq, eq_self, reduceIte, L24, R24, hx, pos]
          · simp [subHeap, renObj, hx, pos, go_sem, Nat.reduceLT, Nat.reduceAdd, Nat.reduceEqDiff, Nat.reduceLeDiff, Nat.reduceSub, Nat.reduceMul, Int.reduceEq, eq_self, reduceIte, hA, hKat, List.range_succ]
    · skip
      have hk3 : m = 3 - 2 := by omega
      subst hk3
      have hbk : decide (IntKind.i64.wrap (((BitVec.ofInt 64 (c.fdiv (2 ^ min 2 64))) &&& (BitVec.ofInt 64 1)).toNat : Int) = 0) = !bitB c 2 := bit_shr hc 2 (by decide)
      have hTk : T' 2 = T 2 := hTe 2 (by decide)
      have hrun' := hrun
      rw [show (3 - 2 : Nat) = 2 - 2 + 1 from rfl, runK] at hrun'
      simp only [Nat.reduceSub] at hrun'
      cases hbit : bitB c 2
      · rw [hbit] at hbk
        rw [hbit, if_pos rfl] at hrun'
        simp only [go_sem, Nat.reduceLT, Nat.reduceAdd, Nat.reduceEqDiff, Nat.reduceLeDiff, Nat.reduceSub, Nat.reduceMul, Int.reduceEq, eq_self, reduceIte, hA, hKat, Int.ofNat_zero, Int.natCast_one, Int.cast_ofNat_Int, Int.reduceLT, Int.reduceLE, Int.reduceToNat, Nat.reduceLT, Int.toNat_zero]
        refine condW_of hbk ?_
        simp only [go_sem, Nat.reduceLT, Nat.reduceAdd, Nat.reduceEqDiff, Nat.reduceLeDiff, Nat.reduceSub, Nat.reduceMul, Int.reduceEq, eq_self, reduceIte]
        refine ⟨2 - 2, by decide, 2 + 1, T', t', rfl, fun j hj => hTe j (by omega), hrun', ?_⟩
        simp [keep_mk, mkE_cons, mkE_nil, hA, hKat, wr1, wr2, wr3]
      · rw [hbit] at hbk
        rw [hbit, if_neg (by decide), hTk] at hrun'
        simp only [go_sem, Nat.reduceLT, Nat.reduceAdd, Nat.reduceEqDiff, Nat.reduceLeDiff, Nat.reduceSub, Nat.reduceMul, Int.reduceEq, eq_self, reduceIte, hA, hKat, Int.ofNat_zero, Int.natCast_one, Int.cast_ofNat_Int, Int.reduceLT, Int.reduceLE, Int.reduceToNat, Nat.reduceLT, Int.toNat_zero]
        refine condW_of hbk ?_
        simp only [go_sem, Nat.reduceLT, Nat.reduceAdd, Nat.reduceEqDiff, Nat.reduceLeDiff, Nat.reduceSub, Nat.reduceMul, Int.reduceEq, eq_self, reduceIte]
        have hcall := hf 2 (by decide) t'
        by_cases he : E (T 2) t' = 0
        · rw [if_neg (by simp [he])] at hrun'
          rw [he] at hcall
          refine ops_callv rfl hb (.heapE [9, 9 + 1, 9 + 2, 0, 1] (r' := .int .i64 0) (H' := hA v n (U (T 2) t') (upd T' 2 (N (T 2) t'))) hcall (by simp) (by simp) (by simp [go_sem, Nat.reduceLT, Nat.reduceAdd, Nat.reduceEqDiff, Nat.reduceLeDiff, Nat.reduceSub, Nat.reduceMul, Int.reduceEq, eq_self, reduceIte, pos]) (by simp [subHeap, renObj, go_sem, Nat.reduceLT, Nat.reduceAdd, Nat.reduceEqDiff, Nat.reduceLeDiff, Nat.reduceSub, Nat.reduceMul, Int.reduceEq, eq_self, reduceIte, pos, hK, hSv, hTk]) rfl rfl) ?_
          · simp only [go_sem, Nat.reduceLT, Nat.reduceAdd, Nat.reduceEqDiff, Nat.reduceLeDiff, Nat.reduceSub, Nat.reduceMul, Int.reduceEq, eq_self, reduceIte, hA, hKat]
            refine ⟨2 - 2, by decide, 2 + 1, upd T' 2 (N (T 2) t'), U (T 2) t', rfl, fun j hj => ?_, hrun', ?_⟩
            · rw [upd, if_neg (by omega)]; exact hTe j (by omega)
            · simp [keep_mk, mkE_cons, mkE_nil, hA, hKat, wr1, wr2, wr3]
        · rw [if_pos he] at hrun'
          refine ops_callv rfl hb (.heapE [9, 9 + 1, 9 + 2, 0, 1] (r' := .int .i64 (E (T 2) t')) (H' := hA v n (U (T 2) t') (upd T' 2 (N (T 2) t'))) hcall (by simp) (by simp) (by simp [go_sem, Nat.reduceLT, Nat.reduceAdd, Nat.reduceEqDiff, Nat.reduceLeDiff, Nat.reduceSub, Nat.reduceMul, Int.reduceEq, eq_self, reduceIte, pos]) (by simp [subHeap, renObj, go_sem, Nat.reduceLT, Nat.reduceAdd, Nat.reduceEqDiff, Nat.reduceLeDiff, Nat.reduceSub, Nat.reduceMul, Int.reduceEq, eq_self, reduceIte, pos, hK, hSv, hTk]) rfl rfl) ?_
          simp only [go_sem, Nat.reduceLT, Nat.reduceAdd, Nat.reduceEqDiff, Nat.reduceLeDiff, Nat.reduceSub, Nat.reduceMul, Int.reduceEq, eq_self, reduceIte, hA, hKat, he]
          rw [← hrun']
          refine ret_keep [] (by simp) (by simp) (by simp [hx, hA, hKat]) ?_ ?_
          · simp [go_sem, Nat.reduceLT, Nat.reduceAdd, Nat.reduceEqDiff, Nat.reduceLeDiff, Nat.reduceSub, Nat.reduceMul, Int.reduceEq, eq_self, reduceIte, L24, R24, hx, pos]
          · simp [subHeap, renObj, hx, pos, go_sem, Nat.reduceLT, Nat.reduceAdd, Nat.reduceEqDiff, Nat.reduceLeDiff, Nat.reduceSub, Nat.reduceMul, Int.reduceEq, eq_self, reduceIte, hA, hKat, List.range_succ]
    · obtain rfl : m = 0 := by omega
      simp only [go_sem, Nat.reduceLT, Nat.reduceAdd, Nat.reduceEqDiff, Nat.reduceLeDiff, Nat.reduceSub, Nat.reduceMul, Int.reduceEq, eq_self, reduceIte, hA, hKat, Int.ofNat_zero, Int.natCast_one, Int.cast_ofNat_Int, Int.reduceLT, Int.lt_irrefl]
      rw [← hrun, runK]
      refine ret_keep [] (by simp) (by simp) (by simp [hx, hA, hKat]) ?_ ?_
      · simp [go_sem, Nat.reduceLT, Nat.reduceAdd, Nat.reduceEqDiff, Nat.reduceLeDiff, Nat.reduceSub, Nat.reduceMul, Int.reduceEq, eq_self, reduceIte, L24, R24, hx, pos]
      · simp [subHeap, renObj, hx, pos, go_sem, Nat.reduceLT, Nat.reduceAdd, Nat.reduceEqDiff, Nat.reduceLeDiff, Nat.reduceSub, Nat.reduceMul, Int.reduceEq, eq_self, reduceIte, hA, hKat, List.range_succ]
end Go.Proofs.Ytocglfkflpkafaa
/- Servers: what All answers; AllOf, in the law text's words: a contract. -/
namespace Go.Proofs.Ytocglfkflpkafaa
open Go.RowKit
theorem pos_spec {l : List Wt} (hu : upW l) (n : Int) : posW l n ≤ l.length ∧ (∀ k, k < posW l n → (nth l k).n < n) ∧ ∀ k, posW l n ≤ k → k < l.length → ¬ (nth l k).n < n := by
  have key : ∀ m, m ≤ l.length → ∃ i, i ≤ m ∧ (∀ k, k < i → (nth l k).n < n) ∧ ∀ k, i ≤ k → k < m → ¬ (nth l k).n < n := by
    intro m
    induction m with
    | zero => intro _; exact ⟨0, Nat.le_refl _, fun k h => by omega, fun k a b => by omega⟩
    | succ m ih =>
      intro hm
      by_cases h : (nth l m).n < n
      · refine ⟨m + 1, Nat.le_refl _, fun k hk => ?_, fun k a b => by omega⟩
        by_cases e : k = m
        · subst e; exact h
        · have := hu k m (by omega) (by omega); omega
      · obtain ⟨i, h1, h2, h3⟩ := ih (by omega)
        refine ⟨i, by omega, h2, fun k a b => ?_⟩
        by_cases e : k = m
        · subst e; exact h
        · exact h3 k a (by omega)
  obtain ⟨i, h1, h2, h3⟩ := key l.length (Nat.le_refl _)
  have hp := posW_at h1 h2 h3
  rw [hp]
  exact ⟨h1, h2, h3⟩
theorem notfound {l : List Wt} {n : Int} (hf : foundW l n = false) : ∀ j, j < l.length → (nth l j).n ≠ n := fun j hj e => by
  have := List.any_eq_false.1 hf (nth l j) (nthM hj)
  simp [e] at this
theorem nth_ins {l : List Wt} {i : Nat} (hi : i ≤ l.length) (w : Wt) {k : Nat} (hk : k < l.length + 1) : nth (l.insertIdx i w) k = if k < i then nth l k else if k = i then w else nth l (k - 1) := by
  refine nth_get ?_
  rw [List.getElem?_insertIdx]
  split
  · exact nth_get? _ _ (by omega)
  · split
    · rw [if_pos (by omega)]
    · exact nth_get? _ _ (by omega)
theorem upW_ins {l : List Wt} (hu : upW l) {w : Wt} (hf : foundW l w.n = false) : upW (l.insertIdx (posW l w.n) w) := by
  obtain ⟨p1, p2, p3⟩ := pos_spec hu w.n
  have hn := notfound hf
  intro a b hab hb
  rw [ins_len l w p1] at hb
  rw [nth_ins p1 w (by omega), nth_ins p1 w hb]
  generalize posW l w.n = p at *
  by_cases h1 : a < p
  · rw [if_pos h1]
    have a1 := p2 a h1
    by_cases h2 : b < p
    · rw [if_pos h2]; exact hu a b hab (by omega)
    · rw [if_neg h2]
      by_cases h3 : b = p
      · rw [if_pos h3]; exact a1
      · rw [if_neg h3]
        have := p3 (b - 1) (by omega) (by omega); omega
  · rw [if_neg h1]
    rw [if_neg (by omega : ¬ b < p), if_neg (by omega : ¬ b = p)]
    by_cases h3 : a = p
    · rw [if_pos h3]
      have := p3 (b - 1) (by omega) (by omega)
      have := hn (b - 1) (by omega); omega
    · rw [if_neg h3]; exact hu _ _ (by omega) (by omega)
theorem inW_ins {l : List Wt} (hb : inW l) {w : Wt} {i : Nat} (hi : i ≤ l.length) (hw : 1 ≤ w.n ∧ w.n ≤ 20 ∧ 1 ≤ w.t ∧ w.t ≤ 999) : inW (l.insertIdx i w) := by
  intro k hk
  rw [ins_len l w hi] at hk
  rw [nth_ins hi w hk]
  split
  · exact hb k (by omega)
  · split
    · exact hw
    · exact hb _ (by omega)
/-- a server as a row -/
def rK (s : KS) : List PV := cSv s.c s.ws s.ds
/-- servers that are right, at a beginning -/
def okK (s : KS) : Prop := svErr s.c s.ws s.ds = 0
theorem okK_in {s : KS} (h : okK s) : wthn s.c 0 999 = true ∧ s.ws.length ≤ 8 ∧ s.ds.length ≤ 30 ∧ upW s.ws ∧ inW s.ws := by
  obtain ⟨a, b, c, d, e, -⟩ := svErr_ok h
  exact ⟨a, b, c, e, waitK_in a d⟩
/-- fit for a commit -/
def fitK (s : KS) : Prop := s.ws.length ≤ 9 ∧ s.ds.length ≤ 30 ∧ upW s.ws ∧ inW s.ws
theorem propErr_ok {c : Int} {ws : List Wt} {ds : List Int} {n : Int} (h : propErr c ws ds n = 0) : wthn n 1 20 = true ∧ foundW ws n = false ∧ (ds.any fun y => decide (y = n)) = false ∧ ws.length ≠ 8 ∧ c ≠ 999 := by
  unfold propErr at h
  split at h
  · cases h
  · rename_i h1
    split at h
    · cases h
    · rename_i h2
      split at h
      · cases h
      · rename_i h3
        simp only [Bool.or_eq_true, not_or, Bool.not_eq_true] at h2
        exact ⟨by simpa using h1, h2.1, h2.2, by omega, by omega⟩
theorem fit_prop {s : KS} (h : okK s) (n : Int) : fitK (propK s n) := by
  obtain ⟨a, b, c, d, e⟩ := okK_in h
  unfold propK
  split
  · rename_i h0
    obtain ⟨q1, q2, -, q4, q5⟩ := propErr_ok h0
    rw [wthn_iff] at a q1
    have hp := posW_le s.ws n
    exact ⟨by simp only [ins_len s.ws _ hp]; omega, c, upW_ins (w := ⟨n, s.c + 1, false⟩) d q2, inW_ins e hp (by simp only; omega)⟩
  · exact ⟨by omega, c, d, e⟩
theorem runK_val {E : KS → Int → Int} {N : KS → Int → KS} {U : KS → Int → Int} {bit : Nat → Bool} {V : KS → Prop} {V' : KS → Prop} (h1 : ∀ s, V s → V' s) (h2 : ∀ s t, V s → V' (N s t)) :
    ∀ m (T : Nat → KS) (t : Int), m ≤ 3 → (∀ j, j < 3 - m → V' (T j)) → (∀ j, 3 - m ≤ j → j < 3 → V (T j)) → ∀ j, j < 3 → V' ((runK E N U bit m T t).2.1 j)
  | 0, T, t, _, ha, hb, j, hj => ha j (by omega)
  | m + 1, T, t, hm, ha, hb, j, hj => by
    have hVm : V (T (2 - m)) := hb _ (by omega) (by omega)
    have hup : ∀ i, i < 3 → i < 3 - m → V' (upd T (2 - m) (N (T (2 - m)) t) i) := fun i hi hi2 => by
      unfold upd
      split
      · exact h2 _ _ hVm
      · exact ha i (by omega)
    have hup2 : ∀ i, 3 - m ≤ i → i < 3 → V (upd T (2 - m) (N (T (2 - m)) t) i) := fun i hi hi2 => by
      unfold upd
      rw [if_neg (by omega)]
      exact hb i (by omega) hi2
    rw [runK]
    split
    · refine runK_val h1 h2 m T t (by omega) (fun i hi => ?_) (fun i a b => hb i (by omega) b) j hj
      by_cases e : i = 2 - m
      · subst e; exact h1 _ hVm
      · exact ha i (by omega)
    · split
      · show V' (upd T (2 - m) (N (T (2 - m)) t) j)
        by_cases e : j < 3 - m
        · exact hup j hj e
        · exact h1 _ (hup2 j (by omega) hj)
      · exact runK_val h1 h2 m _ _ (by omega) (fun i hi => hup i (by omega) hi) hup2 j hj
/-- proposed at those of some colors; committed -/
def propA (n c : Int) (T : Nat → KS) : Int × (Nat → KS) × Int := runK (fun s _ => propErr s.c s.ws s.ds n) (fun s _ => propK s n) (fun s t => maxI t (propK s n).c) (bitB c) 3 T 0
def commA (n c : Int) (T : Nat → KS) (t : Int) : Int × (Nat → KS) × Int := runK (fun s t => commErr s.ws s.ds n t) (fun s t => commK s n t) (fun _ t => t) (bitB c) 3 T t
/-- three servers -/
def okE3 (T : Nat → KS) : Int := if svErr (T 0).c (T 0).ws (T 0).ds ≠ 0 then svErr (T 0).c (T 0).ws (T 0).ds else if svErr (T 1).c (T 1).ws (T 1).ds ≠ 0 then svErr (T 1).c (T 1).ws (T 1).ds else svErr (T 2).c (T 2).ws (T 2).ds
def allE (n c : Int) (T : Nat → KS) : Int :=
  if okE3 T ≠ 0 then okE3 T else if wthn c 1 7 = false then 3 else if (propA n c T).1 ≠ 0 then (propA n c T).1 else (commA n c (propA n c T).2.1 (propA n c T).2.2).1
def allT (n c : Int) (T : Nat → KS) : Nat → KS := (commA n c (propA n c T).2.1 (propA n c T).2.2).2.1
def allRows (n c : Int) (T : Nat → KS) : List (List PV) := if allE n c T ≠ 0 then [] else [rK (allT n c T 0), rK (allT n c T 1), rK (allT n c T 2)]
theorem fit_propA {n c : Int} {T : Nat → KS} (h : ∀ j, j < 3 → okK (T j)) : ∀ j, j < 3 → fitK ((propA n c T).2.1 j) :=
  runK_val (V := okK) (V' := fitK) (fun s hs => by
    obtain ⟨-, a, b, c, d⟩ := okK_in hs; exact ⟨by omega, b, c, d⟩) (fun s _ hs => fit_prop hs n) 3 T 0 (Nat.le_refl _) (fun j hj => by omega) (fun j _ hj => h j hj)
theorem okE3_ok {T : Nat → KS} (h : okE3 T = 0) : ∀ j, j < 3 → okK (T j) := by
  unfold okE3 at h
  intro j hj
  split at h
  · rename_i h0; exact (h0 h).elim
  · rename_i h0
    split at h
    · rename_i h1; exact (h1 h).elim
    · rename_i h1
      have : j = 0 ∨ j = 1 ∨ j = 2 := by omega
      rcases this with rfl | rfl | rfl
      · unfold okK; simpa using h0
      · unfold okK; simpa using h1
      · exact h
end Go.Proofs.Ytocglfkflpkafaa
