/- Joined texts of this claim: M1 M2 Lc E1 E2 E3 E4 E5 E6 S2 S3 S4 S5 S6 S7 D1 E12. -/
import Derived.Test.YtfdolehffjmdmaaGreatDoorKB
import Derived.Shelf.GgSortFunc.InsertionK
import Derived.Test.YtfdolehffjmdmaaGreatDoorProg
import Derived.KernelRfl
import Derived.IntWalk
import Derived.Shelf.RegionOpenPlain
import Derived.WalkKit
import Derived.Deep.LoopGhost
import Derived.Deep.Draws
import Derived.Lib.Walk
import Derived.Sort.WalkB12
import Derived.Lib.SliceRun
import Derived.Lib.SlicesCompact
import Derived.Deep.RegionLaw
import Derived.Lib.SlicesDelete
import Derived.Shelf.Spec.SlicesInsert
import Derived.ArgAppend
import Derived.Shelf.Spec.SlicesInsertGrow
set_option linter.unusedSimpArgs false
set_option linter.unusedVariables false
set_option linter.unusedSectionVars false
/- Array objects and the rows of cells where they lie: what holds in memory of an array,and what may be said when its cells were laid anew. -/
namespace Go.Proofs.YtfdolehffjmdmaaGreatDoor
open Go.RowKit
section
variable {x:Cx} {C:Conc} {H:List AObj} {w w':World}
theorem HR.row (hr : HR x C H w) {id v T sz : Nat} {sto : Bool} {rows : List (List PV)} {u : Value} (hid : H[id]? = some (.arr v sto false T sz rows)) (hu : RepV (Stab x C H w) w C (.arr id v) u) :
    u=C.sv id∧(∀ row ∈ rows,row.length=sz)∧(u = .slice none 0 0∧rows = []∨∃ (g cap:Nat) (cur:Array Value),u = .slice (some ⟨g,0,none⟩) rows.length cap∧w.heap[g]? = some (.cells cur T (0,0))∧rows.length≤cap∧cap≤maxLen∧cur.size=cap * sz ∧
      ∀ (k:Nat) row (j:Nat) p,rows[k]? = some row→row[j]? = some p→∃ y,cur[k * sz + j]? = some y∧y.oneCell'=true∧RepP (Stab x C H w) w p y):=by
  obtain ⟨o1,o2,o3,xs,o4,o5⟩:=hr.obj id _ hid
  obtain ⟨e,hi⟩:=hu.arr_inv o1
  refine ⟨e,o3,?_⟩
  rcases o4.2 with ⟨g1,g2⟩ | ⟨g,cap,cur,g1,-,g2,g3,g4,g5,g6⟩
  · exact .inl ⟨e.trans g1,List.length_eq_zero_iff.1 g2⟩
  · refine .inr ⟨g,cap,cur,e.trans g1,g2,g3,g4,g5,fun k row j p a b=>?_⟩
    have hk:k < rows.length:=(List.getElem?_eq_some_iff.1 a).1
    have hj:j < sz:=by rw [← o3 row (List.mem_of_getElem? a)]; exact (List.getElem?_eq_some_iff.1 b).1
    have hkl:k * sz + j < rows.length * sz:=by
      have:(k + 1) * sz≤rows.length * sz:=Nat.mul_le_mul_right _ hk
      rw [Nat.add_mul] at this; omega
    have hcl:rows.length * sz≤cap * sz:=Nat.mul_le_mul_right _ g3
    have hlt:k * sz + j < cur.size:=by omega
    have hx:xs[k * sz + j]? = some cur[k * sz + j]:=by rw [← g6,List.getElem?_take,if_pos hkl,Array.getElem?_toList,Array.getElem?_eq_getElem hlt]
    have:=o5 k row j p _ a b hx
    simp only [Bool.false_eq_true,if_false] at this
    exact ⟨_,Array.getElem?_eq_getElem hlt,this⟩
theorem HR.drop (hr : HR x C H w) {id v T sz g cap' : Nat} {rows rows' : List (List PV)} {cur' : Array Value} {fr : Nat × Nat}
    (hid:H[id]? = some (.arr v true false T sz rows)) (hs:Step w w' fun b=>(C.sv id).ownBlock=some b) (hg:(C.sv id).ownBlock=some g)
    (hc:w'.heap[g]? = some (.cells cur' T fr)) (hn:rows'.length≤cap') (hm:cap'≤maxLen) (hz:cur'.size=cap' * sz) (hrow:∀ row ∈ rows',row.length=sz)
    (hrep:∀ (k:Nat) row (j:Nat) p u,rows'[k]? = some row→row[j]? = some p→cur'[k * sz + j]? = some u→RepP (Stab x C H w) w p u) :
    HR x C (H.set id .gone) w'∧(∀ p u,RepV (Stab x C H w) w C p u→RepV (Stab x C (H.set id .gone) w') w' C p u) ∧
      RepP (Stab x C (H.set id .gone) w') w' (.list rows') (.slice (some ⟨g,0,none⟩) rows'.length cap'):=by
  obtain ⟨o1,o2,o3,xs,o4,o5⟩:=hr.obj id _ hid
  have hlt:id < H.length:=(List.getElem?_eq_some_iff.1 hid).1
  have hgb:g < w'.heap.size:=(Array.getElem?_eq_some_iff.1 hc).1
  have hmp:∀ p v,RepP (Stab x C H w) w p v→RepP (Stab x C (H.set id .gone) w') w' p v:=by
    intro p v h
    refine h.mono (fun b o h=>⟨h.1,Nat.lt_of_lt_of_le h.2.1 hs.size,fun i ob1 hi=>?_⟩) fun b o h=>cell_eq (hs.blk b h.2.1 fun hb=>?_)
    · by_cases e:i=id
      · subst e; rw [List.getElem?_set_self hlt] at hi; cases hi; trivial
      · rw [List.getElem?_set_ne (Ne.symm e)] at hi; exact h.2.2 i ob1 hi
    · have:=h.2.2 id _ hid hb; simp at this
  obtain ⟨k1,k2⟩:=hr.change (C':=C) hid (ob' := .gone) hs rfl (fun _=>rfl) (fun _ _=>⟨rfl,rfl⟩) (.inl ⟨rfl,rfl⟩)
    (fun b o hb hf=>trivial) (fun b o hb hf=>by have:=hf hb; simp at this) (fun b hb=>hb.elim) (fun _ _=>trivial)
  refine ⟨k1,k2,?_⟩
  refine .list rows' _ cap' sz (fun k j=>cur'[k * sz + j]!) hn hm o2 hrow (fun k row j p a b=>⟨g,0,rfl,?_,?_⟩) fun k row j p a b=>?_
  · refine ⟨?_,hgb,fun i ob1 hi=>?_⟩
    · rcases hr.mine id _ g hid hg with h | h
      · exact .inr (.inl h)
      · exact .inr (.inr h)
    · by_cases e:i=id
      · subst e; rw [List.getElem?_set_self hlt] at hi; cases hi; trivial
      · rw [List.getElem?_set_ne (Ne.symm e)] at hi
        exact AObj.free_of_not (fun hb=>e (hr.apart i id ob1 _ g hi hid hb hg)) _
  all_goals
    have hk:k < rows'.length:=(List.getElem?_eq_some_iff.1 a).1
    have hj:j < sz:=by rw [← hrow row (List.mem_of_getElem? a)]; exact (List.getElem?_eq_some_iff.1 b).1
    have hkl:k * sz + j < cur'.size:=by
      have h1:(k + 1) * sz≤rows'.length * sz:=Nat.mul_le_mul_right _ hk
      have h2:rows'.length * sz≤cap' * sz:=Nat.mul_le_mul_right _ hn
      rw [Nat.add_mul] at h1; omega
  · simp [World.cell?,hc,hkl]
  · exact hmp _ _ (hrep k row j p _ a b (by simp [hkl]))
end
end Go.Proofs.YtfdolehffjmdmaaGreatDoor
/- Rows of plain cells: the kit's words on rows,and arrays of the calculus. -/
namespace Go.Proofs.YtfdolehffjmdmaaGreatDoor
open Go.RowKit
open Go.Sort (flatK putRowK HoldsK size_flatK get_flatK putCells mapBlock onCells)
structure Flat {α:Type} (pv:α→List PV) (enc:α→List Value) (k:Nat):Prop where
 k0:0 < k
 len:∀ a,(enc a).length=k
 lenp:∀ a,(pv a).length=k
 one:∀ a,∀ v ∈ enc a,v.oneCell'=true
 fit:∀ S w a (j:Nat) p,(pv a)[j]? = some p→RepP S w p ((enc a)[j]!)
 back:∀ S w a (j:Nat) p u,(pv a)[j]? = some p→RepP S w p u→u=(enc a)[j]!
section
variable {α:Type} [Inhabited α] {pv:α→List PV} {enc:α→List Value} {k:Nat}
theorem Flat.holds (F : Flat pv enc k) {S : Nat → Nat → Prop} {w : World} {g T : Nat} {cur : Array Value} (l : List α) (hc : w.heap[g]? = some (.cells cur T (0, 0)))
    (h:∀ (i:Nat) row (j:Nat) p,(l.map pv)[i]? = some row→row[j]? = some p→∃ y,cur[i * k + j]? = some y∧y.oneCell'=true∧RepP S w p y):HoldsK enc k w g 0 l.toArray:=by
  intro t ht
  rw [size_flatK] at ht
  rw [get_flatK _ _ _ _ ht]
  have k0:=F.k0
  have hi:t / k < l.length:=Nat.div_lt_of_lt_mul (by rw [Nat.mul_comm]; simpa using ht)
  have hj:t % k < k:=Nat.mod_lt _ k0
  have e:t / k * k + t % k=t:=by rw [Nat.mul_comm]; exact Nat.div_add_mod t k
  obtain ⟨y,h1,-,h3⟩:=h (t / k) (pv l[t / k]) (t % k) ((pv l[t / k])[t % k]'(by rw [F.lenp]; exact hj)) (by simp [hi]) (by rw [List.getElem?_eq_getElem (by rw [F.lenp]; exact hj)])
  have h4:=F.back _ _ _ _ _ _ (List.getElem?_eq_getElem (by rw [F.lenp]; exact hj)) h3
  rw [e] at h1
  have e2:l.toArray[t / k]! = l[t / k]:=by simp [hi]
  rw [e2,← h4]
  refine ⟨?_,?_⟩
  · simp [World.cell?,hc,h1]
  · simp [World.frozen?,hc]
theorem row_world (enc : α → List Value) (k : Nat) (w : World) (g m : Nat) (d' : Array α) (os : Array Obj) {cur : Array Value} {T : TypeId} {fr : Nat × Nat} (hc : w.heap[g]? = some (.cells cur T fr)) :
    ∃ cur':Array Value,(sortWorldK enc k w g 0 m d' os).heap[g]? = some (.cells cur' T fr)∧cur'.size=cur.size ∧
      (∀ t y,t < d'.size * k→cur'[t]? = some y→y=(flatK enc k d')[t]!)∧Step w (sortWorldK enc k w g 0 m d' os) (fun b=>b=g):=by
  have hlt:g < w.heap.size:=(Array.getElem?_eq_some_iff.1 hc).1
  have hh:(sortWorldK enc k w g 0 m d' os).heap=w.heap.modify g (onCells (putCells id 0 (flatK enc k d'))) ++ os:=rfl
  refine ⟨putCells id 0 (flatK enc k d') cur,?_,by simp [putCells],fun t y ht hy=>?_,?_⟩
  · rw [hh,Array.getElem?_append_left (by simpa using hlt),Array.getElem?_modify,if_pos rfl,hc]
    rfl
  · rw [putCells,Array.getElem?_mapIdx] at hy
    cases hcu:cur[t]? with
    | none=>rw [hcu] at hy; cases hy
    | some z =>
      rw [hcu,Option.map_some,if_pos ⟨Nat.zero_le _,by rw [size_flatK]; omega⟩] at hy
      exact (Option.some.inj hy).symm
  · refine ⟨by rw [hh]; simp,rfl,rfl,rfl,fun b hb hne=>?_⟩
    rw [hh,Array.getElem?_append_left (by simpa using hb),Array.getElem?_modify,if_neg (fun e=>hne e.symm)]
theorem Flat.rep (F : Flat pv enc k) {S : Nat → Nat → Prop} {w : World} {d' : Array α} {cur' : Array Value} (h : ∀ t y, t < d'.size * k → cur'[t]? = some y → y = (flatK enc k d')[t]!) {l : List α} (n : Nat) (hl : ∀ i, i < n → l[i]? = some d'[i]!) (hn : l.length = n) (hnd : n ≤ d'.size) :
    ∀ (i:Nat) row (j:Nat) p u,(l.map pv)[i]? = some row→row[j]? = some p→cur'[i * k + j]? = some u→u.oneCell'=true∧RepP S w p u:=by
  intro i row j p u a b c
  have k0:=F.k0
  rw [List.getElem?_map] at a
  obtain ⟨y,hy,rfl⟩:=Option.map_eq_some_iff.1 a
  have hi:i < n:=by rw [← hn]; exact (List.getElem?_eq_some_iff.1 hy).1
  have hj:j < k:=by rw [← F.lenp y]; exact (List.getElem?_eq_some_iff.1 b).1
  rw [hl i hi] at hy
  have ht:i * k + j < d'.size * k:=by
    have:(i + 1) * k≤d'.size * k:=Nat.mul_le_mul_right _ (by omega)
    rw [Nat.add_mul] at this; omega
  have hu:=h _ _ ht c
  rw [get_flatK _ _ _ _ ht] at hu
  have e1:(i * k + j) / k=i:=by rw [Nat.mul_comm,Nat.mul_add_div k0,Nat.div_eq_of_lt hj]; rfl
  have e2:(i * k + j) % k=j:=by rw [Nat.mul_comm,Nat.mul_add_mod,Nat.mod_eq_of_lt hj]
  rw [e1,e2,Option.some.inj hy] at hu
  subst hu
  refine ⟨F.one y _ ?_,F.fit _ _ _ _ _ b⟩
  rw [getElem!_pos _ j (by rw [F.len]; exact hj)]
  exact List.getElem_mem _
end
end Go.Proofs.YtfdolehffjmdmaaGreatDoor
/- The lowered code of this seat's functions (printed by a program). -/
namespace Go.Proofs.YtfdolehffjmdmaaGreatDoor
def LOper.q (d:Nat) (o:LOp):LOper:=⟨some d,o,none,true⟩
def LOper.z (d:Nat) (o:LOp):LOper:=⟨some d,o,none,false⟩
def LOper.s (o:LOp):LOper:=⟨none,o,none,true⟩
def LOper.g (d:Nat) (o:LOp) (t:Nat) (b:Bool):LOper:=⟨some d,o,some (t,b),true⟩
def LOper.y (d:Nat) (o:LOp) (t:Nat) (b:Bool):LOper:=⟨some d,o,some (t,b),false⟩
attribute [go_sem] LOper.q LOper.z LOper.s LOper.g LOper.y eq_self
set_option maxRecDepth 100000 in
def L8:LC:=(.seq (.reg none [.q 2 (.mv (.val (.bool false)))]) (.seq (.reg none [.q 11 (.mv (.tmp 0)),.q 12 (.call 24 [.tmp 11] 0),.q 10 (.mv (.tmp 12)),.q 13 (.ext 0 (.tmp 10)),.q 14 (.ext 1 (.tmp 10)),.q 15 (.ext 2 (.tmp 10)),.q 3 (.alloc [.nilsl,.nilsl]),.s (.store 2 (.tmp 3) (.tmp 13)),.q 4 (.mv (.tmp 14)),.q 5 (.mv (.tmp 15))]) (.seq (.seq (.reg none [.q 16 (.call 31 [] 0),.q 17 (.not (.tmp 16)),.q 18 (.mv (.tmp 17)),.g 19 (.call 33 [] 0) 18 false,.g 20 (.not (.tmp 19)) 18 false,.q 21 (.pick (.tmp 18) (.val (.bool true)) (.tmp 20))]) (.cond (.tmp 21) (.seq (.reg none [.q 2 (.mv (.val (.bool false)))]) .ret) .skip)) (.seq (.seq (.reg none [.q 22 (.mv (.tmp 5)),.q 23 (.bin .neq (.tmp 22) (.val (.int .i64 0)))]) (.cond (.tmp 23) (.seq (.reg none [.q 24 (.mv (.tmp 0)),.q 25 (.len false (.tmp 24)),.q 26 (.bin .gtr (.tmp 25) (.val (.int .i64 40))),.q 27 (.mv (.tmp 26)),.g 28 (.mv (.tmp 4)) 27 true,.g 29 (.len false (.tmp 28)) 27 true,.g 30 (.bin .eql (.tmp 29) (.val (.int .i64 0))) 27 true,.q 31 (.pick (.tmp 27) (.tmp 30) (.val (.bool false))),.q 2 (.mv (.tmp 31))]) .ret) .skip)) (.seq (.reg none [.q 32 (.call 35 [] 0),.q 6 (.alloc [.nilsl,.nilsl]),.s (.store 2 (.tmp 6) (.tmp 32))]) (.seq (.seq (.reg none [.q 7 (.mv (.val (.int .i64 0)))]) (.block 0 (.loop (.seq (.seq (.reg none [.q 33 (.mv (.tmp 7)),.q 34 (.mv (.tmp 0)),.q 35 (.len false (.tmp 34)),.q 36 (.bin .lss (.tmp 33) (.tmp 35))]) (.cond (.tmp 36) .skip (.exit 0))) (.seq (.block 1 (.seq (.reg (some [(0,9),(3,9),(4,9),(5,9)]) [.z 40 (.load 2 true (.tmp 6)),.q 41 (.mv (.tmp 0)),.q 42 (.mv (.tmp 7)),.z 43 (.iaddrS 5 (.tmp 41) (.tmp 42)),.z 44 (.load 5 true (.tmp 43)),.z 45 (.call 36 [.tmp 40,.tmp 44] 0),.q 39 (.mv (.tmp 45)),.q 46 (.ext 0 (.tmp 39)),.q 47 (.ext 1 (.tmp 39)),.z 8 (.alloc [.nilsl,.nilsl]),.s (.store 2 (.tmp 8) (.tmp 46)),.q 9 (.mv (.tmp 47))]) (.seq (.seq (.reg none [.q 48 (.mv (.tmp 7)),.q 49 (.mv (.tmp 4)),.q 50 (.len false (.tmp 49)),.q 51 (.bin .geq (.tmp 48) (.tmp 50)),.q 52 (.mv (.tmp 51)),.g 53 (.mv (.tmp 9)) 52 false,.g 54 (.mv (.tmp 4)) 52 false,.g 55 (.mv (.tmp 7)) 52 false,.g 56 (.iaddrS 1 (.tmp 54) (.tmp 55)) 52 false,.g 57 (.load 1 false (.tmp 56)) 52 false,.g 58 (.bin .neq (.tmp 53) (.tmp 57)) 52 false,.q 59 (.pick (.tmp 52) (.val (.bool true)) (.tmp 58))]) (.cond (.tmp 59) (.seq (.reg none [.q 2 (.mv (.val (.bool false)))]) .ret) .skip)) (.seq (.reg none [.q 60 (.mv (.tmp 9)),.q 61 (.bin .eql (.tmp 60) (.val (.int .i64 0)))]) (.cond (.tmp 61) (.reg none [.q 62 (.load 2 true (.tmp 8)),.s (.store 2 (.tmp 6) (.tmp 62))]) .skip))))) (.reg none [.q 37 (.mv (.tmp 7)),.q 38 (.bin .add (.tmp 37) (.val (.int .i64 1))),.q 7 (.mv (.tmp 38))])))))) (.seq (.reg none [.q 63 (.mv (.tmp 4)),.q 64 (.len false (.tmp 63)),.q 65 (.mv (.tmp 0)),.q 66 (.len false (.tmp 65)),.q 67 (.bin .eql (.tmp 64) (.tmp 66)),.q 68 (.mv (.tmp 67)),.g 69 (.load 2 true (.tmp 3)) 68 true,.g 70 (.load 2 true (.tmp 6)) 68 true,.g 71 (.call 37 [.tmp 69,.tmp 70] 0) 68 true,.q 72 (.pick (.tmp 68) (.tmp 71) (.val (.bool false))),.q 2 (.mv (.tmp 72))]) .ret)))))))
def R8:List LRes := [.tmp 2]
theorem low8:Tryz.f8.body.bind (lowerCode Tryz.prog 73)=some L8:=by kernel_rfl
theorem res8:lowerRes Tryz.prog Tryz.f8.results.toList=some R8:=by kernel_rfl
set_option maxRecDepth 100000 in
def L9:LC:=(.seq (.reg none [.q 4 (.mv (.val .nilsl)),.q 5 (.mv (.val (.int .i64 0)))]) (.seq (.reg none [.q 7 (.mv (.tmp 0)),.q 8 (.call 21 [.tmp 7] 0),.q 6 (.mv (.tmp 8))]) (.seq (.seq (.reg none [.q 9 (.mv (.tmp 6)),.q 10 (.bin .eql (.tmp 9) (.val (.int .i64 0))),.q 11 (.mv (.tmp 10)),.g 12 (.mv (.tmp 1)) 11 true,.g 13 (.call 38 [.tmp 12] 0) 11 true,.g 14 (.not (.tmp 13)) 11 true,.q 15 (.pick (.tmp 11) (.tmp 14) (.val (.bool false)))]) (.cond (.tmp 15) (.reg none [.q 6 (.mv (.val (.int .i64 3)))]) .skip)) (.seq (.seq (.reg none [.q 16 (.mv (.tmp 6)),.q 17 (.bin .neq (.tmp 16) (.val (.int .i64 0)))]) (.cond (.tmp 17) (.seq (.reg none [.q 18 (.mv (.tmp 6)),.q 4 (.mv (.val .nilsl)),.q 5 (.mv (.tmp 18))]) .ret) .skip)) (.seq (.reg none [.q 19 (.mv (.tmp 0)),.q 20 (.mv (.tmp 1)),.q 21 (.call 39 [.tmp 19,.tmp 20] 0),.q 4 (.mv (.tmp 21)),.q 5 (.mv (.val (.int .i64 0)))]) .ret)))))
def R9:List LRes := [.tmp 4,.tmp 5]
theorem low9:Tryz.f9.body.bind (lowerCode Tryz.prog 22)=some L9:=by kernel_rfl
theorem res9:lowerRes Tryz.prog Tryz.f9.results.toList=some R9:=by kernel_rfl
set_option maxRecDepth 100000 in
def L11:LC:=(.seq (.reg none [.q 2 (.mv (.val (.int .i64 0))),.q 3 (.mv (.val (.str ⟨#[]⟩))),.q 4 (.mv (.val (.str ⟨#[]⟩))),.q 5 (.mv (.val (.int .i64 0)))]) (.seq (.reg none [.q 8 (.mv (.tmp 0)),.q 9 (.call 43 [.tmp 8,.val (.str ⟨#[32]⟩)] 0),.q 6 (.mv (.tmp 9))]) (.seq (.reg none [.q 10 (.mv (.tmp 6)),.q 11 (.slc 1 (.tmp 10) (some (.val (.int .i64 1))) none),.q 12 (.call 44 [.tmp 11,.val (.clo 45 [])] 0),.q 7 (.mv (.tmp 12))]) (.seq (.block 0 (.seq (.reg none [.q 14 (.mv (.tmp 7)),.q 13 (.mv (.tmp 14))]) (.cond (.tmp 13) .skip (.seq (.reg none [.q 16 (.mv (.tmp 6)),.q 17 (.len false (.tmp 16)),.q 18 (.bin .eql (.tmp 17) (.val (.int .i64 3))),.q 19 (.mv (.tmp 18)),.g 20 (.mv (.tmp 6)) 19 true,.g 21 (.iaddrS 1 (.tmp 20) (.val (.int .i64 0))) 19 true,.g 22 (.load 1 false (.tmp 21)) 19 true,.g 23 (.bin .eql (.tmp 22) (.val (.str ⟨#[112,117,116]⟩))) 19 true,.q 24 (.pick (.tmp 19) (.tmp 23) (.val (.bool false))),.q 15 (.mv (.tmp 24))]) (.cond (.tmp 15) (.seq (.reg (some []) [.q 25 (.mv (.tmp 6)),.z 26 (.iaddrS 1 (.tmp 25) (.val (.int .i64 1))),.z 27 (.load 1 false (.tmp 26)),.q 28 (.mv (.tmp 6)),.z 29 (.iaddrS 1 (.tmp 28) (.val (.int .i64 2))),.z 30 (.load 1 false (.tmp 29)),.q 2 (.mv (.val (.int .i64 1))),.q 3 (.mv (.tmp 27)),.q 4 (.mv (.tmp 30)),.q 5 (.mv (.val (.int .i64 0)))]) .ret) (.seq (.reg none [.q 32 (.mv (.tmp 6)),.q 33 (.len false (.tmp 32)),.q 34 (.bin .eql (.tmp 33) (.val (.int .i64 2))),.q 35 (.mv (.tmp 34)),.g 36 (.mv (.tmp 6)) 35 true,.g 37 (.iaddrS 1 (.tmp 36) (.val (.int .i64 0))) 35 true,.g 38 (.load 1 false (.tmp 37)) 35 true,.g 39 (.bin .eql (.tmp 38) (.val (.str ⟨#[100,114,111,112]⟩))) 35 true,.q 40 (.pick (.tmp 35) (.tmp 39) (.val (.bool false))),.q 31 (.mv (.tmp 40))]) (.cond (.tmp 31) (.seq (.reg (some []) [.q 41 (.mv (.tmp 6)),.q 42 (.iaddrS 1 (.tmp 41) (.val (.int .i64 1))),.q 43 (.load 1 false (.tmp 42)),.q 2 (.mv (.val (.int .i64 2))),.q 3 (.mv (.tmp 43)),.q 4 (.mv (.val (.str ⟨#[]⟩))),.q 5 (.mv (.val (.int .i64 0)))]) .ret) .skip))))))) (.seq (.reg none [.q 2 (.mv (.val (.int .i64 0))),.q 3 (.mv (.val (.str ⟨#[]⟩))),.q 4 (.mv (.val (.str ⟨#[]⟩))),.q 5 (.mv (.val (.int .i64 1)))]) .ret)))))
def R11:List LRes := [.tmp 2,.tmp 3,.tmp 4,.tmp 5]
theorem low11:Tryz.f11.body.bind (lowerCode Tryz.prog 44)=some L11:=by kernel_rfl
theorem res11:lowerRes Tryz.prog Tryz.f11.results.toList=some R11:=by kernel_rfl
set_option maxRecDepth 100000 in
def L21:LC:=(.seq (.reg none [.q 2 (.mv (.val (.int .i64 0)))]) (.seq (.seq (.reg none [.q 6 (.mv (.tmp 0)),.q 7 (.len false (.tmp 6)),.q 8 (.bin .gtr (.tmp 7) (.val (.int .i64 40)))]) (.cond (.tmp 8) (.seq (.reg none [.q 2 (.mv (.val (.int .i64 2)))]) .ret) .skip)) (.seq (.seq (.reg none [.q 9 (.mv (.tmp 0)),.q 10 (.len false (.tmp 9)),.q 11 (.mv (.val (.int .i64 0)))]) (.block 0 (.loop (.seq (.reg none [.q 12 (.bin .lss (.tmp 11) (.tmp 10))]) (.seq (.cond (.tmp 12) .skip (.exit 0)) (.seq (.block 1 (.seq (.reg none [.q 13 (.mv (.tmp 11)),.q 14 (.iaddrS 5 (.tmp 9) (.tmp 11)),.q 15 (.load 5 true (.tmp 14)),.q 4 (.alloc [.int .i64 0,.int .i64 0,.int .i64 0,.str ⟨#[]⟩,.nilsl]),.q 3 (.mv (.tmp 13)),.s (.store 5 (.tmp 4) (.tmp 15))]) (.seq (.seq (.reg none [.q 16 (.load 5 true (.tmp 4)),.q 17 (.call 59 [.tmp 16] 0),.q 5 (.mv (.tmp 17))]) (.seq (.reg none [.q 18 (.mv (.tmp 5)),.q 19 (.bin .neq (.tmp 18) (.val (.int .i64 0)))]) (.cond (.tmp 19) (.seq (.reg none [.q 20 (.mv (.tmp 5)),.q 2 (.mv (.tmp 20))]) .ret) .skip))) (.block 2 (.seq (.reg (some []) [.q 22 (.mv (.tmp 0)),.q 23 (.mv (.tmp 3)),.z 24 (.slc 5 (.tmp 22) none (some (.tmp 23))),.z 25 (.addr 0 (.tmp 4)),.z 26 (.load 2 true (.tmp 25)),.q 27 (.call 60 [.tmp 24,.tmp 26] 0),.q 28 (.bin .geq (.tmp 27) (.val (.int .i64 0))),.q 21 (.mv (.tmp 28))]) (.cond (.tmp 21) (.seq (.reg none [.q 2 (.mv (.val (.int .i64 6)))]) .ret) (.seq (.reg (some []) [.q 30 (.mv (.tmp 0)),.q 31 (.mv (.tmp 3)),.z 32 (.slc 5 (.tmp 30) none (some (.tmp 31))),.z 33 (.call 61 [.tmp 32] 0),.z 34 (.addr 0 (.tmp 4)),.z 35 (.addr 0 (.tmp 34)),.z 36 (.load 1 false (.tmp 35)),.q 37 (.idxA 1 2 false (.tmp 33) (.tmp 36)),.q 38 (.bin .add (.tmp 37) (.val (.int .i64 1))),.z 39 (.addr 0 (.tmp 4)),.z 40 (.addr 1 (.tmp 39)),.z 41 (.load 1 false (.tmp 40)),.q 42 (.bin .neq (.tmp 38) (.tmp 41)),.q 29 (.mv (.tmp 42))]) (.cond (.tmp 29) (.seq (.reg none [.q 2 (.mv (.val (.int .i64 4)))]) .ret) (.seq (.reg (some []) [.q 44 (.mv (.tmp 0)),.q 45 (.mv (.tmp 3)),.z 46 (.slc 5 (.tmp 44) none (some (.tmp 45))),.z 47 (.load 5 true (.tmp 4)),.q 48 (.call 62 [.tmp 46,.tmp 47] 0),.q 49 (.not (.tmp 48)),.q 43 (.mv (.tmp 49))]) (.cond (.tmp 43) (.seq (.reg none [.q 2 (.mv (.val (.int .i64 5)))]) .ret) .skip)))))))))) (.reg none [.q 50 (.bin .add (.tmp 11) (.val (.int .i64 1))),.q 11 (.mv (.tmp 50))]))))))) (.seq (.reg none [.q 2 (.mv (.val (.int .i64 0)))]) .ret))))
def R21:List LRes := [.tmp 2]
theorem low21:Tryz.f21.body.bind (lowerCode Tryz.prog 51)=some L21:=by kernel_rfl
theorem res21:lowerRes Tryz.prog Tryz.f21.results.toList=some R21:=by kernel_rfl
set_option maxRecDepth 100000 in
def L23:LC:=(.seq (.reg none [.q 3 (.box (.tmp 0)),.q 6 (.alloc [.int .i64 0,.nilsl,.nilsl]),.q 7 (.alloc [.int .i64 0,.int .i64 0,.int .i64 0,.str ⟨#[]⟩,.nilsl]),.q 8 (.mv (.val (.int .i64 0)))]) (.seq (.seq (.reg none [.q 10 (.load 3 true (.tmp 3)),.q 11 (.call 65 [.tmp 10] 0),.q 9 (.mv (.tmp 11))]) (.seq (.reg none [.q 12 (.mv (.tmp 9)),.q 13 (.bin .neq (.tmp 12) (.val (.int .i64 0)))]) (.cond (.tmp 13) (.seq (.reg none [.q 14 (.build [.int .i64 0,.nilsl,.nilsl] []),.q 15 (.build [.int .i64 0,.int .i64 0,.int .i64 0,.str ⟨#[]⟩,.nilsl] []),.q 16 (.mv (.tmp 9)),.s (.store 3 (.tmp 6) (.tmp 14)),.s (.store 5 (.tmp 7) (.tmp 15)),.q 8 (.mv (.tmp 16))]) .ret) .skip))) (.seq (.reg none [.q 17 (.load 3 true (.tmp 3)),.q 18 (.mv (.tmp 1)),.q 19 (.mv (.tmp 2)),.q 20 (.call 66 [.tmp 17,.tmp 18,.tmp 19] 0),.q 21 (.ext 0 (.tmp 20)),.q 22 (.ext 1 (.tmp 20)),.q 23 (.ext 2 (.tmp 20)),.s (.store 3 (.tmp 6) (.tmp 21)),.s (.store 5 (.tmp 7) (.tmp 22)),.q 8 (.mv (.tmp 23))]) .ret)))
def R23:List LRes := [(.cell 6 3 true),(.cell 7 5 true),.tmp 8]
theorem low23:Tryz.f23.body.bind (lowerCode Tryz.prog 24)=some L23:=by kernel_rfl
theorem res23:lowerRes Tryz.prog Tryz.f23.results.toList=some R23:=by kernel_rfl
set_option maxRecDepth 100000 in
def L24:LC:=(.seq (.reg none [.q 2 (.alloc [.nilsl,.nilsl]),.q 3 (.mv (.val .nilsl)),.q 4 (.mv (.val (.int .i64 0)))]) (.seq (.seq (.reg none [.q 8 (.mv (.tmp 0)),.q 9 (.len false (.tmp 8)),.q 10 (.bin .gtr (.tmp 9) (.val (.int .i64 40)))]) (.cond (.tmp 10) (.seq (.reg none [.q 11 (.build [.nilsl,.nilsl] []),.s (.store 2 (.tmp 2) (.tmp 11)),.q 3 (.mv (.val .nilsl)),.q 4 (.mv (.val (.int .i64 2)))]) .ret) .skip)) (.seq (.reg none [.q 12 (.call 35 [] 0),.q 13 (.build [.nilsl,.nilsl,.nilsl] [(0,(2,(.tmp 12)))]),.q 14 (.box (.tmp 13)),.q 5 (.mv (.tmp 14))]) (.seq (.seq (.reg none [.q 15 (.mv (.tmp 0)),.q 16 (.len false (.tmp 15)),.q 17 (.mv (.val (.int .i64 0)))]) (.block 0 (.loop (.seq (.reg none [.q 18 (.bin .lss (.tmp 17) (.tmp 16))]) (.seq (.cond (.tmp 18) .skip (.exit 0)) (.seq (.block 1 (.seq (.reg none [.q 19 (.iaddrS 5 (.tmp 15) (.tmp 17)),.q 20 (.load 5 true (.tmp 19)),.q 7 (.alloc [.int .i64 0,.int .i64 0,.int .i64 0,.int .i64 0,.str ⟨#[]⟩]),.s (.store 5 (.tmp 7) (.tmp 20))]) (.reg none [.q 21 (.mv (.tmp 5)),.q 22 (.load 5 true (.tmp 7)),.q 23 (.call 67 [.tmp 21,.tmp 22] 0)]))) (.reg none [.q 24 (.bin .add (.tmp 17) (.val (.int .i64 1))),.q 17 (.mv (.tmp 24))]))))))) (.seq (.reg (some [(5,8),(6,8),(7,8)]) [.q 25 (.mv (.tmp 5)),.z 26 (.nilchk (.tmp 25)),.z 27 (.addr 0 (.tmp 26)),.z 28 (.load 2 true (.tmp 27)),.q 29 (.mv (.tmp 5)),.z 30 (.nilchk (.tmp 29)),.z 31 (.addr 2 (.tmp 30)),.z 32 (.load 1 false (.tmp 31)),⟨none,(.store 2 (.tmp 2) (.tmp 28)),none,false⟩,.q 3 (.mv (.tmp 32)),.q 4 (.mv (.val (.int .i64 0)))]) .ret)))))
def R24:List LRes := [(.cell 2 2 true),.tmp 3,.tmp 4]
theorem low24:Tryz.f24.body.bind (lowerCode Tryz.prog 33)=some L24:=by kernel_rfl
theorem res24:lowerRes Tryz.prog Tryz.f24.results.toList=some R24:=by kernel_rfl
set_option maxRecDepth 100000 in
def L25:LC:=(.seq (.reg none [.q 4 (.mv (.val (.str ⟨#[]⟩))),.q 5 (.mv (.val (.int .i64 0)))]) (.seq (.reg none [.q 9 (.mv (.tmp 0)),.q 10 (.mv (.tmp 1)),.q 11 (.call 9 [.tmp 9,.tmp 10] 0),.q 8 (.mv (.tmp 11)),.q 12 (.ext 0 (.tmp 8)),.q 13 (.ext 1 (.tmp 8)),.q 6 (.mv (.tmp 12)),.q 7 (.mv (.tmp 13))]) (.seq (.seq (.reg none [.q 14 (.mv (.tmp 7)),.q 15 (.bin .neq (.tmp 14) (.val (.int .i64 0)))]) (.cond (.tmp 15) (.seq (.reg none [.q 16 (.mv (.tmp 7)),.q 4 (.mv (.val (.str ⟨#[]⟩))),.q 5 (.mv (.tmp 16))]) .ret) .skip)) (.seq (.reg none [.q 17 (.mv (.tmp 6)),.q 18 (.call 68 [.tmp 17] 0),.q 4 (.mv (.tmp 18)),.q 5 (.mv (.val (.int .i64 0)))]) .ret))))
def R25:List LRes := [.tmp 4,.tmp 5]
theorem low25:Tryz.f25.body.bind (lowerCode Tryz.prog 19)=some L25:=by kernel_rfl
theorem res25:lowerRes Tryz.prog Tryz.f25.results.toList=some R25:=by kernel_rfl
set_option maxRecDepth 100000 in
def L26:LC:=(.seq (.reg none [.q 2 (.box (.tmp 0)),.q 4 (.mv (.val (.bool false))),.q 5 (.mv (.val (.int .i64 0)))]) (.seq (.reg none [.q 7 (.load 2 true (.tmp 2)),.q 8 (.call 69 [.tmp 7] 0),.q 6 (.mv (.tmp 8))]) (.seq (.seq (.reg none [.q 9 (.mv (.tmp 6)),.q 10 (.bin .eql (.tmp 9) (.val (.int .i64 0))),.q 11 (.mv (.tmp 10)),.g 12 (.mv (.tmp 1)) 11 true,.g 13 (.call 38 [.tmp 12] 0) 11 true,.g 14 (.not (.tmp 13)) 11 true,.q 15 (.pick (.tmp 11) (.tmp 14) (.val (.bool false)))]) (.cond (.tmp 15) (.reg none [.q 6 (.mv (.val (.int .i64 3)))]) .skip)) (.seq (.seq (.reg none [.q 16 (.mv (.tmp 6)),.q 17 (.bin .neq (.tmp 16) (.val (.int .i64 0)))]) (.cond (.tmp 17) (.seq (.reg none [.q 18 (.mv (.tmp 6)),.q 4 (.mv (.val (.bool false))),.q 5 (.mv (.tmp 18))]) .ret) .skip)) (.seq (.reg (some []) [.z 19 (.addr 0 (.tmp 2)),.z 20 (.load 1 false (.tmp 19)),.z 21 (.iaddrS 3 (.tmp 20) (.val (.int .i64 0))),.z 22 (.addr 1 (.tmp 21)),.z 23 (.load 1 false (.tmp 22)),.q 24 (.mv (.tmp 1)),.z 25 (.call 39 [.tmp 23,.tmp 24] 0),.z 26 (.call 68 [.tmp 25] 0),.z 27 (.addr 0 (.tmp 2)),.z 28 (.load 1 false (.tmp 27)),.z 29 (.iaddrS 3 (.tmp 28) (.val (.int .i64 1))),.z 30 (.addr 1 (.tmp 29)),.z 31 (.load 1 false (.tmp 30)),.q 32 (.mv (.tmp 1)),.q 33 (.call 39 [.tmp 31,.tmp 32] 0),.q 34 (.call 68 [.tmp 33] 0),.q 35 (.bin .eql (.tmp 26) (.tmp 34)),.q 4 (.mv (.tmp 35)),.q 5 (.mv (.val (.int .i64 0)))]) .ret)))))
def R26:List LRes := [.tmp 4,.tmp 5]
theorem low26:Tryz.f26.body.bind (lowerCode Tryz.prog 36)=some L26:=by kernel_rfl
theorem res26:lowerRes Tryz.prog Tryz.f26.results.toList=some R26:=by kernel_rfl
set_option maxRecDepth 100000 in
def L31:LC:=(.seq (.reg none [.q 0 (.mv (.val (.bool false)))]) (.seq (.reg none [.q 13 (.call 77 [] 0),.q 14 (.call 24 [.tmp 13] 0),.q 12 (.mv (.tmp 14)),.q 15 (.ext 0 (.tmp 12)),.q 16 (.ext 1 (.tmp 12)),.q 17 (.ext 2 (.tmp 12)),.q 1 (.alloc [.nilsl,.nilsl]),.s (.store 2 (.tmp 1) (.tmp 15)),.q 2 (.mv (.tmp 16)),.q 3 (.mv (.tmp 17))]) (.seq (.reg none [.q 19 (.call 53 [] 0),.q 20 (.call 25 [.tmp 19,.val (.int .i64 3)] 0),.q 18 (.mv (.tmp 20)),.q 21 (.ext 0 (.tmp 18)),.q 22 (.ext 1 (.tmp 18)),.q 4 (.mv (.tmp 21)),.q 5 (.mv (.tmp 22))]) (.seq (.reg none [.q 24 (.load 2 true (.tmp 1)),.q 25 (.call 26 [.tmp 24,.val (.int .i64 1)] 0),.q 23 (.mv (.tmp 25)),.q 26 (.ext 0 (.tmp 23)),.q 27 (.ext 1 (.tmp 23)),.q 6 (.mv (.tmp 26)),.q 7 (.mv (.tmp 27))]) (.seq (.reg none [.q 29 (.load 2 true (.tmp 1)),.q 30 (.call 34 [.tmp 29] 0),.q 28 (.mv (.tmp 30)),.q 31 (.ext 0 (.tmp 28)),.q 32 (.ext 1 (.tmp 28)),.q 8 (.alloc [.nilsl,.nilsl]),.s (.store 2 (.tmp 8) (.tmp 31)),.q 9 (.mv (.tmp 32))]) (.seq (.reg none [.q 34 (.load 2 true (.tmp 8)),.q 35 (.call 26 [.tmp 34,.val (.int .i64 1)] 0),.q 33 (.mv (.tmp 35)),.q 36 (.ext 0 (.tmp 33)),.q 37 (.ext 1 (.tmp 33)),.q 10 (.mv (.tmp 36)),.q 11 (.mv (.tmp 37))]) (.seq (.reg none [.q 38 (.mv (.tmp 3)),.q 39 (.bin .eql (.tmp 38) (.val (.int .i64 0))),.q 40 (.mv (.tmp 39)),.g 41 (.mv (.tmp 5)) 40 true,.g 42 (.bin .eql (.tmp 41) (.val (.int .i64 0))) 40 true,.q 43 (.pick (.tmp 40) (.tmp 42) (.val (.bool false))),.q 44 (.mv (.tmp 43)),.g 45 (.mv (.tmp 7)) 44 true,.g 46 (.bin .eql (.tmp 45) (.val (.int .i64 0))) 44 true,.q 47 (.pick (.tmp 44) (.tmp 46) (.val (.bool false))),.q 48 (.mv (.tmp 47)),.g 49 (.mv (.tmp 9)) 48 true,.g 50 (.bin .eql (.tmp 49) (.val (.int .i64 0))) 48 true,.q 51 (.pick (.tmp 48) (.tmp 50) (.val (.bool false))),.q 52 (.mv (.tmp 51)),.g 53 (.mv (.tmp 11)) 52 true,.g 54 (.bin .eql (.tmp 53) (.val (.int .i64 0))) 52 true,.q 55 (.pick (.tmp 52) (.tmp 54) (.val (.bool false))),.q 56 (.mv (.tmp 55)),.g 57 (.mv (.tmp 2)) 56 true,.g 58 (.len false (.tmp 57)) 56 true,.g 59 (.bin .eql (.tmp 58) (.val (.int .i64 6))) 56 true,.q 60 (.pick (.tmp 56) (.tmp 59) (.val (.bool false))),.q 61 (.mv (.tmp 60)),.g 62 (.mv (.tmp 4)) 61 true,.g 63 (.bin .eql (.tmp 62) (.val (.str ⟨#[97,61,121,59,98,61,122,59]⟩))) 61 true,.q 64 (.pick (.tmp 61) (.tmp 63) (.val (.bool false))),.q 65 (.mv (.tmp 64)),.g 66 (.mv (.tmp 6)) 65 true,.g 67 (.not (.tmp 66)) 65 true,.q 68 (.pick (.tmp 65) (.tmp 67) (.val (.bool false))),.q 69 (.mv (.tmp 68)),.g 70 (.mv (.tmp 10)) 69 true,.q 71 (.pick (.tmp 69) (.tmp 70) (.val (.bool false))),.q 0 (.mv (.tmp 71))]) .ret)))))))
def R31:List LRes := [.tmp 0]
theorem low31:Tryz.f31.body.bind (lowerCode Tryz.prog 72)=some L31:=by kernel_rfl
theorem res31:lowerRes Tryz.prog Tryz.f31.results.toList=some R31:=by kernel_rfl
set_option maxRecDepth 100000 in
def L33:LC:=(.seq (.reg none [.q 0 (.mv (.val (.bool false)))]) (.seq (.reg none [.q 7 (.call 35 [] 0),.q 1 (.alloc [.nilsl,.nilsl]),.s (.store 2 (.tmp 1) (.tmp 7))]) (.seq (.seq (.reg none [.q 2 (.mv (.val (.int .i64 0)))]) (.block 0 (.loop (.seq (.seq (.reg none [.q 8 (.mv (.tmp 2)),.q 9 (.call 77 [] 0),.q 10 (.len false (.tmp 9)),.q 11 (.bin .lss (.tmp 8) (.tmp 10))]) (.cond (.tmp 11) .skip (.exit 0))) (.seq (.block 1 (.seq (.reg (some [(0,9),(1,9),(3,9),(4,9),(5,9)]) [.z 15 (.load 2 true (.tmp 1)),.z 16 (.call 77 [] 0),.q 17 (.mv (.tmp 2)),.z 18 (.iaddrS 5 (.tmp 16) (.tmp 17)),.z 19 (.load 5 true (.tmp 18)),.z 20 (.call 36 [.tmp 15,.tmp 19] 0),.q 14 (.mv (.tmp 20)),.q 21 (.ext 0 (.tmp 14)),.q 22 (.ext 1 (.tmp 14)),.z 3 (.alloc [.nilsl,.nilsl]),.s (.store 2 (.tmp 3) (.tmp 21)),.q 4 (.mv (.tmp 22))]) (.seq (.seq (.reg none [.q 23 (.mv (.tmp 4)),.q 24 (.bin .neq (.tmp 23) (.val (.int .i64 0)))]) (.cond (.tmp 24) (.seq (.reg none [.q 0 (.mv (.val (.bool false)))]) .ret) .skip)) (.reg none [.q 25 (.load 2 true (.tmp 3)),.s (.store 2 (.tmp 1) (.tmp 25))])))) (.reg none [.q 12 (.mv (.tmp 2)),.q 13 (.bin .add (.tmp 12) (.val (.int .i64 1))),.q 2 (.mv (.tmp 13))])))))) (.seq (.reg none [.q 27 (.load 2 true (.tmp 1)),.q 28 (.call 34 [.tmp 27] 0),.q 26 (.mv (.tmp 28)),.q 29 (.ext 0 (.tmp 26)),.q 30 (.ext 1 (.tmp 26)),.q 5 (.alloc [.nilsl,.nilsl]),.s (.store 2 (.tmp 5) (.tmp 29)),.q 6 (.mv (.tmp 30))]) (.seq (.reg none [.q 31 (.mv (.tmp 6)),.q 32 (.bin .eql (.tmp 31) (.val (.int .i64 0))),.q 33 (.mv (.tmp 32)),.g 34 (.load 2 true (.tmp 1)) 33 true,.g 35 (.call 69 [.tmp 34] 0) 33 true,.g 36 (.bin .eql (.tmp 35) (.val (.int .i64 0))) 33 true,.q 37 (.pick (.tmp 33) (.tmp 36) (.val (.bool false))),.q 38 (.mv (.tmp 37)),.g 39 (.addr 0 (.tmp 1)) 38 true,.g 40 (.load 1 false (.tmp 39)) 38 true,.g 41 (.len false (.tmp 40)) 38 true,.g 42 (.bin .eql (.tmp 41) (.val (.int .i64 2))) 38 true,.q 43 (.pick (.tmp 38) (.tmp 42) (.val (.bool false))),.q 44 (.mv (.tmp 43)),.g 45 (.addr 0 (.tmp 5)) 44 true,.g 46 (.load 1 false (.tmp 45)) 44 true,.g 47 (.len false (.tmp 46)) 44 true,.g 48 (.bin .eql (.tmp 47) (.val (.int .i64 2))) 44 true,.q 49 (.pick (.tmp 44) (.tmp 48) (.val (.bool false))),.q 50 (.mv (.tmp 49)),.g 51 (.addr 0 (.tmp 1)) 50 true,.g 52 (.load 1 false (.tmp 51)) 50 true,.g 53 (.iaddrS 3 (.tmp 52) (.val (.int .i64 0))) 50 true,.g 54 (.addr 1 (.tmp 53)) 50 true,.g 55 (.load 1 false (.tmp 54)) 50 true,.g 56 (.len false (.tmp 55)) 50 true,.g 57 (.bin .eql (.tmp 56) (.val (.int .i64 1))) 50 true,.q 58 (.pick (.tmp 50) (.tmp 57) (.val (.bool false))),.q 59 (.mv (.tmp 58)),.g 60 (.addr 0 (.tmp 1)) 59 true,.g 61 (.load 1 false (.tmp 60)) 59 true,.g 62 (.iaddrS 3 (.tmp 61) (.val (.int .i64 0))) 59 true,.g 63 (.addr 2 (.tmp 62)) 59 true,.g 64 (.load 1 false (.tmp 63)) 59 true,.g 65 (.len false (.tmp 64)) 59 true,.g 66 (.bin .eql (.tmp 65) (.val (.int .i64 1))) 59 true,.q 67 (.pick (.tmp 59) (.tmp 66) (.val (.bool false))),.q 68 (.mv (.tmp 67)),.g 69 (.addr 0 (.tmp 5)) 68 true,.g 70 (.load 1 false (.tmp 69)) 68 true,.g 71 (.iaddrS 3 (.tmp 70) (.val (.int .i64 0))) 68 true,.g 72 (.addr 1 (.tmp 71)) 68 true,.g 73 (.load 1 false (.tmp 72)) 68 true,.g 74 (.len false (.tmp 73)) 68 true,.g 75 (.bin .eql (.tmp 74) (.val (.int .i64 3))) 68 true,.q 76 (.pick (.tmp 68) (.tmp 75) (.val (.bool false))),.q 77 (.mv (.tmp 76)),.g 78 (.addr 0 (.tmp 5)) 77 true,.g 79 (.load 1 false (.tmp 78)) 77 true,.g 80 (.iaddrS 3 (.tmp 79) (.val (.int .i64 1))) 77 true,.g 81 (.addr 1 (.tmp 80)) 77 true,.g 82 (.load 1 false (.tmp 81)) 77 true,.g 83 (.len false (.tmp 82)) 77 true,.g 84 (.bin .eql (.tmp 83) (.val (.int .i64 3))) 77 true,.q 85 (.pick (.tmp 77) (.tmp 84) (.val (.bool false))),.q 0 (.mv (.tmp 85))]) .ret)))))
def R33:List LRes := [.tmp 0]
theorem low33:Tryz.f33.body.bind (lowerCode Tryz.prog 86)=some L33:=by kernel_rfl
theorem res33:lowerRes Tryz.prog Tryz.f33.results.toList=some R33:=by kernel_rfl
set_option maxRecDepth 100000 in
def L34:LC:=(.seq (.reg none [.q 1 (.box (.tmp 0)),.q 2 (.alloc [.nilsl,.nilsl]),.q 3 (.mv (.val (.int .i64 0)))]) (.seq (.seq (.reg none [.q 8 (.load 2 true (.tmp 1)),.q 9 (.call 69 [.tmp 8] 0),.q 4 (.mv (.tmp 9))]) (.seq (.reg none [.q 10 (.mv (.tmp 4)),.q 11 (.bin .neq (.tmp 10) (.val (.int .i64 0)))]) (.cond (.tmp 11) (.seq (.reg none [.q 12 (.build [.nilsl,.nilsl] []),.q 13 (.mv (.tmp 4)),.s (.store 2 (.tmp 2) (.tmp 12)),.q 3 (.mv (.tmp 13))]) .ret) .skip))) (.seq (.reg none [.q 14 (.load 2 true (.tmp 1)),.q 15 (.call 78 [.tmp 14] 0),.q 5 (.mv (.tmp 15))]) (.seq (.seq (.reg none [.q 16 (.mv (.val (.int .i64 0)))]) (.block 0 (.loop (.seq (.reg none [.q 17 (.bin .lss (.tmp 16) (.val (.int .i64 2)))]) (.seq (.cond (.tmp 17) .skip (.exit 0)) (.seq (.block 1 (.seq (.reg none [.q 18 (.mv (.tmp 16)),.q 6 (.mv (.tmp 18))]) (.seq (.reg none [.q 19 (.mv (.tmp 5)),.q 20 (.mv (.tmp 6)),.q 21 (.call 79 [.tmp 19,.tmp 20] 0),.q 7 (.mv (.tmp 21))]) (.seq (.reg none [.q 22 (.mv (.tmp 7)),.q 23 (.bin .neq (.tmp 22) (.val (.int .i64 0)))]) (.cond (.tmp 23) (.seq (.reg none [.q 24 (.build [.nilsl,.nilsl] []),.q 25 (.mv (.tmp 7)),.s (.store 2 (.tmp 2) (.tmp 24)),.q 3 (.mv (.tmp 25))]) .ret) .skip))))) (.reg none [.q 26 (.bin .add (.tmp 16) (.val (.int .i64 1))),.q 16 (.mv (.tmp 26))]))))))) (.seq (.reg none [.q 27 (.mv (.tmp 5)),.q 28 (.nilchk (.tmp 27)),.q 29 (.addr 0 (.tmp 28)),.q 30 (.load 2 true (.tmp 29)),.s (.store 2 (.tmp 2) (.tmp 30)),.q 3 (.mv (.val (.int .i64 0)))]) .ret)))))
def R34:List LRes := [(.cell 2 2 true),.tmp 3]
theorem low34:Tryz.f34.body.bind (lowerCode Tryz.prog 31)=some L34:=by kernel_rfl
theorem res34:lowerRes Tryz.prog Tryz.f34.results.toList=some R34:=by kernel_rfl
set_option maxRecDepth 100000 in
def L35:LC:=(.seq (.reg none [.q 0 (.alloc [.nilsl,.nilsl])]) (.seq (.reg none [.q 1 (.build [.int .i64 0,.nilsl,.nilsl] []),.q 2 (.build [.int .i64 0,.nilsl,.nilsl] [(0,(1,(.val (.int .i64 1))))]),.q 3 (.mks 3 [.int .i64 0,.nilsl,.nilsl] 2 [(0,(.tmp 1)),(1,(.tmp 2))]),.q 4 (.mkn 22 1 24 [.nilsl] (.val (.int .i64 2)) (.val (.int .i64 2))),.q 5 (.build [.nilsl,.nilsl] [(0,(1,(.tmp 3))),(1,(1,(.tmp 4)))]),.s (.store 2 (.tmp 0) (.tmp 5))]) .ret))
def R35:List LRes := [(.cell 0 2 true)]
theorem low35:Tryz.f35.body.bind (lowerCode Tryz.prog 6)=some L35:=by kernel_rfl
theorem res35:lowerRes Tryz.prog Tryz.f35.results.toList=some R35:=by kernel_rfl
set_option maxRecDepth 100000 in
def L36:LC:=(.seq (.reg none [.q 2 (.box (.tmp 0)),.q 3 (.box (.tmp 1)),.q 4 (.alloc [.nilsl,.nilsl]),.q 5 (.mv (.val (.int .i64 0)))]) (.seq (.seq (.reg none [.q 7 (.load 2 true (.tmp 2)),.q 8 (.call 69 [.tmp 7] 0),.q 6 (.mv (.tmp 8))]) (.seq (.reg none [.q 9 (.mv (.tmp 6)),.q 10 (.bin .neq (.tmp 9) (.val (.int .i64 0)))]) (.cond (.tmp 10) (.seq (.reg none [.q 11 (.build [.nilsl,.nilsl] []),.q 12 (.mv (.tmp 6)),.s (.store 2 (.tmp 4) (.tmp 11)),.q 5 (.mv (.tmp 12))]) .ret) .skip))) (.seq (.reg none [.q 13 (.load 2 true (.tmp 2)),.q 14 (.load 5 true (.tmp 3)),.q 15 (.call 80 [.tmp 13,.tmp 14] 0),.q 16 (.ext 0 (.tmp 15)),.q 17 (.ext 1 (.tmp 15)),.s (.store 2 (.tmp 4) (.tmp 16)),.q 5 (.mv (.tmp 17))]) .ret)))
def R36:List LRes := [(.cell 4 2 true),.tmp 5]
theorem low36:Tryz.f36.body.bind (lowerCode Tryz.prog 18)=some L36:=by kernel_rfl
theorem res36:lowerRes Tryz.prog Tryz.f36.results.toList=some R36:=by kernel_rfl
set_option maxRecDepth 100000 in
def L37:LC:=(.seq (.reg none [.q 2 (.box (.tmp 0)),.q 3 (.box (.tmp 1)),.q 4 (.mv (.val (.bool false)))]) (.seq (.seq (.reg none [.q 7 (.addr 0 (.tmp 2)),.q 8 (.load 1 false (.tmp 7)),.q 9 (.len false (.tmp 8)),.q 10 (.addr 0 (.tmp 3)),.q 11 (.load 1 false (.tmp 10)),.q 12 (.len false (.tmp 11)),.q 13 (.bin .neq (.tmp 9) (.tmp 12)),.q 14 (.mv (.tmp 13)),.g 15 (.addr 1 (.tmp 2)) 14 false,.g 16 (.load 1 false (.tmp 15)) 14 false,.g 17 (.len false (.tmp 16)) 14 false,.g 18 (.addr 1 (.tmp 3)) 14 false,.g 19 (.load 1 false (.tmp 18)) 14 false,.g 20 (.len false (.tmp 19)) 14 false,.g 21 (.bin .neq (.tmp 17) (.tmp 20)) 14 false,.q 22 (.pick (.tmp 14) (.val (.bool true)) (.tmp 21))]) (.cond (.tmp 22) (.seq (.reg none [.q 4 (.mv (.val (.bool false)))]) .ret) .skip)) (.seq (.seq (.reg none [.q 5 (.mv (.val (.int .i64 0)))]) (.block 0 (.loop (.seq (.seq (.reg none [.q 23 (.mv (.tmp 5)),.q 24 (.addr 0 (.tmp 2)),.q 25 (.load 1 false (.tmp 24)),.q 26 (.len false (.tmp 25)),.q 27 (.bin .lss (.tmp 23) (.tmp 26))]) (.cond (.tmp 27) .skip (.exit 0))) (.seq (.block 1 (.seq (.reg (some []) [.z 30 (.addr 0 (.tmp 2)),.z 31 (.load 1 false (.tmp 30)),.q 32 (.mv (.tmp 5)),.z 33 (.iaddrS 3 (.tmp 31) (.tmp 32)),.z 34 (.load 3 true (.tmp 33)),.z 35 (.addr 0 (.tmp 3)),.z 36 (.load 1 false (.tmp 35)),.q 37 (.mv (.tmp 5)),.z 38 (.iaddrS 3 (.tmp 36) (.tmp 37)),.z 39 (.load 3 true (.tmp 38)),.q 40 (.call 81 [.tmp 34,.tmp 39] 0),.q 41 (.not (.tmp 40))]) (.cond (.tmp 41) (.seq (.reg none [.q 4 (.mv (.val (.bool false)))]) .ret) .skip))) (.reg none [.q 28 (.mv (.tmp 5)),.q 29 (.bin .add (.tmp 28) (.val (.int .i64 1))),.q 5 (.mv (.tmp 29))])))))) (.seq (.seq (.reg none [.q 6 (.mv (.val (.int .i64 0)))]) (.block 2 (.loop (.seq (.seq (.reg none [.q 42 (.mv (.tmp 6)),.q 43 (.addr 1 (.tmp 2)),.q 44 (.load 1 false (.tmp 43)),.q 45 (.len false (.tmp 44)),.q 46 (.bin .lss (.tmp 42) (.tmp 45))]) (.cond (.tmp 46) .skip (.exit 2))) (.seq (.block 3 (.seq (.reg (some []) [.z 49 (.addr 1 (.tmp 2)),.z 50 (.load 1 false (.tmp 49)),.q 51 (.mv (.tmp 6)),.z 52 (.iaddrS 1 (.tmp 50) (.tmp 51)),.z 53 (.load 1 false (.tmp 52)),.z 54 (.addr 1 (.tmp 3)),.z 55 (.load 1 false (.tmp 54)),.q 56 (.mv (.tmp 6)),.z 57 (.iaddrS 1 (.tmp 55) (.tmp 56)),.z 58 (.load 1 false (.tmp 57)),.q 59 (.call 82 [.tmp 53,.tmp 58] 0),.q 60 (.not (.tmp 59))]) (.cond (.tmp 60) (.seq (.reg none [.q 4 (.mv (.val (.bool false)))]) .ret) .skip))) (.reg none [.q 47 (.mv (.tmp 6)),.q 48 (.bin .add (.tmp 47) (.val (.int .i64 1))),.q 6 (.mv (.tmp 48))])))))) (.seq (.reg none [.q 4 (.mv (.val (.bool true)))]) .ret)))))
def R37:List LRes := [.tmp 4]
theorem low37:Tryz.f37.body.bind (lowerCode Tryz.prog 61)=some L37:=by kernel_rfl
theorem res37:lowerRes Tryz.prog Tryz.f37.results.toList=some R37:=by kernel_rfl
set_option maxRecDepth 100000 in
def L38:LC:=(.seq (.reg none [.q 2 (.mv (.val (.bool false)))]) (.seq (.reg none [.q 3 (.mv (.tmp 0)),.q 4 (.call 83 [.tmp 3,.val (.int .i64 1),.val (.int .i64 7)] 0),.q 2 (.mv (.tmp 4))]) .ret))
def R38:List LRes := [.tmp 2]
theorem low38:Tryz.f38.body.bind (lowerCode Tryz.prog 5)=some L38:=by kernel_rfl
theorem res38:lowerRes Tryz.prog Tryz.f38.results.toList=some R38:=by kernel_rfl
set_option maxRecDepth 100000 in
def L39:LC:=(.seq (.reg none [.q 4 (.mv (.val .nilsl))]) (.seq (.reg none [.q 12 (.mv (.tmp 0)),.q 13 (.call 84 [.tmp 12] 0),.q 5 (.alloc [.nilp]),.s (.store 1 (.tmp 5) (.tmp 13))]) (.seq (.reg none [.q 14 (.mv (.tmp 0)),.q 15 (.mv (.tmp 1)),.q 16 (.call 85 [.tmp 14,.tmp 15] 0),.q 6 (.alloc [.nilsl]),.s (.store 1 (.tmp 6) (.tmp 16))]) (.seq (.reg none [.q 17 (.load 1 false (.tmp 6)),.q 18 (.call 87 [.tmp 17] 0),.q 19 (.clo 88 [.tmp 6,.tmp 5]),.q 20 (.call 86 [.tmp 18,.tmp 19] 1),.q 7 (.mv (.tmp 20))]) (.seq (.reg none [.q 21 (.mv (.tmp 7)),.q 22 (.call 92 [.tmp 21,.val (.clo 93 [])] 1)]) (.seq (.reg none [.q 8 (.mv (.val .nilsl))]) (.seq (.seq (.reg none [.q 23 (.mv (.tmp 7)),.q 24 (.len false (.tmp 23)),.q 25 (.mv (.val (.int .i64 0)))]) (.block 0 (.loop (.seq (.reg none [.q 26 (.bin .lss (.tmp 25) (.tmp 24))]) (.seq (.cond (.tmp 26) .skip (.exit 0)) (.seq (.block 1 (.seq (.reg none [.q 27 (.iaddrS 5 (.tmp 23) (.tmp 25)),.q 28 (.load 5 true (.tmp 27)),.q 10 (.alloc [.int .i64 0,.int .i64 0,.str ⟨#[]⟩,.str ⟨#[]⟩,(.bool false)]),.s (.store 5 (.tmp 10) (.tmp 28))]) (.seq (.reg none [.q 29 (.mv (.tmp 8)),.q 30 (.len false (.tmp 29)),.q 31 (.bin .sub (.tmp 30) (.val (.int .i64 1))),.q 11 (.mv (.tmp 31))]) (.block 2 (.seq (.reg (some []) [.q 33 (.mv (.tmp 11)),.q 34 (.bin .lss (.tmp 33) (.val (.int .i64 0))),.q 35 (.mv (.tmp 34)),.g 36 (.mv (.tmp 8)) 35 false,.g 37 (.mv (.tmp 11)) 35 false,.y 38 (.iaddrS 2 (.tmp 36) (.tmp 37)) 35 false,.y 39 (.addr 0 (.tmp 38)) 35 false,.y 40 (.load 1 false (.tmp 39)) 35 false,.y 41 (.addr 2 (.tmp 10)) 35 false,.y 42 (.load 1 false (.tmp 41)) 35 false,.g 43 (.bin .neq (.tmp 40) (.tmp 42)) 35 false,.q 44 (.pick (.tmp 35) (.val (.bool true)) (.tmp 43)),.q 32 (.mv (.tmp 44))]) (.cond (.tmp 32) (.reg none [.q 45 (.mv (.tmp 8)),.q 46 (.addr 2 (.tmp 10)),.q 47 (.load 1 false (.tmp 46)),.q 48 (.addr 3 (.tmp 10)),.q 49 (.load 1 false (.tmp 48)),.q 50 (.mksA 9 1 [.str ⟨#[]⟩] 1 [(0,(.tmp 49))]),.q 51 (.build [.str ⟨#[]⟩,.nilsl] [(0,(1,(.tmp 47))),(1,(1,(.tmp 50)))]),.q 52 (.mks 2 [.str ⟨#[]⟩,.nilsl] 1 [(0,(.tmp 51))]),.q 53 (.append 81 2 40 (.tmp 45) (.tmp 52)),.q 8 (.mv (.tmp 53))]) (.seq (.reg (some []) [.q 55 (.mv (.tmp 8)),.q 56 (.mv (.tmp 11)),.z 57 (.iaddrS 2 (.tmp 55) (.tmp 56)),.z 58 (.addr 1 (.tmp 57)),.z 59 (.load 1 false (.tmp 58)),.z 60 (.addr 3 (.tmp 10)),.z 61 (.load 1 false (.tmp 60)),.q 62 (.call 95 [.tmp 59,.tmp 61] 0),.q 63 (.not (.tmp 62)),.q 54 (.mv (.tmp 63))]) (.cond (.tmp 54) (.reg (some [(4,9),(5,9),(6,9)]) [.q 64 (.mv (.tmp 8)),.q 65 (.mv (.tmp 11)),.q 66 (.mv (.tmp 8)),.q 67 (.mv (.tmp 11)),.z 68 (.iaddrS 2 (.tmp 66) (.tmp 67)),.z 69 (.addr 1 (.tmp 68)),.z 70 (.load 1 false (.tmp 69)),.z 71 (.addr 3 (.tmp 10)),.z 72 (.load 1 false (.tmp 71)),.z 73 (.mksA 9 1 [.str ⟨#[]⟩] 1 [(0,(.tmp 72))]),.q 74 (.append 9 1 16 (.tmp 70) (.tmp 73)),.q 75 (.iaddrS 2 (.tmp 64) (.tmp 65)),.q 76 (.addr 1 (.tmp 75)),.s (.store 1 (.tmp 76) (.tmp 74))]) .skip)))))))) (.reg none [.q 77 (.bin .add (.tmp 25) (.val (.int .i64 1))),.q 25 (.mv (.tmp 77))]))))))) (.seq (.reg none [.q 78 (.mv (.tmp 8)),.q 4 (.mv (.tmp 78))]) .ret))))))))
def R39:List LRes := [.tmp 4]
theorem low39:Tryz.f39.body.bind (lowerCode Tryz.prog 79)=some L39:=by kernel_rfl
theorem res39:lowerRes Tryz.prog Tryz.f39.results.toList=some R39:=by kernel_rfl
set_option maxRecDepth 100000 in
def L40:LC:=(.seq (.reg none [.q 2 (.mv (.val (.bool false)))]) (.seq (.seq (.reg none [.q 5 (.mv (.tmp 0)),.q 6 (.len true (.tmp 5)),.q 7 (.mv (.val (.int .i64 0)))]) (.block 0 (.loop (.seq (.reg none [.q 8 (.bin .lss (.tmp 7) (.tmp 6))]) (.seq (.cond (.tmp 8) .skip (.exit 0)) (.seq (.block 1 (.seq (.reg none [.q 9 (.mv (.tmp 7)),.q 3 (.mv (.tmp 9))]) (.seq (.reg none [.q 10 (.mv (.tmp 0)),.q 11 (.mv (.tmp 3)),.q 12 (.idxS (.tmp 10) (.tmp 11)),.q 4 (.mv (.tmp 12))]) (.seq (.reg none [.q 13 (.mv (.tmp 4)),.q 14 (.bin .geq (.tmp 13) (.val (.int .u8 97))),.q 15 (.mv (.tmp 14)),.g 16 (.mv (.tmp 4)) 15 true,.g 17 (.bin .leq (.tmp 16) (.val (.int .u8 122))) 15 true,.q 18 (.pick (.tmp 15) (.tmp 17) (.val (.bool false))),.q 19 (.not (.tmp 18)),.q 20 (.mv (.tmp 19)),.g 21 (.mv (.tmp 4)) 20 true,.g 22 (.bin .geq (.tmp 21) (.val (.int .u8 48))) 20 true,.g 23 (.mv (.tmp 22)) 20 true,.g 24 (.mv (.tmp 4)) 23 true,.g 25 (.bin .leq (.tmp 24) (.val (.int .u8 57))) 23 true,.g 26 (.pick (.tmp 23) (.tmp 25) (.val (.bool false))) 20 true,.g 27 (.not (.tmp 26)) 20 true,.q 28 (.pick (.tmp 20) (.tmp 27) (.val (.bool false)))]) (.cond (.tmp 28) (.seq (.reg none [.q 2 (.mv (.val (.bool false)))]) .ret) .skip))))) (.reg none [.q 29 (.bin .add (.tmp 7) (.val (.int .i64 1))),.q 7 (.mv (.tmp 29))]))))))) (.seq (.reg none [.q 30 (.mv (.tmp 0)),.q 31 (.len true (.tmp 30)),.q 32 (.bin .geq (.tmp 31) (.val (.int .i64 1))),.q 33 (.mv (.tmp 32)),.g 34 (.mv (.tmp 0)) 33 true,.g 35 (.len true (.tmp 34)) 33 true,.g 36 (.bin .leq (.tmp 35) (.val (.int .i64 3))) 33 true,.q 37 (.pick (.tmp 33) (.tmp 36) (.val (.bool false))),.q 2 (.mv (.tmp 37))]) .ret)))
def R40:List LRes := [.tmp 2]
theorem low40:Tryz.f40.body.bind (lowerCode Tryz.prog 38)=some L40:=by kernel_rfl
theorem res40:lowerRes Tryz.prog Tryz.f40.results.toList=some R40:=by kernel_rfl
set_option maxRecDepth 100000 in
def L44:LC:=(.seq (.reg none [.q 4 (.mv (.val (.bool false)))]) (.seq (.reg none [.q 5 (.mv (.tmp 0)),.q 6 (.mv (.tmp 1)),.q 7 (.call 97 [.tmp 5,.tmp 6] 0),.q 8 (.bin .geq (.tmp 7) (.val (.int .i64 0))),.q 4 (.mv (.tmp 8))]) .ret))
def R44:List LRes := [.tmp 4]
theorem low44:Tryz.f44.body.bind (lowerCode Tryz.prog 9)=some L44:=by kernel_rfl
theorem res44:lowerRes Tryz.prog Tryz.f44.results.toList=some R44:=by kernel_rfl
set_option maxRecDepth 100000 in
def L45:LC:=(.seq (.reg none [.q 2 (.mv (.val (.bool false)))]) (.seq (.reg none [.q 3 (.mv (.tmp 0)),.q 4 (.call 40 [.tmp 3] 0),.q 5 (.not (.tmp 4)),.q 2 (.mv (.tmp 5))]) .ret))
def R45:List LRes := [.tmp 2]
theorem low45:Tryz.f45.body.bind (lowerCode Tryz.prog 6)=some L45:=by kernel_rfl
theorem res45:lowerRes Tryz.prog Tryz.f45.results.toList=some R45:=by kernel_rfl
set_option maxRecDepth 100000 in
def L53:LC:=(.seq (.reg none [.q 0 (.mv (.val .nilsl))]) (.seq (.reg none [.q 1 (.call 55 [.val (.int .i64 0),.val (.int .i64 1)] 0),.q 2 (.build [.int .i64 0,.int .i64 0,.int .i64 0,.str ⟨#[]⟩,.nilsl] [(0,(2,(.tmp 1))),(2,(1,(.val (.int .i64 1)))),(3,(1,(.val (.str ⟨#[112,117,116,32,97,32,120]⟩))))]),.q 3 (.call 55 [.val (.int .i64 1),.val (.int .i64 1)] 0),.q 4 (.build [.int .i64 0,.int .i64 0,.int .i64 0,.str ⟨#[]⟩,.nilsl] [(0,(2,(.tmp 3))),(2,(1,(.val (.int .i64 3)))),(3,(1,(.val (.str ⟨#[112,117,116,32,97,32,121]⟩))))]),.q 5 (.call 55 [.val (.int .i64 0),.val (.int .i64 2)] 0),.q 6 (.call 55 [.val (.int .i64 0),.val (.int .i64 1)] 0),.q 7 (.mks 2 [.int .i64 0,.int .i64 0] 1 [(0,(.tmp 6))]),.q 8 (.build [.int .i64 0,.int .i64 0,.int .i64 0,.str ⟨#[]⟩,.nilsl] [(0,(2,(.tmp 5))),(2,(1,(.val (.int .i64 3)))),(3,(1,(.val (.str ⟨#[100,114,111,112,32,97]⟩)))),(4,(1,(.tmp 7)))]),.q 9 (.call 55 [.val (.int .i64 1),.val (.int .i64 2)] 0),.q 10 (.call 55 [.val (.int .i64 0),.val (.int .i64 2)] 0),.q 11 (.call 55 [.val (.int .i64 1),.val (.int .i64 1)] 0),.q 12 (.mks 2 [.int .i64 0,.int .i64 0] 2 [(0,(.tmp 10)),(1,(.tmp 11))]),.q 13 (.build [.int .i64 0,.int .i64 0,.int .i64 0,.str ⟨#[]⟩,.nilsl] [(0,(2,(.tmp 9))),(2,(1,(.val (.int .i64 2)))),(3,(1,(.val (.str ⟨#[112,117,116,32,98,32,122]⟩)))),(4,(1,(.tmp 12)))]),.q 14 (.mks 5 [.int .i64 0,.int .i64 0,.int .i64 0,.str ⟨#[]⟩,.nilsl] 4 [(0,(.tmp 2)),(1,(.tmp 4)),(2,(.tmp 8)),(3,(.tmp 13))]),.q 0 (.mv (.tmp 14))]) .ret))
def R53:List LRes := [.tmp 0]
theorem low53:Tryz.f53.body.bind (lowerCode Tryz.prog 15)=some L53:=by kernel_rfl
theorem res53:lowerRes Tryz.prog Tryz.f53.results.toList=some R53:=by kernel_rfl
set_option maxRecDepth 100000 in
def L55:LC:=(.seq (.reg none [.q 4 (.alloc [.int .i64 0,.int .i64 0])]) (.seq (.reg none [.q 5 (.mv (.tmp 0)),.q 6 (.mv (.tmp 1)),.q 7 (.build [.int .i64 0,.int .i64 0] [(0,(1,(.tmp 5))),(1,(1,(.tmp 6)))]),.s (.store 2 (.tmp 4) (.tmp 7))]) .ret))
def R55:List LRes := [(.cell 4 2 true)]
theorem low55:Tryz.f55.body.bind (lowerCode Tryz.prog 8)=some L55:=by kernel_rfl
theorem res55:lowerRes Tryz.prog Tryz.f55.results.toList=some R55:=by kernel_rfl
set_option maxRecDepth 100000 in
def L58:LC:=(.seq (.reg none [.q 4 (.mv (.val (.bool false)))]) (.seq (.seq (.reg none [.q 6 (.mv (.tmp 0)),.q 7 (.len false (.tmp 6)),.q 8 (.mv (.tmp 1)),.q 9 (.len false (.tmp 8)),.q 10 (.bin .neq (.tmp 7) (.tmp 9))]) (.cond (.tmp 10) (.seq (.reg none [.q 4 (.mv (.val (.bool false)))]) .ret) .skip)) (.seq (.seq (.reg none [.q 5 (.mv (.val (.int .i64 0)))]) (.block 0 (.loop (.seq (.seq (.reg none [.q 11 (.mv (.tmp 5)),.q 12 (.mv (.tmp 0)),.q 13 (.len false (.tmp 12)),.q 14 (.bin .lss (.tmp 11) (.tmp 13))]) (.cond (.tmp 14) .skip (.exit 0))) (.seq (.block 1 (.seq (.reg (some []) [.q 17 (.mv (.tmp 0)),.q 18 (.mv (.tmp 5)),.z 19 (.iaddrS 2 (.tmp 17) (.tmp 18)),.z 20 (.load 2 true (.tmp 19)),.q 21 (.mv (.tmp 1)),.q 22 (.mv (.tmp 5)),.z 23 (.iaddrS 2 (.tmp 21) (.tmp 22)),.z 24 (.load 2 true (.tmp 23)),.q 25 (.eqag true [.i,.i] (.tmp 20) (.tmp 24))]) (.cond (.tmp 25) (.seq (.reg none [.q 4 (.mv (.val (.bool false)))]) .ret) .skip))) (.reg none [.q 15 (.mv (.tmp 5)),.q 16 (.bin .add (.tmp 15) (.val (.int .i64 1))),.q 5 (.mv (.tmp 16))])))))) (.seq (.reg none [.q 4 (.mv (.val (.bool true)))]) .ret))))
def R58:List LRes := [.tmp 4]
theorem low58:Tryz.f58.body.bind (lowerCode Tryz.prog 26)=some L58:=by kernel_rfl
theorem res58:lowerRes Tryz.prog Tryz.f58.results.toList=some R58:=by kernel_rfl
set_option maxRecDepth 100000 in
def L59:LC:=(.seq (.reg none [.q 1 (.box (.tmp 0)),.q 2 (.mv (.val (.int .i64 0)))]) (.seq (.block 0 (.seq (.reg none [.q 6 (.addr 0 (.tmp 1)),.q 7 (.load 2 true (.tmp 6)),.q 8 (.call 103 [.tmp 7] 0),.q 9 (.not (.tmp 8)),.q 10 (.mv (.tmp 9)),.g 11 (.addr 2 (.tmp 1)) 10 false,.g 12 (.load 1 false (.tmp 11)) 10 false,.g 13 (.call 38 [.tmp 12] 0) 10 false,.g 14 (.not (.tmp 13)) 10 false,.q 15 (.pick (.tmp 10) (.val (.bool true)) (.tmp 14)),.q 5 (.mv (.tmp 15))]) (.cond (.tmp 5) (.seq (.reg none [.q 2 (.mv (.val (.int .i64 3)))]) .ret) (.seq (.reg none [.q 17 (.addr 3 (.tmp 1)),.q 18 (.load 1 false (.tmp 17)),.q 19 (.len true (.tmp 18)),.q 20 (.bin .gtr (.tmp 19) (.val (.int .i64 12))),.q 21 (.mv (.tmp 20)),.g 22 (.addr 4 (.tmp 1)) 21 false,.g 23 (.load 1 false (.tmp 22)) 21 false,.g 24 (.len false (.tmp 23)) 21 false,.g 25 (.bin .gtr (.tmp 24) (.val (.int .i64 6))) 21 false,.q 26 (.pick (.tmp 21) (.val (.bool true)) (.tmp 25)),.q 16 (.mv (.tmp 26))]) (.cond (.tmp 16) (.seq (.reg none [.q 2 (.mv (.val (.int .i64 2)))]) .ret) .skip))))) (.seq (.seq (.reg none [.q 27 (.addr 4 (.tmp 1)),.q 28 (.load 1 false (.tmp 27)),.q 29 (.len false (.tmp 28)),.q 30 (.mv (.val (.int .i64 0)))]) (.block 1 (.loop (.seq (.reg none [.q 31 (.bin .lss (.tmp 30) (.tmp 29))]) (.seq (.cond (.tmp 31) .skip (.exit 1)) (.seq (.block 2 (.seq (.reg none [.q 32 (.mv (.tmp 30)),.q 33 (.iaddrS 2 (.tmp 28) (.tmp 30)),.q 34 (.load 2 true (.tmp 33)),.q 4 (.alloc [.int .i64 0,.int .i64 0]),.q 3 (.mv (.tmp 32)),.s (.store 2 (.tmp 4) (.tmp 34))]) (.block 3 (.seq (.reg none [.q 36 (.load 2 true (.tmp 4)),.q 37 (.call 103 [.tmp 36] 0),.q 38 (.not (.tmp 37)),.q 35 (.mv (.tmp 38))]) (.cond (.tmp 35) (.seq (.reg none [.q 2 (.mv (.val (.int .i64 3)))]) .ret) (.seq (.seq (.reg (some []) [.q 40 (.mv (.tmp 3)),.q 41 (.bin .gtr (.tmp 40) (.val (.int .i64 0))),.q 42 (.mv (.tmp 41)),.y 43 (.addr 4 (.tmp 1)) 42 true,.y 44 (.load 1 false (.tmp 43)) 42 true,.g 45 (.mv (.tmp 3)) 42 true,.g 46 (.bin .sub (.tmp 45) (.val (.int .i64 1))) 42 true,.y 47 (.iaddrS 2 (.tmp 44) (.tmp 46)) 42 true,.y 48 (.load 2 true (.tmp 47)) 42 true,.y 49 (.load 2 true (.tmp 4)) 42 true,.g 50 (.call 104 [.tmp 48,.tmp 49] 0) 42 true,.g 51 (.bin .geq (.tmp 50) (.val (.int .i64 0))) 42 true,.q 52 (.pick (.tmp 42) (.tmp 51) (.val (.bool false))),.q 39 (.mv (.tmp 52))]) (.cond (.tmp 39) .skip (.reg none [.q 53 (.addr 0 (.tmp 4)),.q 54 (.load 1 false (.tmp 53)),.q 55 (.addr 0 (.tmp 1)),.q 56 (.addr 0 (.tmp 55)),.q 57 (.load 1 false (.tmp 56)),.q 58 (.bin .eql (.tmp 54) (.tmp 57)),.q 59 (.mv (.tmp 58)),.g 60 (.addr 1 (.tmp 4)) 59 true,.g 61 (.load 1 false (.tmp 60)) 59 true,.g 62 (.addr 0 (.tmp 1)) 59 true,.g 63 (.addr 1 (.tmp 62)) 59 true,.g 64 (.load 1 false (.tmp 63)) 59 true,.g 65 (.bin .geq (.tmp 61) (.tmp 64)) 59 true,.q 66 (.pick (.tmp 59) (.tmp 65) (.val (.bool false))),.q 39 (.mv (.tmp 66))]))) (.cond (.tmp 39) (.seq (.reg none [.q 2 (.mv (.val (.int .i64 4)))]) .ret) .skip))))))) (.reg none [.q 67 (.bin .add (.tmp 30) (.val (.int .i64 1))),.q 30 (.mv (.tmp 67))]))))))) (.seq (.reg none [.q 2 (.mv (.val (.int .i64 0)))]) .ret))))
def R59:List LRes := [.tmp 2]
theorem low59:Tryz.f59.body.bind (lowerCode Tryz.prog 68)=some L59:=by kernel_rfl
theorem res59:lowerRes Tryz.prog Tryz.f59.results.toList=some R59:=by kernel_rfl
set_option maxRecDepth 100000 in
def L60:LC:=(.seq (.reg none [.q 3 (.box (.tmp 1)),.q 4 (.mv (.val (.int .i64 0)))]) (.seq (.reg none [.q 5 (.mv (.tmp 0)),.q 6 (.clo 106 [.tmp 3]),.q 7 (.call 105 [.tmp 5,.tmp 6] 0),.q 4 (.mv (.tmp 7))]) .ret))
def R60:List LRes := [.tmp 4]
theorem low60:Tryz.f60.body.bind (lowerCode Tryz.prog 8)=some L60:=by kernel_rfl
theorem res60:lowerRes Tryz.prog Tryz.f60.results.toList=some R60:=by kernel_rfl
set_option maxRecDepth 100000 in
def L61:LC:=(.seq (.reg none [.q 2 (.alloc [.int .i64 0,.int .i64 0])]) (.seq (.reg none [.q 3 (.alloc [.int .i64 0,.int .i64 0])]) (.seq (.seq (.reg none [.q 6 (.mv (.tmp 0)),.q 7 (.len false (.tmp 6)),.q 8 (.mv (.val (.int .i64 0)))]) (.block 0 (.loop (.seq (.reg none [.q 9 (.bin .lss (.tmp 8) (.tmp 7))]) (.seq (.cond (.tmp 9) .skip (.exit 0)) (.seq (.block 1 (.seq (.reg none [.q 10 (.iaddrS 5 (.tmp 6) (.tmp 8)),.q 11 (.load 5 true (.tmp 10)),.q 5 (.alloc [.int .i64 0,.int .i64 0,.int .i64 0,.str ⟨#[]⟩,.nilsl]),.s (.store 5 (.tmp 5) (.tmp 11))]) (.reg none [.q 12 (.addr 0 (.tmp 5)),.q 13 (.addr 0 (.tmp 12)),.q 14 (.load 1 false (.tmp 13)),.q 15 (.iaddrA 1 2 (.tmp 3) (.tmp 14)),.q 16 (.load 1 false (.tmp 15)),.q 17 (.bin .add (.tmp 16) (.val (.int .i64 1))),.q 18 (.iaddrA 1 2 (.tmp 3) (.tmp 14)),.s (.store 1 (.tmp 18) (.tmp 17))]))) (.reg none [.q 19 (.bin .add (.tmp 8) (.val (.int .i64 1))),.q 8 (.mv (.tmp 19))]))))))) (.seq (.reg none [.q 20 (.load 2 true (.tmp 3)),.s (.store 2 (.tmp 2) (.tmp 20))]) .ret))))
def R61:List LRes := [(.cell 2 2 true)]
theorem low61:Tryz.f61.body.bind (lowerCode Tryz.prog 21)=some L61:=by kernel_rfl
theorem res61:lowerRes Tryz.prog Tryz.f61.results.toList=some R61:=by kernel_rfl
set_option maxRecDepth 100000 in
def L62:LC:=(.seq (.reg none [.q 2 (.box (.tmp 0)),.q 3 (.box (.tmp 1)),.q 4 (.mv (.val (.bool false)))]) (.seq (.reg (some []) [.z 5 (.load 1 false (.tmp 2)),.z 6 (.call 61 [.tmp 5] 0),.z 7 (.addr 0 (.tmp 3)),.z 8 (.addr 0 (.tmp 7)),.z 9 (.load 1 false (.tmp 8)),.q 10 (.idxA 1 2 false (.tmp 6) (.tmp 9)),.q 11 (.bin .add (.tmp 10) (.val (.int .i64 1))),.z 12 (.addr 0 (.tmp 3)),.z 13 (.addr 1 (.tmp 12)),.z 14 (.load 1 false (.tmp 13)),.q 15 (.bin .eql (.tmp 11) (.tmp 14)),.q 16 (.mv (.tmp 15)),.g 17 (.addr 4 (.tmp 3)) 16 true,.g 18 (.load 1 false (.tmp 17)) 16 true,.g 19 (.clo 108 [.tmp 2]) 16 true,.g 20 (.call 107 [.tmp 18,.tmp 19] 0) 16 true,.g 21 (.not (.tmp 20)) 16 true,.q 22 (.pick (.tmp 16) (.tmp 21) (.val (.bool false))),.q 4 (.mv (.tmp 22))]) .ret))
def R62:List LRes := [.tmp 4]
theorem low62:Tryz.f62.body.bind (lowerCode Tryz.prog 23)=some L62:=by kernel_rfl
theorem res62:lowerRes Tryz.prog Tryz.f62.results.toList=some R62:=by kernel_rfl
set_option maxRecDepth 100000 in
def L65:LC:=(.seq (.reg none [.q 1 (.box (.tmp 0)),.q 2 (.mv (.val (.int .i64 0)))]) (.seq (.seq (.reg none [.q 7 (.addr 0 (.tmp 1)),.q 8 (.load 1 false (.tmp 7)),.q 9 (.bin .neq (.tmp 8) (.val (.int .i64 0))),.q 10 (.mv (.tmp 9)),.g 11 (.addr 0 (.tmp 1)) 10 true,.g 12 (.load 1 false (.tmp 11)) 10 true,.g 13 (.bin .neq (.tmp 12) (.val (.int .i64 1))) 10 true,.q 14 (.pick (.tmp 10) (.tmp 13) (.val (.bool false)))]) (.cond (.tmp 14) (.seq (.reg none [.q 2 (.mv (.val (.int .i64 3)))]) .ret) .skip)) (.seq (.seq (.reg none [.q 15 (.addr 1 (.tmp 1)),.q 16 (.load 1 false (.tmp 15)),.q 17 (.call 21 [.tmp 16] 0),.q 3 (.mv (.tmp 17))]) (.seq (.reg none [.q 18 (.mv (.tmp 3)),.q 19 (.bin .neq (.tmp 18) (.val (.int .i64 0)))]) (.cond (.tmp 19) (.seq (.reg none [.q 20 (.mv (.tmp 3)),.q 2 (.mv (.tmp 20))]) .ret) .skip))) (.seq (.seq (.reg none [.q 21 (.addr 2 (.tmp 1)),.q 22 (.load 1 false (.tmp 21)),.q 23 (.len false (.tmp 22)),.q 24 (.bin .gtr (.tmp 23) (.val (.int .i64 20)))]) (.cond (.tmp 24) (.seq (.reg none [.q 2 (.mv (.val (.int .i64 2)))]) .ret) .skip)) (.seq (.seq (.reg none [.q 25 (.addr 2 (.tmp 1)),.q 26 (.load 1 false (.tmp 25)),.q 27 (.len false (.tmp 26)),.q 28 (.mv (.val (.int .i64 0)))]) (.block 0 (.loop (.seq (.reg none [.q 29 (.bin .lss (.tmp 28) (.tmp 27))]) (.seq (.cond (.tmp 29) .skip (.exit 0)) (.seq (.block 1 (.seq (.reg none [.q 30 (.mv (.tmp 28)),.q 31 (.iaddrS 5 (.tmp 26) (.tmp 28)),.q 32 (.load 5 true (.tmp 31)),.q 5 (.alloc [.int .i64 0,.int .i64 0,.int .i64 0,.str ⟨#[]⟩,.nilsl]),.q 4 (.mv (.tmp 30)),.s (.store 5 (.tmp 5) (.tmp 32))]) (.seq (.seq (.reg none [.q 33 (.load 5 true (.tmp 5)),.q 34 (.call 59 [.tmp 33] 0),.q 6 (.mv (.tmp 34))]) (.seq (.reg none [.q 35 (.mv (.tmp 6)),.q 36 (.bin .neq (.tmp 35) (.val (.int .i64 0)))]) (.cond (.tmp 36) (.seq (.reg none [.q 37 (.mv (.tmp 6)),.q 2 (.mv (.tmp 37))]) .ret) .skip))) (.seq (.reg (some []) [.q 38 (.mv (.tmp 4)),.q 39 (.bin .gtr (.tmp 38) (.val (.int .i64 0))),.q 40 (.mv (.tmp 39)),.y 41 (.addr 2 (.tmp 1)) 40 true,.y 42 (.load 1 false (.tmp 41)) 40 true,.g 43 (.mv (.tmp 4)) 40 true,.g 44 (.bin .sub (.tmp 43) (.val (.int .i64 1))) 40 true,.y 45 (.iaddrS 5 (.tmp 42) (.tmp 44)) 40 true,.y 46 (.addr 0 (.tmp 45)) 40 true,.y 47 (.load 2 true (.tmp 46)) 40 true,.y 48 (.addr 0 (.tmp 5)) 40 true,.y 49 (.load 2 true (.tmp 48)) 40 true,.g 50 (.call 110 [.tmp 47,.tmp 49] 0) 40 true,.g 51 (.not (.tmp 50)) 40 true,.q 52 (.pick (.tmp 40) (.tmp 51) (.val (.bool false))),.q 53 (.mv (.tmp 52)),.y 54 (.addr 0 (.tmp 5)) 53 false,.y 55 (.addr 0 (.tmp 54)) 53 false,.y 56 (.load 1 false (.tmp 55)) 53 false,.y 57 (.addr 0 (.tmp 1)) 53 false,.y 58 (.load 1 false (.tmp 57)) 53 false,.g 59 (.bin .eql (.tmp 56) (.tmp 58)) 53 false,.q 60 (.pick (.tmp 53) (.val (.bool true)) (.tmp 59)),.q 61 (.mv (.tmp 60)),.y 62 (.addr 1 (.tmp 1)) 61 false,.y 63 (.load 1 false (.tmp 62)) 61 false,.y 64 (.addr 0 (.tmp 5)) 61 false,.y 65 (.load 2 true (.tmp 64)) 61 false,.g 66 (.call 60 [.tmp 63,.tmp 65] 0) 61 false,.g 67 (.bin .geq (.tmp 66) (.val (.int .i64 0))) 61 false,.q 68 (.pick (.tmp 61) (.val (.bool true)) (.tmp 67)),.q 69 (.mv (.tmp 68)),.y 70 (.addr 1 (.tmp 1)) 69 false,.y 71 (.load 1 false (.tmp 70)) 69 false,.y 72 (.load 5 true (.tmp 5)) 69 false,.g 73 (.call 62 [.tmp 71,.tmp 72] 0) 69 false,.q 74 (.pick (.tmp 69) (.val (.bool true)) (.tmp 73))]) (.cond (.tmp 74) (.seq (.reg none [.q 2 (.mv (.val (.int .i64 4)))]) .ret) .skip))))) (.reg none [.q 75 (.bin .add (.tmp 28) (.val (.int .i64 1))),.q 28 (.mv (.tmp 75))]))))))) (.seq (.reg none [.q 2 (.mv (.val (.int .i64 0)))]) .ret))))))
def R65:List LRes := [.tmp 2]
theorem low65:Tryz.f65.body.bind (lowerCode Tryz.prog 76)=some L65:=by kernel_rfl
theorem res65:lowerRes Tryz.prog Tryz.f65.results.toList=some R65:=by kernel_rfl
set_option maxRecDepth 100000 in
def L66:LC:=(.seq (.reg none [.q 3 (.box (.tmp 0)),.q 6 (.alloc [.int .i64 0,.nilsl,.nilsl]),.q 7 (.alloc [.int .i64 0,.int .i64 0,.int .i64 0,.str ⟨#[]⟩,.nilsl]),.q 8 (.mv (.val (.int .i64 0)))]) (.seq (.seq (.reg none [.q 12 (.mv (.tmp 1)),.q 13 (.call 38 [.tmp 12] 0),.q 14 (.not (.tmp 13))]) (.cond (.tmp 14) (.seq (.reg none [.q 15 (.build [.int .i64 0,.nilsl,.nilsl] []),.q 16 (.build [.int .i64 0,.int .i64 0,.int .i64 0,.str ⟨#[]⟩,.nilsl] []),.s (.store 3 (.tmp 6) (.tmp 15)),.s (.store 5 (.tmp 7) (.tmp 16)),.q 8 (.mv (.val (.int .i64 3)))]) .ret) .skip)) (.seq (.reg (some []) [.z 17 (.addr 1 (.tmp 3)),.z 18 (.load 1 false (.tmp 17)),.z 19 (.call 61 [.tmp 18] 0),.z 20 (.addr 0 (.tmp 3)),.z 21 (.load 1 false (.tmp 20)),.q 22 (.idxA 1 2 false (.tmp 19) (.tmp 21)),.q 23 (.bin .add (.tmp 22) (.val (.int .i64 1))),.q 9 (.mv (.tmp 23))]) (.seq (.reg (some [(0,11),(1,11),(6,11),(7,11),(9,11)]) [.z 24 (.addr 0 (.tmp 3)),.z 25 (.load 1 false (.tmp 24)),.q 26 (.mv (.tmp 9)),.q 27 (.build [.int .i64 0,.int .i64 0] [(0,(1,(.tmp 25))),(1,(1,(.tmp 26)))]),.q 28 (.mv (.tmp 1)),.q 29 (.mv (.tmp 2)),.z 30 (.addr 1 (.tmp 3)),.z 31 (.load 1 false (.tmp 30)),.q 32 (.mv (.tmp 1)),.z 33 (.call 102 [.tmp 31,.tmp 32] 0),.q 34 (.build [.int .i64 0,.int .i64 0,.int .i64 0,.str ⟨#[]⟩,.nilsl] [(0,(2,(.tmp 27))),(2,(1,(.tmp 28))),(3,(1,(.tmp 29))),(4,(1,(.tmp 33)))]),.z 10 (.alloc [.int .i64 0,.int .i64 0,.int .i64 0,.str ⟨#[]⟩,.nilsl]),.s (.store 5 (.tmp 10) (.tmp 34))]) (.seq (.seq (.reg none [.q 35 (.mv (.tmp 2)),.q 36 (.len true (.tmp 35)),.q 37 (.bin .gtr (.tmp 36) (.val (.int .i64 12))),.q 38 (.mv (.tmp 37)),.g 39 (.mv (.tmp 9)) 38 false,.g 40 (.bin .gtr (.tmp 39) (.val (.int .i64 20))) 38 false,.q 41 (.pick (.tmp 38) (.val (.bool true)) (.tmp 40)),.q 42 (.mv (.tmp 41)),.g 43 (.addr 1 (.tmp 3)) 42 false,.g 44 (.load 1 false (.tmp 43)) 42 false,.g 45 (.len false (.tmp 44)) 42 false,.g 46 (.bin .eql (.tmp 45) (.val (.int .i64 40))) 42 false,.q 47 (.pick (.tmp 42) (.val (.bool true)) (.tmp 46)),.q 48 (.mv (.tmp 47)),.g 49 (.addr 4 (.tmp 10)) 48 false,.g 50 (.load 1 false (.tmp 49)) 48 false,.g 51 (.len false (.tmp 50)) 48 false,.g 52 (.bin .gtr (.tmp 51) (.val (.int .i64 6))) 48 false,.q 53 (.pick (.tmp 48) (.val (.bool true)) (.tmp 52))]) (.cond (.tmp 53) (.seq (.reg none [.q 54 (.build [.int .i64 0,.nilsl,.nilsl] []),.q 55 (.build [.int .i64 0,.int .i64 0,.int .i64 0,.str ⟨#[]⟩,.nilsl] []),.s (.store 3 (.tmp 6) (.tmp 54)),.s (.store 5 (.tmp 7) (.tmp 55)),.q 8 (.mv (.val (.int .i64 2)))]) .ret) .skip)) (.seq (.reg none [.q 56 (.load 3 true (.tmp 3)),.q 57 (.call 111 [.tmp 56] 0),.q 58 (.build [.int .i64 0,.nilsl,.nilsl] [(0,(3,(.tmp 57)))]),.q 59 (.box (.tmp 58)),.q 11 (.mv (.tmp 59))]) (.seq (.reg (some []) [.q 60 (.mv (.tmp 11)),.q 61 (.mv (.tmp 11)),.z 62 (.nilchk (.tmp 61)),.z 63 (.addr 0 (.tmp 62)),.z 64 (.addr 1 (.tmp 63)),.z 65 (.load 1 false (.tmp 64)),.z 66 (.load 5 true (.tmp 10)),.q 67 (.mks 5 [.int .i64 0,.int .i64 0,.int .i64 0,.str ⟨#[]⟩,.nilsl] 1 [(0,(.tmp 66))]),.q 68 (.append 46 5 64 (.tmp 65) (.tmp 67)),.q 69 (.nilchk (.tmp 60)),.q 70 (.addr 0 (.tmp 69)),.q 71 (.addr 1 (.tmp 70)),.s (.store 1 (.tmp 71) (.tmp 68))]) (.seq (.reg none [.q 72 (.mv (.tmp 11)),.q 73 (.call 112 [.tmp 72] 0)]) (.seq (.reg (some []) [.q 74 (.mv (.tmp 11)),.z 75 (.nilchk (.tmp 74)),.z 76 (.addr 0 (.tmp 75)),.z 77 (.load 3 true (.tmp 76)),.z 78 (.load 5 true (.tmp 10)),.z 79 (.call 113 [.tmp 78] 0),.s (.store 3 (.tmp 6) (.tmp 77)),.s (.store 5 (.tmp 7) (.tmp 79)),.q 8 (.mv (.val (.int .i64 0)))]) .ret)))))))))
def R66:List LRes := [(.cell 6 3 true),(.cell 7 5 true),.tmp 8]
theorem low66:Tryz.f66.body.bind (lowerCode Tryz.prog 80)=some L66:=by kernel_rfl
theorem res66:lowerRes Tryz.prog Tryz.f66.results.toList=some R66:=by kernel_rfl
set_option maxRecDepth 100000 in
def L67:LC:=(.seq (.reg none [.q 3 (.box (.tmp 1))]) (.seq (.reg (some [(1,9),(2,9),(3,9),(4,9),(5,9)]) [.q 7 (.mv (.tmp 0)),.z 8 (.nilchk (.tmp 7)),.z 9 (.addr 0 (.tmp 8)),.z 10 (.load 2 true (.tmp 9)),.z 11 (.load 5 true (.tmp 3)),.z 12 (.call 80 [.tmp 10,.tmp 11] 0),.q 6 (.mv (.tmp 12)),.q 13 (.ext 0 (.tmp 6)),.q 14 (.ext 1 (.tmp 6)),.z 4 (.alloc [.nilsl,.nilsl]),.s (.store 2 (.tmp 4) (.tmp 13)),.q 5 (.mv (.tmp 14))]) (.seq (.seq (.reg none [.q 15 (.mv (.tmp 5)),.q 16 (.bin .eql (.tmp 15) (.val (.int .i64 0)))]) (.cond (.tmp 16) (.reg none [.q 17 (.mv (.tmp 0)),.q 18 (.load 2 true (.tmp 4)),.q 19 (.nilchk (.tmp 17)),.q 20 (.addr 0 (.tmp 19)),.s (.store 2 (.tmp 20) (.tmp 18))]) .skip)) (.reg none [.q 21 (.mv (.tmp 0)),.q 22 (.mv (.tmp 0)),.q 23 (.nilchk (.tmp 22)),.q 24 (.addr 2 (.tmp 23)),.q 25 (.load 1 false (.tmp 24)),.q 26 (.mv (.tmp 5)),.q 27 (.mks 1 [.int .i64 0] 1 [(0,(.tmp 26))]),.q 28 (.append 24 1 8 (.tmp 25) (.tmp 27)),.q 29 (.nilchk (.tmp 21)),.q 30 (.addr 2 (.tmp 29)),.s (.store 1 (.tmp 30) (.tmp 28))]))))
def R67:List LRes := []
theorem low67:Tryz.f67.body.bind (lowerCode Tryz.prog 31)=some L67:=by kernel_rfl
theorem res67:lowerRes Tryz.prog Tryz.f67.results.toList=some R67:=by kernel_rfl
set_option maxRecDepth 100000 in
def L68:LC:=(.seq (.reg none [.q 2 (.mv (.val (.str ⟨#[]⟩)))]) (.seq (.reg none [.q 3 (.alloc [.str ⟨#[]⟩]),.s (.store 1 (.tmp 3) (.val (.str ⟨#[]⟩)))]) (.seq (.reg none [.q 7 (.clo 114 [.tmp 3]),.q 4 (.mv (.tmp 7))]) (.seq (.seq (.reg none [.q 8 (.mv (.tmp 0)),.q 9 (.len false (.tmp 8)),.q 10 (.mv (.val (.int .i64 0)))]) (.block 0 (.loop (.seq (.reg none [.q 11 (.bin .lss (.tmp 10) (.tmp 9))]) (.seq (.cond (.tmp 11) .skip (.exit 0)) (.seq (.block 1 (.seq (.reg none [.q 12 (.iaddrS 2 (.tmp 8) (.tmp 10)),.q 13 (.load 2 true (.tmp 12)),.q 6 (.alloc [.str ⟨#[]⟩,.nilsl]),.s (.store 2 (.tmp 6) (.tmp 13))]) (.reg (some []) [.q 14 (.mv (.tmp 4)),.z 15 (.addr 0 (.tmp 6)),.z 16 (.load 1 false (.tmp 15)),.z 17 (.addr 1 (.tmp 6)),.z 18 (.load 1 false (.tmp 17)),.z 19 (.call 115 [.tmp 18,.val (.str ⟨#[44]⟩)] 0),.q 20 (.mksA 9 1 [.str ⟨#[]⟩] 4 [(0,(.tmp 16)),(1,(.val (.str ⟨#[61]⟩))),(2,(.tmp 19)),(3,(.val (.str ⟨#[59]⟩)))]),.q 21 (.callv (.tmp 14) [.tmp 20])]))) (.reg none [.q 22 (.bin .add (.tmp 10) (.val (.int .i64 1))),.q 10 (.mv (.tmp 22))]))))))) (.seq (.reg none [.q 23 (.load 1 false (.tmp 3)),.q 2 (.mv (.tmp 23))]) .ret)))))
def R68:List LRes := [.tmp 2]
theorem low68:Tryz.f68.body.bind (lowerCode Tryz.prog 24)=some L68:=by kernel_rfl
theorem res68:lowerRes Tryz.prog Tryz.f68.results.toList=some R68:=by kernel_rfl
set_option maxRecDepth 100000 in
def L69:LC:=(.seq (.reg none [.q 1 (.box (.tmp 0)),.q 2 (.mv (.val (.int .i64 0)))]) (.seq (.seq (.reg none [.q 12 (.addr 0 (.tmp 1)),.q 13 (.load 1 false (.tmp 12)),.q 14 (.len false (.tmp 13)),.q 15 (.bin .neq (.tmp 14) (.val (.int .i64 2))),.q 16 (.mv (.tmp 15)),.g 17 (.addr 1 (.tmp 1)) 16 false,.g 18 (.load 1 false (.tmp 17)) 16 false,.g 19 (.len false (.tmp 18)) 16 false,.g 20 (.bin .neq (.tmp 19) (.val (.int .i64 2))) 16 false,.q 21 (.pick (.tmp 16) (.val (.bool true)) (.tmp 20))]) (.cond (.tmp 21) (.seq (.reg none [.q 2 (.mv (.val (.int .i64 1)))]) .ret) .skip)) (.seq (.seq (.reg none [.q 22 (.addr 0 (.tmp 1)),.q 23 (.load 1 false (.tmp 22)),.q 24 (.len false (.tmp 23)),.q 25 (.mv (.val (.int .i64 0)))]) (.block 0 (.loop (.seq (.reg none [.q 26 (.bin .lss (.tmp 25) (.tmp 24))]) (.seq (.cond (.tmp 26) .skip (.exit 0)) (.seq (.block 1 (.seq (.reg none [.q 27 (.mv (.tmp 25)),.q 28 (.iaddrS 3 (.tmp 23) (.tmp 25)),.q 29 (.load 3 true (.tmp 28)),.q 4 (.alloc [.int .i64 0,.nilsl,.nilsl]),.q 3 (.mv (.tmp 27)),.s (.store 3 (.tmp 4) (.tmp 29))]) (.seq (.seq (.reg none [.q 30 (.load 3 true (.tmp 4)),.q 31 (.call 65 [.tmp 30] 0),.q 5 (.mv (.tmp 31))]) (.seq (.reg none [.q 32 (.mv (.tmp 5)),.q 33 (.bin .neq (.tmp 32) (.val (.int .i64 0)))]) (.cond (.tmp 33) (.seq (.reg none [.q 34 (.mv (.tmp 5)),.q 2 (.mv (.tmp 34))]) .ret) .skip))) (.seq (.reg none [.q 35 (.addr 0 (.tmp 4)),.q 36 (.load 1 false (.tmp 35)),.q 37 (.mv (.tmp 3)),.q 38 (.bin .neq (.tmp 36) (.tmp 37))]) (.cond (.tmp 38) (.seq (.reg none [.q 2 (.mv (.val (.int .i64 4)))]) .ret) .skip))))) (.reg none [.q 39 (.bin .add (.tmp 25) (.val (.int .i64 1))),.q 25 (.mv (.tmp 39))]))))))) (.seq (.seq (.reg none [.q 40 (.addr 1 (.tmp 1)),.q 41 (.load 1 false (.tmp 40)),.q 42 (.len false (.tmp 41)),.q 43 (.mv (.val (.int .i64 0)))]) (.block 2 (.loop (.seq (.reg none [.q 44 (.bin .lss (.tmp 43) (.tmp 42))]) (.seq (.cond (.tmp 44) .skip (.exit 2)) (.seq (.block 3 (.seq (.reg none [.q 45 (.iaddrS 1 (.tmp 41) (.tmp 43)),.q 46 (.load 1 false (.tmp 45)),.q 7 (.mv (.tmp 46))]) (.seq (.reg none [.q 47 (.load 2 true (.tmp 1)),.q 48 (.mv (.tmp 7)),.q 49 (.call 116 [.tmp 47,.tmp 48] 0),.q 8 (.mv (.tmp 49))]) (.seq (.reg none [.q 50 (.mv (.tmp 8)),.q 51 (.bin .neq (.tmp 50) (.val (.int .i64 0)))]) (.cond (.tmp 51) (.seq (.reg none [.q 52 (.mv (.tmp 8)),.q 2 (.mv (.tmp 52))]) .ret) .skip))))) (.reg none [.q 53 (.bin .add (.tmp 43) (.val (.int .i64 1))),.q 43 (.mv (.tmp 53))]))))))) (.seq (.reg none [.q 54 (.clo 117 [.tmp 1]),.q 9 (.mv (.tmp 54))]) (.seq (.seq (.reg none [.q 55 (.addr 0 (.tmp 1)),.q 56 (.load 1 false (.tmp 55)),.q 57 (.len false (.tmp 56)),.q 58 (.mv (.val (.int .i64 0)))]) (.block 4 (.loop (.seq (.reg none [.q 59 (.bin .lss (.tmp 58) (.tmp 57))]) (.seq (.cond (.tmp 59) .skip (.exit 4)) (.seq (.block 5 (.seq (.reg none [.q 60 (.iaddrS 3 (.tmp 56) (.tmp 58)),.q 61 (.load 3 true (.tmp 60)),.q 11 (.alloc [.int .i64 0,.nilsl,.nilsl]),.s (.store 3 (.tmp 11) (.tmp 61))]) (.seq (.reg none [.q 62 (.addr 1 (.tmp 11)),.q 63 (.load 1 false (.tmp 62)),.q 64 (.mv (.tmp 9)),.q 65 (.call 119 [.tmp 63,.tmp 64] 0),.q 66 (.mv (.tmp 65)),.g 67 (.addr 2 (.tmp 11)) 66 false,.g 68 (.load 1 false (.tmp 67)) 66 false,.g 69 (.mv (.tmp 9)) 66 false,.g 70 (.call 119 [.tmp 68,.tmp 69] 0) 66 false,.q 71 (.pick (.tmp 66) (.val (.bool true)) (.tmp 70))]) (.cond (.tmp 71) (.seq (.reg none [.q 2 (.mv (.val (.int .i64 4)))]) .ret) .skip)))) (.reg none [.q 72 (.bin .add (.tmp 58) (.val (.int .i64 1))),.q 58 (.mv (.tmp 72))]))))))) (.seq (.reg none [.q 2 (.mv (.val (.int .i64 0)))]) .ret)))))))
def R69:List LRes := [.tmp 2]
theorem low69:Tryz.f69.body.bind (lowerCode Tryz.prog 73)=some L69:=by kernel_rfl
theorem res69:lowerRes Tryz.prog Tryz.f69.results.toList=some R69:=by kernel_rfl
set_option maxRecDepth 100000 in
def L77:LC:=(.seq (.reg none [.q 0 (.mv (.val .nilsl))]) (.seq (.reg none [.q 1 (.build [.int .i64 0,.int .i64 0,.int .i64 0,.int .i64 0,.str ⟨#[]⟩] [(0,(1,(.val (.int .i64 1)))),(3,(1,(.val (.int .i64 1)))),(4,(1,(.val (.str ⟨#[112,117,116,32,97,32,120]⟩))))]),.q 2 (.build [.int .i64 0,.int .i64 0,.int .i64 0,.int .i64 0,.str ⟨#[]⟩] [(0,(1,(.val (.int .i64 1)))),(1,(1,(.val (.int .i64 1)))),(3,(1,(.val (.int .i64 1)))),(4,(1,(.val (.str ⟨#[112,117,116,32,97,32,121]⟩))))]),.q 3 (.build [.int .i64 0,.int .i64 0,.int .i64 0,.int .i64 0,.str ⟨#[]⟩] [(0,(1,(.val (.int .i64 2)))),(1,(1,(.val (.int .i64 1))))]),.q 4 (.build [.int .i64 0,.int .i64 0,.int .i64 0,.int .i64 0,.str ⟨#[]⟩] [(0,(1,(.val (.int .i64 3))))]),.q 5 (.build [.int .i64 0,.int .i64 0,.int .i64 0,.int .i64 0,.str ⟨#[]⟩] [(0,(1,(.val (.int .i64 1)))),(1,(1,(.val (.int .i64 1)))),(3,(1,(.val (.int .i64 1)))),(4,(1,(.val (.str ⟨#[112,117,116,32,98,32,122]⟩))))]),.q 6 (.build [.int .i64 0,.int .i64 0,.int .i64 0,.int .i64 0,.str ⟨#[]⟩] [(0,(1,(.val (.int .i64 2))))]),.q 7 (.mks 5 [.int .i64 0,.int .i64 0,.int .i64 0,.int .i64 0,.str ⟨#[]⟩] 6 [(0,(.tmp 1)),(1,(.tmp 2)),(2,(.tmp 3)),(3,(.tmp 4)),(4,(.tmp 5)),(5,(.tmp 6))]),.q 0 (.mv (.tmp 7))]) .ret))
def R77:List LRes := [.tmp 0]
theorem low77:Tryz.f77.body.bind (lowerCode Tryz.prog 8)=some L77:=by kernel_rfl
theorem res77:lowerRes Tryz.prog Tryz.f77.results.toList=some R77:=by kernel_rfl
set_option maxRecDepth 100000 in
def L78:LC:=(.seq (.reg none [.q 1 (.box (.tmp 0)),.q 2 (.mv (.val .nilp))]) (.seq (.reg none [.q 11 (.build [.nilsl,.nilsl] []),.q 12 (.box (.tmp 11)),.q 3 (.mv (.tmp 12))]) (.seq (.seq (.reg none [.q 13 (.addr 0 (.tmp 1)),.q 14 (.load 1 false (.tmp 13)),.q 15 (.len false (.tmp 14)),.q 16 (.mv (.val (.int .i64 0)))]) (.block 0 (.loop (.seq (.reg none [.q 17 (.bin .lss (.tmp 16) (.tmp 15))]) (.seq (.cond (.tmp 17) .skip (.exit 0)) (.seq (.block 1 (.seq (.reg none [.q 18 (.iaddrS 3 (.tmp 14) (.tmp 16)),.q 19 (.load 3 true (.tmp 18)),.q 5 (.alloc [.int .i64 0,.nilsl,.nilsl]),.s (.store 3 (.tmp 5) (.tmp 19))]) (.reg (some []) [.q 20 (.mv (.tmp 3)),.q 21 (.mv (.tmp 3)),.z 22 (.nilchk (.tmp 21)),.z 23 (.addr 0 (.tmp 22)),.z 24 (.addr 0 (.tmp 23)),.z 25 (.load 1 false (.tmp 24)),.z 26 (.load 3 true (.tmp 5)),.z 27 (.call 111 [.tmp 26] 0),.q 28 (.mks 3 [.int .i64 0,.nilsl,.nilsl] 1 [(0,(.tmp 27))]),.q 29 (.append 49 3 56 (.tmp 25) (.tmp 28)),.q 30 (.nilchk (.tmp 20)),.q 31 (.addr 0 (.tmp 30)),.q 32 (.addr 0 (.tmp 31)),.s (.store 1 (.tmp 32) (.tmp 29))]))) (.reg none [.q 33 (.bin .add (.tmp 16) (.val (.int .i64 1))),.q 16 (.mv (.tmp 33))]))))))) (.seq (.seq (.reg none [.q 34 (.addr 1 (.tmp 1)),.q 35 (.load 1 false (.tmp 34)),.q 36 (.len false (.tmp 35)),.q 37 (.mv (.val (.int .i64 0)))]) (.block 2 (.loop (.seq (.reg none [.q 38 (.bin .lss (.tmp 37) (.tmp 36))]) (.seq (.cond (.tmp 38) .skip (.exit 2)) (.seq (.block 3 (.seq (.reg none [.q 39 (.iaddrS 1 (.tmp 35) (.tmp 37)),.q 40 (.load 1 false (.tmp 39)),.q 7 (.mv (.tmp 40))]) (.seq (.reg none [.q 8 (.mv (.val .nilsl))]) (.seq (.seq (.reg none [.q 41 (.mv (.tmp 7)),.q 42 (.len false (.tmp 41)),.q 43 (.mv (.val (.int .i64 0)))]) (.block 4 (.loop (.seq (.reg none [.q 44 (.bin .lss (.tmp 43) (.tmp 42))]) (.seq (.cond (.tmp 44) .skip (.exit 4)) (.seq (.block 5 (.seq (.reg none [.q 45 (.iaddrS 5 (.tmp 41) (.tmp 43)),.q 46 (.load 5 true (.tmp 45)),.q 10 (.alloc [.int .i64 0,.int .i64 0,.int .i64 0,.str ⟨#[]⟩,.nilsl]),.s (.store 5 (.tmp 10) (.tmp 46))]) (.reg none [.q 47 (.mv (.tmp 8)),.q 48 (.load 5 true (.tmp 10)),.q 49 (.call 113 [.tmp 48] 0),.q 50 (.mks 5 [.int .i64 0,.int .i64 0,.int .i64 0,.str ⟨#[]⟩,.nilsl] 1 [(0,(.tmp 49))]),.q 51 (.append 46 5 64 (.tmp 47) (.tmp 50)),.q 8 (.mv (.tmp 51))]))) (.reg none [.q 52 (.bin .add (.tmp 43) (.val (.int .i64 1))),.q 43 (.mv (.tmp 52))]))))))) (.reg none [.q 53 (.mv (.tmp 3)),.q 54 (.mv (.tmp 3)),.q 55 (.nilchk (.tmp 54)),.q 56 (.addr 0 (.tmp 55)),.q 57 (.addr 1 (.tmp 56)),.q 58 (.load 1 false (.tmp 57)),.q 59 (.mv (.tmp 8)),.q 60 (.mks 1 [.nilsl] 1 [(0,(.tmp 59))]),.q 61 (.append 22 1 24 (.tmp 58) (.tmp 60)),.q 62 (.nilchk (.tmp 53)),.q 63 (.addr 0 (.tmp 62)),.q 64 (.addr 1 (.tmp 63)),.s (.store 1 (.tmp 64) (.tmp 61))]))))) (.reg none [.q 65 (.bin .add (.tmp 37) (.val (.int .i64 1))),.q 37 (.mv (.tmp 65))]))))))) (.seq (.reg none [.q 66 (.mv (.tmp 3)),.q 2 (.mv (.tmp 66))]) .ret)))))
def R78:List LRes := [.tmp 2]
theorem low78:Tryz.f78.body.bind (lowerCode Tryz.prog 67)=some L78:=by kernel_rfl
theorem res78:lowerRes Tryz.prog Tryz.f78.results.toList=some R78:=by kernel_rfl
set_option maxRecDepth 100000 in
def L79:LC:=(.seq (.reg none [.q 4 (.mv (.val (.int .i64 0)))]) (.seq (.seq (.reg none [.q 8 (.mv (.tmp 0)),.q 9 (.nilchk (.tmp 8)),.q 10 (.addr 0 (.tmp 9)),.q 11 (.addr 0 (.tmp 10)),.q 12 (.load 1 false (.tmp 11)),.q 13 (.mv (.tmp 1)),.q 14 (.bin .sub (.val (.int .i64 1)) (.tmp 13)),.q 15 (.iaddrS 3 (.tmp 12) (.tmp 14)),.q 16 (.addr 1 (.tmp 15)),.q 17 (.load 1 false (.tmp 16)),.q 18 (.len false (.tmp 17)),.q 19 (.mv (.val (.int .i64 0)))]) (.block 0 (.loop (.seq (.reg none [.q 20 (.bin .lss (.tmp 19) (.tmp 18))]) (.seq (.cond (.tmp 20) .skip (.exit 0)) (.seq (.block 1 (.seq (.reg none [.q 21 (.iaddrS 5 (.tmp 17) (.tmp 19)),.q 22 (.load 5 true (.tmp 21)),.q 6 (.alloc [.int .i64 0,.int .i64 0,.int .i64 0,.str ⟨#[]⟩,.nilsl]),.s (.store 5 (.tmp 6) (.tmp 22))]) (.seq (.seq (.reg none [.q 23 (.addr 0 (.tmp 6)),.q 24 (.addr 0 (.tmp 23)),.q 25 (.load 1 false (.tmp 24)),.q 26 (.mv (.tmp 1)),.q 27 (.bin .eql (.tmp 25) (.tmp 26))]) (.cond (.tmp 27) (.exit 1) .skip)) (.seq (.reg none [.q 28 (.mv (.tmp 0)),.q 29 (.mv (.tmp 1)),.q 30 (.load 5 true (.tmp 6)),.q 31 (.call 124 [.tmp 28,.tmp 29,.tmp 30] 0),.q 7 (.mv (.tmp 31))]) (.seq (.reg none [.q 32 (.mv (.tmp 7)),.q 33 (.bin .neq (.tmp 32) (.val (.int .i64 0)))]) (.cond (.tmp 33) (.seq (.reg none [.q 34 (.mv (.tmp 7)),.q 4 (.mv (.tmp 34))]) .ret) .skip)))))) (.reg none [.q 35 (.bin .add (.tmp 19) (.val (.int .i64 1))),.q 19 (.mv (.tmp 35))]))))))) (.seq (.reg none [.q 4 (.mv (.val (.int .i64 0)))]) .ret)))
def R79:List LRes := [.tmp 4]
theorem low79:Tryz.f79.body.bind (lowerCode Tryz.prog 36)=some L79:=by kernel_rfl
theorem res79:lowerRes Tryz.prog Tryz.f79.results.toList=some R79:=by kernel_rfl
set_option maxRecDepth 100000 in
def L80:LC:=(.seq (.reg none [.q 2 (.box (.tmp 0)),.q 3 (.box (.tmp 1)),.q 4 (.alloc [.nilsl,.nilsl]),.q 5 (.mv (.val (.int .i64 0)))]) (.seq (.reg none [.q 8 (.load 2 true (.tmp 2)),.q 9 (.call 78 [.tmp 8] 0),.q 6 (.mv (.tmp 9))]) (.seq (.reg none [.q 7 (.mv (.val (.int .i64 0)))]) (.seq (.block 0 (.seq (.reg none [.q 14 (.addr 0 (.tmp 3)),.q 15 (.load 1 false (.tmp 14)),.q 16 (.bin .lss (.tmp 15) (.val (.int .i64 1))),.q 17 (.mv (.tmp 16)),.g 18 (.addr 0 (.tmp 3)) 17 false,.g 19 (.load 1 false (.tmp 18)) 17 false,.g 20 (.bin .gtr (.tmp 19) (.val (.int .i64 5))) 17 false,.q 21 (.pick (.tmp 17) (.val (.bool true)) (.tmp 20)),.q 13 (.mv (.tmp 21))]) (.cond (.tmp 13) (.reg none [.q 7 (.mv (.val (.int .i64 7)))]) (.seq (.reg none [.q 23 (.load 5 true (.tmp 3)),.q 24 (.call 125 [.tmp 23] 0),.q 22 (.mv (.tmp 24))]) (.cond (.tmp 22) (.reg none [.q 7 (.mv (.val (.int .i64 1)))]) (.seq (.reg none [.q 26 (.addr 1 (.tmp 3)),.q 27 (.load 1 false (.tmp 26)),.q 28 (.bin .neq (.tmp 27) (.val (.int .i64 0))),.q 29 (.mv (.tmp 28)),.g 30 (.addr 1 (.tmp 3)) 29 true,.g 31 (.load 1 false (.tmp 30)) 29 true,.g 32 (.bin .neq (.tmp 31) (.val (.int .i64 1))) 29 true,.q 33 (.pick (.tmp 29) (.tmp 32) (.val (.bool false))),.q 25 (.mv (.tmp 33))]) (.cond (.tmp 25) (.reg none [.q 7 (.mv (.val (.int .i64 3)))]) (.reg none [.q 10 (.mv (.tmp 6)),.q 11 (.load 5 true (.tmp 3)),.q 12 (.call 126 [.tmp 10,.tmp 11] 0),.q 7 (.mv (.tmp 12))])))))))) (.seq (.seq (.reg none [.q 34 (.mv (.tmp 7)),.q 35 (.bin .neq (.tmp 34) (.val (.int .i64 0)))]) (.cond (.tmp 35) (.seq (.reg none [.q 36 (.build [.nilsl,.nilsl] []),.q 37 (.mv (.tmp 7)),.s (.store 2 (.tmp 4) (.tmp 36)),.q 5 (.mv (.tmp 37))]) .ret) .skip)) (.seq (.reg none [.q 38 (.mv (.tmp 6)),.q 39 (.nilchk (.tmp 38)),.q 40 (.addr 0 (.tmp 39)),.q 41 (.load 2 true (.tmp 40)),.s (.store 2 (.tmp 4) (.tmp 41)),.q 5 (.mv (.val (.int .i64 0)))]) .ret))))))
def R80:List LRes := [(.cell 4 2 true),.tmp 5]
theorem low80:Tryz.f80.body.bind (lowerCode Tryz.prog 42)=some L80:=by kernel_rfl
theorem res80:lowerRes Tryz.prog Tryz.f80.results.toList=some R80:=by kernel_rfl
set_option maxRecDepth 100000 in
def L81:LC:=(.seq (.reg none [.q 2 (.box (.tmp 0)),.q 3 (.box (.tmp 1)),.q 4 (.mv (.val (.bool false)))]) (.seq (.reg none [.q 5 (.addr 0 (.tmp 2)),.q 6 (.load 1 false (.tmp 5)),.q 7 (.addr 0 (.tmp 3)),.q 8 (.load 1 false (.tmp 7)),.q 9 (.bin .eql (.tmp 6) (.tmp 8)),.q 10 (.mv (.tmp 9)),.g 11 (.addr 1 (.tmp 2)) 10 true,.g 12 (.load 1 false (.tmp 11)) 10 true,.g 13 (.addr 1 (.tmp 3)) 10 true,.g 14 (.load 1 false (.tmp 13)) 10 true,.g 15 (.call 82 [.tmp 12,.tmp 14] 0) 10 true,.q 16 (.pick (.tmp 10) (.tmp 15) (.val (.bool false))),.q 17 (.mv (.tmp 16)),.g 18 (.addr 2 (.tmp 2)) 17 true,.g 19 (.load 1 false (.tmp 18)) 17 true,.g 20 (.addr 2 (.tmp 3)) 17 true,.g 21 (.load 1 false (.tmp 20)) 17 true,.g 22 (.call 82 [.tmp 19,.tmp 21] 0) 17 true,.q 23 (.pick (.tmp 17) (.tmp 22) (.val (.bool false))),.q 4 (.mv (.tmp 23))]) .ret))
def R81:List LRes := [.tmp 4]
theorem low81:Tryz.f81.body.bind (lowerCode Tryz.prog 24)=some L81:=by kernel_rfl
theorem res81:lowerRes Tryz.prog Tryz.f81.results.toList=some R81:=by kernel_rfl
set_option maxRecDepth 100000 in
def L82:LC:=(.seq (.reg none [.q 4 (.mv (.val (.bool false)))]) (.seq (.seq (.reg none [.q 6 (.mv (.tmp 0)),.q 7 (.len false (.tmp 6)),.q 8 (.mv (.tmp 1)),.q 9 (.len false (.tmp 8)),.q 10 (.bin .neq (.tmp 7) (.tmp 9))]) (.cond (.tmp 10) (.seq (.reg none [.q 4 (.mv (.val (.bool false)))]) .ret) .skip)) (.seq (.seq (.reg none [.q 5 (.mv (.val (.int .i64 0)))]) (.block 0 (.loop (.seq (.seq (.reg none [.q 11 (.mv (.tmp 5)),.q 12 (.mv (.tmp 0)),.q 13 (.len false (.tmp 12)),.q 14 (.bin .lss (.tmp 11) (.tmp 13))]) (.cond (.tmp 14) .skip (.exit 0))) (.seq (.block 1 (.seq (.reg (some []) [.q 17 (.mv (.tmp 0)),.q 18 (.mv (.tmp 5)),.z 19 (.iaddrS 5 (.tmp 17) (.tmp 18)),.z 20 (.load 5 true (.tmp 19)),.q 21 (.mv (.tmp 1)),.q 22 (.mv (.tmp 5)),.z 23 (.iaddrS 5 (.tmp 21) (.tmp 22)),.z 24 (.load 5 true (.tmp 23)),.q 25 (.call 121 [.tmp 20,.tmp 24] 0),.q 26 (.not (.tmp 25))]) (.cond (.tmp 26) (.seq (.reg none [.q 4 (.mv (.val (.bool false)))]) .ret) .skip))) (.reg none [.q 15 (.mv (.tmp 5)),.q 16 (.bin .add (.tmp 15) (.val (.int .i64 1))),.q 5 (.mv (.tmp 16))])))))) (.seq (.reg none [.q 4 (.mv (.val (.bool true)))]) .ret))))
def R82:List LRes := [.tmp 4]
theorem low82:Tryz.f82.body.bind (lowerCode Tryz.prog 27)=some L82:=by kernel_rfl
theorem res82:lowerRes Tryz.prog Tryz.f82.results.toList=some R82:=by kernel_rfl
set_option maxRecDepth 100000 in
def L83:LC:=(.seq (.reg none [.q 6 (.mv (.val (.bool false)))]) (.seq (.reg none [.q 7 (.mv (.tmp 0)),.q 8 (.mv (.tmp 1)),.q 9 (.bin .geq (.tmp 7) (.tmp 8)),.q 10 (.mv (.tmp 9)),.g 11 (.mv (.tmp 0)) 10 true,.g 12 (.mv (.tmp 2)) 10 true,.g 13 (.bin .leq (.tmp 11) (.tmp 12)) 10 true,.q 14 (.pick (.tmp 10) (.tmp 13) (.val (.bool false))),.q 6 (.mv (.tmp 14))]) .ret))
def R83:List LRes := [.tmp 6]
theorem low83:Tryz.f83.body.bind (lowerCode Tryz.prog 15)=some L83:=by kernel_rfl
theorem res83:lowerRes Tryz.prog Tryz.f83.results.toList=some R83:=by kernel_rfl
set_option maxRecDepth 100000 in
def L84:LC:=(.seq (.reg none [.q 2 (.mv (.val .nilp))]) (.seq (.reg none [.q 9 (.mv (.tmp 0)),.q 10 (.build [.nilsl,.nilsl] [(0,(1,(.tmp 9)))]),.q 11 (.box (.tmp 10)),.q 3 (.mv (.tmp 11))]) (.seq (.seq (.reg none [.q 12 (.mv (.tmp 0)),.q 13 (.len false (.tmp 12)),.q 14 (.mv (.val (.int .i64 0)))]) (.block 0 (.loop (.seq (.reg none [.q 15 (.bin .lss (.tmp 14) (.tmp 13))]) (.seq (.cond (.tmp 15) .skip (.exit 0)) (.seq (.block 1 (.seq (.reg none [.q 16 (.iaddrS 5 (.tmp 12) (.tmp 14)),.q 17 (.load 5 true (.tmp 16)),.q 5 (.alloc [.int .i64 0,.int .i64 0,.int .i64 0,.str ⟨#[]⟩,.nilsl]),.s (.store 5 (.tmp 5) (.tmp 17))]) (.seq (.reg none [.q 6 (.mv (.val .nilsl))]) (.seq (.seq (.reg none [.q 18 (.addr 4 (.tmp 5)),.q 19 (.load 1 false (.tmp 18)),.q 20 (.len false (.tmp 19)),.q 21 (.mv (.val (.int .i64 0)))]) (.block 2 (.loop (.seq (.reg none [.q 22 (.bin .lss (.tmp 21) (.tmp 20))]) (.seq (.cond (.tmp 22) .skip (.exit 2)) (.seq (.block 3 (.seq (.reg none [.q 23 (.iaddrS 2 (.tmp 19) (.tmp 21)),.q 24 (.load 2 true (.tmp 23)),.q 8 (.alloc [.int .i64 0,.int .i64 0]),.s (.store 2 (.tmp 8) (.tmp 24))]) (.reg (some [(3,5)]) [.q 25 (.mv (.tmp 6)),.z 26 (.load 2 true (.tmp 8)),.q 27 (.mks 2 [.int .i64 0,.int .i64 0] 1 [(0,(.tmp 26))]),.z 28 (.append 43 2 16 (.tmp 25) (.tmp 27)),.q 29 (.mv (.tmp 3)),.z 30 (.load 2 true (.tmp 8)),.q 31 (.call 101 [.tmp 29,.tmp 30] 0),.q 32 (.append 43 2 16 (.tmp 28) (.tmp 31)),.q 6 (.mv (.tmp 32))]))) (.reg none [.q 33 (.bin .add (.tmp 21) (.val (.int .i64 1))),.q 21 (.mv (.tmp 33))]))))))) (.seq (.reg none [.q 34 (.mv (.tmp 6)),.q 35 (.call 127 [.tmp 34,.val (.clo 104 [])] 1)]) (.reg (some [(2,6),(3,6),(4,6)]) [.q 36 (.mv (.tmp 3)),.q 37 (.mv (.tmp 3)),.z 38 (.nilchk (.tmp 37)),.z 39 (.addr 1 (.tmp 38)),.z 40 (.load 1 false (.tmp 39)),.q 41 (.mv (.tmp 6)),.z 42 (.call 128 [.tmp 41] 1),.q 43 (.mks 1 [.nilsl] 1 [(0,(.tmp 42))]),.q 44 (.append 44 1 24 (.tmp 40) (.tmp 43)),.q 45 (.nilchk (.tmp 36)),.q 46 (.addr 1 (.tmp 45)),.s (.store 1 (.tmp 46) (.tmp 44))])))))) (.reg none [.q 47 (.bin .add (.tmp 14) (.val (.int .i64 1))),.q 14 (.mv (.tmp 47))]))))))) (.seq (.reg none [.q 48 (.mv (.tmp 3)),.q 2 (.mv (.tmp 48))]) .ret))))
def R84:List LRes := [.tmp 2]
theorem low84:Tryz.f84.body.bind (lowerCode Tryz.prog 49)=some L84:=by kernel_rfl
theorem res84:lowerRes Tryz.prog Tryz.f84.results.toList=some R84:=by kernel_rfl
set_option maxRecDepth 100000 in
def L85:LC:=(.seq (.reg none [.q 4 (.mv (.val .nilsl))]) (.seq (.reg none [.q 5 (.mv (.val .nilsl))]) (.seq (.seq (.reg none [.q 12 (.mv (.tmp 0)),.q 13 (.mv (.tmp 1)),.q 14 (.call 129 [.tmp 12,.tmp 13] 0),.q 15 (.len false (.tmp 14)),.q 16 (.mv (.val (.int .i64 0)))]) (.block 0 (.loop (.seq (.reg none [.q 17 (.bin .lss (.tmp 16) (.tmp 15))]) (.seq (.cond (.tmp 17) .skip (.exit 0)) (.seq (.block 1 (.seq (.reg none [.q 18 (.iaddrS 5 (.tmp 14) (.tmp 16)),.q 19 (.load 5 true (.tmp 18)),.q 7 (.alloc [.int .i64 0,.int .i64 0,.int .i64 0,.str ⟨#[]⟩,.nilsl]),.s (.store 5 (.tmp 7) (.tmp 19))]) (.seq (.reg none [.q 21 (.addr 3 (.tmp 7)),.q 22 (.load 1 false (.tmp 21)),.q 23 (.call 11 [.tmp 22] 0),.q 20 (.mv (.tmp 23)),.q 24 (.ext 0 (.tmp 20)),.q 25 (.ext 1 (.tmp 20)),.q 26 (.ext 2 (.tmp 20)),.q 27 (.ext 3 (.tmp 20)),.q 8 (.mv (.tmp 24)),.q 9 (.mv (.tmp 25)),.q 10 (.mv (.tmp 26)),.q 11 (.mv (.tmp 27))]) (.seq (.reg none [.q 28 (.mv (.tmp 11)),.q 29 (.bin .eql (.tmp 28) (.val (.int .i64 0)))]) (.cond (.tmp 29) (.reg none [.q 30 (.mv (.tmp 5)),.q 31 (.addr 0 (.tmp 7)),.q 32 (.load 2 true (.tmp 31)),.q 33 (.mv (.tmp 9)),.q 34 (.mv (.tmp 10)),.q 35 (.mv (.tmp 8)),.q 36 (.bin .eql (.tmp 35) (.val (.int .i64 1))),.q 37 (.build [.int .i64 0,.int .i64 0,.str ⟨#[]⟩,.str ⟨#[]⟩,(.bool false)] [(0,(2,(.tmp 32))),(2,(1,(.tmp 33))),(3,(1,(.tmp 34))),(4,(1,(.tmp 36)))]),.q 38 (.mks 5 [.int .i64 0,.int .i64 0,.str ⟨#[]⟩,.str ⟨#[]⟩,(.bool false)] 1 [(0,(.tmp 37))]),.q 39 (.append 131 5 56 (.tmp 30) (.tmp 38)),.q 5 (.mv (.tmp 39))]) .skip))))) (.reg none [.q 40 (.bin .add (.tmp 16) (.val (.int .i64 1))),.q 16 (.mv (.tmp 40))]))))))) (.seq (.reg none [.q 41 (.mv (.tmp 5)),.q 4 (.mv (.tmp 41))]) .ret))))
def R85:List LRes := [.tmp 4]
theorem low85:Tryz.f85.body.bind (lowerCode Tryz.prog 42)=some L85:=by kernel_rfl
theorem res85:lowerRes Tryz.prog Tryz.f85.results.toList=some R85:=by kernel_rfl
set_option maxRecDepth 100000 in
def L87:LC:=(.seq (.reg none [.q 2 (.mv (.val .nilsl))]) (.seq (.seq (.reg none [.q 3 (.mv (.tmp 0)),.q 4 (.isnil false (.tmp 3))]) (.cond (.tmp 4) (.seq (.reg none [.q 2 (.mv (.val .nilsl))]) .ret) .skip)) (.seq (.reg none [.q 5 (.mk0 131 5),.q 6 (.mv (.tmp 0)),.q 7 (.append 131 5 56 (.tmp 5) (.tmp 6)),.q 2 (.mv (.tmp 7))]) .ret)))
def R87:List LRes := [.tmp 2]
theorem low87:Tryz.f87.body.bind (lowerCode Tryz.prog 8)=some L87:=by kernel_rfl
theorem res87:lowerRes Tryz.prog Tryz.f87.results.toList=some R87:=by kernel_rfl
set_option maxRecDepth 100000 in
def L88:LC:=(.seq (.reg none [.q 3 (.box (.tmp 0)),.q 4 (.mv (.val (.bool false)))]) (.seq (.reg none [.q 5 (.addr 4 (.tmp 3)),.q 6 (.load 1 false (.tmp 5)),.q 7 (.not (.tmp 6)),.q 8 (.mv (.tmp 7)),.g 9 (.load 1 false (.tmp 1)) 8 false,.g 10 (.clo 90 [.tmp 3,.tmp 2]) 8 false,.g 11 (.call 89 [.tmp 9,.tmp 10] 0) 8 false,.q 12 (.pick (.tmp 8) (.val (.bool true)) (.tmp 11)),.q 4 (.mv (.tmp 12))]) .ret))
def R88:List LRes := [.tmp 4]
theorem low88:Tryz.f88.body.bind (lowerCode Tryz.prog 13)=some L88:=by kernel_rfl
theorem res88:lowerRes Tryz.prog Tryz.f88.results.toList=some R88:=by kernel_rfl
set_option maxRecDepth 100000 in
def L89:LC:=(.seq (.reg none [.q 4 (.mv (.val (.bool false)))]) (.seq (.reg none [.q 5 (.mv (.tmp 0)),.q 6 (.mv (.tmp 1)),.q 7 (.call 130 [.tmp 5,.tmp 6] 0),.q 8 (.bin .geq (.tmp 7) (.val (.int .i64 0))),.q 4 (.mv (.tmp 8))]) .ret))
def R89:List LRes := [.tmp 4]
theorem low89:Tryz.f89.body.bind (lowerCode Tryz.prog 9)=some L89:=by kernel_rfl
theorem res89:lowerRes Tryz.prog Tryz.f89.results.toList=some R89:=by kernel_rfl
set_option maxRecDepth 100000 in
def L90:LC:=(.seq (.reg none [.q 3 (.box (.tmp 0)),.q 4 (.mv (.val (.bool false)))]) (.seq (.reg none [.q 5 (.addr 2 (.tmp 3)),.q 6 (.load 1 false (.tmp 5)),.q 7 (.addr 2 (.tmp 1)),.q 8 (.load 1 false (.tmp 7)),.q 9 (.bin .eql (.tmp 6) (.tmp 8)),.q 10 (.mv (.tmp 9)),.g 11 (.load 1 false (.tmp 2)) 10 true,.g 12 (.addr 0 (.tmp 1)) 10 true,.g 13 (.load 2 true (.tmp 12)) 10 true,.g 14 (.addr 0 (.tmp 3)) 10 true,.g 15 (.load 2 true (.tmp 14)) 10 true,.g 16 (.call 91 [.tmp 11,.tmp 13,.tmp 15] 0) 10 true,.q 17 (.pick (.tmp 10) (.tmp 16) (.val (.bool false))),.q 4 (.mv (.tmp 17))]) .ret))
def R90:List LRes := [.tmp 4]
theorem low90:Tryz.f90.body.bind (lowerCode Tryz.prog 18)=some L90:=by kernel_rfl
theorem res90:lowerRes Tryz.prog Tryz.f90.results.toList=some R90:=by kernel_rfl
set_option maxRecDepth 100000 in
def L91:LC:=(.seq (.reg none [.q 4 (.box (.tmp 1)),.q 5 (.box (.tmp 2)),.q 6 (.mv (.val (.bool false)))]) (.seq (.reg (some []) [.q 7 (.mv (.tmp 0)),.z 8 (.load 2 true (.tmp 5)),.z 9 (.call 101 [.tmp 7,.tmp 8] 0),.z 10 (.load 2 true (.tmp 4)),.q 11 (.call 131 [.tmp 9,.tmp 10] 0),.q 6 (.mv (.tmp 11))]) .ret))
def R91:List LRes := [.tmp 6]
theorem low91:Tryz.f91.body.bind (lowerCode Tryz.prog 12)=some L91:=by kernel_rfl
theorem res91:lowerRes Tryz.prog Tryz.f91.results.toList=some R91:=by kernel_rfl
set_option maxRecDepth 100000 in
def L95:LC:=(.seq (.reg none [.q 4 (.mv (.val (.bool false)))]) (.seq (.reg none [.q 5 (.mv (.tmp 0)),.q 6 (.mv (.tmp 1)),.q 7 (.call 135 [.tmp 5,.tmp 6] 0),.q 8 (.bin .geq (.tmp 7) (.val (.int .i64 0))),.q 4 (.mv (.tmp 8))]) .ret))
def R95:List LRes := [.tmp 4]
theorem low95:Tryz.f95.body.bind (lowerCode Tryz.prog 9)=some L95:=by kernel_rfl
theorem res95:lowerRes Tryz.prog Tryz.f95.results.toList=some R95:=by kernel_rfl
set_option maxRecDepth 100000 in
def L97:LC:=(.seq (.reg none [.q 4 (.mv (.val (.int .i64 0)))]) (.seq (.seq (.reg none [.q 6 (.mv (.tmp 0)),.q 7 (.len false (.tmp 6)),.q 8 (.mv (.val (.int .i64 0)))]) (.block 0 (.loop (.seq (.reg none [.q 9 (.bin .lss (.tmp 8) (.tmp 7))]) (.seq (.cond (.tmp 9) .skip (.exit 0)) (.seq (.block 1 (.seq (.reg none [.q 10 (.mv (.tmp 8)),.q 5 (.mv (.tmp 10))]) (.seq (.reg none [.q 11 (.mv (.tmp 1)),.q 12 (.mv (.tmp 0)),.q 13 (.mv (.tmp 5)),.q 14 (.iaddrS 1 (.tmp 12) (.tmp 13)),.q 15 (.load 1 false (.tmp 14)),.q 16 (.callv (.tmp 11) [.tmp 15])]) (.cond (.tmp 16) (.seq (.reg none [.q 17 (.mv (.tmp 5)),.q 4 (.mv (.tmp 17))]) .ret) .skip)))) (.reg none [.q 18 (.bin .add (.tmp 8) (.val (.int .i64 1))),.q 8 (.mv (.tmp 18))]))))))) (.seq (.reg none [.q 4 (.mv (.val (.int .i64 (-1))))]) .ret)))
def R97:List LRes := [.tmp 4]
theorem low97:Tryz.f97.body.bind (lowerCode Tryz.prog 19)=some L97:=by kernel_rfl
theorem res97:lowerRes Tryz.prog Tryz.f97.results.toList=some R97:=by kernel_rfl
set_option maxRecDepth 100000 in
def L101:LC:=(.seq (.reg none [.q 3 (.box (.tmp 1)),.q 4 (.mv (.val .nilsl))]) (.seq (.reg (some []) [.q 5 (.mv (.tmp 0)),.z 6 (.nilchk (.tmp 5)),.z 7 (.addr 1 (.tmp 6)),.z 8 (.load 1 false (.tmp 7)),.q 9 (.mv (.tmp 0)),.z 10 (.nilchk (.tmp 9)),.z 11 (.addr 0 (.tmp 10)),.z 12 (.load 1 false (.tmp 11)),.z 13 (.load 2 true (.tmp 3)),.z 14 (.call 60 [.tmp 12,.tmp 13] 0),.q 15 (.iaddrS 1 (.tmp 8) (.tmp 14)),.q 16 (.load 1 false (.tmp 15)),.q 4 (.mv (.tmp 16))]) .ret))
def R101:List LRes := [.tmp 4]
theorem low101:Tryz.f101.body.bind (lowerCode Tryz.prog 17)=some L101:=by kernel_rfl
theorem res101:lowerRes Tryz.prog Tryz.f101.results.toList=some R101:=by kernel_rfl
set_option maxRecDepth 100000 in
def L102:LC:=(.seq (.reg none [.q 4 (.mv (.val .nilsl))]) (.seq (.reg none [.q 10 (.mv (.tmp 0)),.q 11 (.call 84 [.tmp 10] 0),.q 5 (.alloc [.nilp]),.s (.store 1 (.tmp 5) (.tmp 11))]) (.seq (.reg none [.q 12 (.mv (.tmp 0)),.q 13 (.mv (.tmp 1)),.q 14 (.call 129 [.tmp 12,.tmp 13] 0),.q 6 (.mv (.tmp 14))]) (.seq (.reg none [.q 7 (.mv (.val .nilsl))]) (.seq (.seq (.reg none [.q 15 (.mv (.tmp 6)),.q 16 (.len false (.tmp 15)),.q 17 (.mv (.val (.int .i64 0)))]) (.block 0 (.loop (.seq (.reg none [.q 18 (.bin .lss (.tmp 17) (.tmp 16))]) (.seq (.cond (.tmp 18) .skip (.exit 0)) (.seq (.block 1 (.seq (.reg none [.q 19 (.iaddrS 5 (.tmp 15) (.tmp 17)),.q 20 (.load 5 true (.tmp 19)),.q 9 (.alloc [.int .i64 0,.int .i64 0,.int .i64 0,.str ⟨#[]⟩,.nilsl]),.s (.store 5 (.tmp 9) (.tmp 20))]) (.seq (.reg none [.q 21 (.mv (.tmp 6)),.q 22 (.clo 139 [.tmp 5,.tmp 9]),.q 23 (.call 119 [.tmp 21,.tmp 22] 0),.q 24 (.not (.tmp 23))]) (.cond (.tmp 24) (.reg none [.q 25 (.mv (.tmp 7)),.q 26 (.addr 0 (.tmp 9)),.q 27 (.load 2 true (.tmp 26)),.q 28 (.mks 2 [.int .i64 0,.int .i64 0] 1 [(0,(.tmp 27))]),.q 29 (.append 43 2 16 (.tmp 25) (.tmp 28)),.q 7 (.mv (.tmp 29))]) .skip)))) (.reg none [.q 30 (.bin .add (.tmp 17) (.val (.int .i64 1))),.q 17 (.mv (.tmp 30))]))))))) (.seq (.reg none [.q 31 (.mv (.tmp 7)),.q 32 (.call 127 [.tmp 31,.val (.clo 104 [])] 1)]) (.seq (.reg none [.q 33 (.mv (.tmp 7)),.q 4 (.mv (.tmp 33))]) .ret)))))))
def R102:List LRes := [.tmp 4]
theorem low102:Tryz.f102.body.bind (lowerCode Tryz.prog 34)=some L102:=by kernel_rfl
theorem res102:lowerRes Tryz.prog Tryz.f102.results.toList=some R102:=by kernel_rfl
set_option maxRecDepth 100000 in
def L103:LC:=(.seq (.reg none [.q 1 (.box (.tmp 0)),.q 2 (.mv (.val (.bool false)))]) (.seq (.reg none [.q 3 (.addr 0 (.tmp 1)),.q 4 (.load 1 false (.tmp 3)),.q 5 (.call 83 [.tmp 4,.val (.int .i64 0),.val (.int .i64 1)] 0),.q 6 (.mv (.tmp 5)),.g 7 (.addr 1 (.tmp 1)) 6 true,.g 8 (.load 1 false (.tmp 7)) 6 true,.g 9 (.call 83 [.tmp 8,.val (.int .i64 1),.val (.int .i64 20)] 0) 6 true,.q 10 (.pick (.tmp 6) (.tmp 9) (.val (.bool false))),.q 2 (.mv (.tmp 10))]) .ret))
def R103:List LRes := [.tmp 2]
theorem low103:Tryz.f103.body.bind (lowerCode Tryz.prog 11)=some L103:=by kernel_rfl
theorem res103:lowerRes Tryz.prog Tryz.f103.results.toList=some R103:=by kernel_rfl
set_option maxRecDepth 100000 in
def L104:LC:=(.seq (.reg none [.q 2 (.box (.tmp 0)),.q 3 (.box (.tmp 1)),.q 4 (.mv (.val (.int .i64 0)))]) (.seq (.reg none [.q 5 (.mv (.val (.clo 140 [])))]) (.seq (.seq (.reg none [.q 7 (.mv (.tmp 5)),.q 8 (.addr 0 (.tmp 2)),.q 9 (.load 1 false (.tmp 8)),.q 10 (.addr 0 (.tmp 3)),.q 11 (.load 1 false (.tmp 10)),.q 12 (.callv (.tmp 7) [.tmp 9,.tmp 11]),.q 6 (.mv (.tmp 12))]) (.seq (.reg none [.q 13 (.mv (.tmp 6)),.q 14 (.bin .neq (.tmp 13) (.val (.int .i64 0)))]) (.cond (.tmp 14) (.seq (.reg none [.q 15 (.mv (.tmp 6)),.q 4 (.mv (.tmp 15))]) .ret) .skip))) (.seq (.reg none [.q 16 (.mv (.tmp 5)),.q 17 (.addr 1 (.tmp 2)),.q 18 (.load 1 false (.tmp 17)),.q 19 (.addr 1 (.tmp 3)),.q 20 (.load 1 false (.tmp 19)),.q 21 (.callv (.tmp 16) [.tmp 18,.tmp 20]),.q 4 (.mv (.tmp 21))]) .ret))))
def R104:List LRes := [.tmp 4]
theorem low104:Tryz.f104.body.bind (lowerCode Tryz.prog 22)=some L104:=by kernel_rfl
theorem res104:lowerRes Tryz.prog Tryz.f104.results.toList=some R104:=by kernel_rfl
set_option maxRecDepth 100000 in
def L105:LC:=(.seq (.reg none [.q 4 (.mv (.val (.int .i64 0)))]) (.seq (.seq (.reg none [.q 6 (.mv (.tmp 0)),.q 7 (.len false (.tmp 6)),.q 8 (.mv (.val (.int .i64 0)))]) (.block 0 (.loop (.seq (.reg none [.q 9 (.bin .lss (.tmp 8) (.tmp 7))]) (.seq (.cond (.tmp 9) .skip (.exit 0)) (.seq (.block 1 (.seq (.reg none [.q 10 (.mv (.tmp 8)),.q 5 (.mv (.tmp 10))]) (.seq (.reg none [.q 11 (.mv (.tmp 1)),.q 12 (.mv (.tmp 0)),.q 13 (.mv (.tmp 5)),.q 14 (.iaddrS 5 (.tmp 12) (.tmp 13)),.q 15 (.load 5 true (.tmp 14)),.q 16 (.callv (.tmp 11) [.tmp 15])]) (.cond (.tmp 16) (.seq (.reg none [.q 17 (.mv (.tmp 5)),.q 4 (.mv (.tmp 17))]) .ret) .skip)))) (.reg none [.q 18 (.bin .add (.tmp 8) (.val (.int .i64 1))),.q 8 (.mv (.tmp 18))]))))))) (.seq (.reg none [.q 4 (.mv (.val (.int .i64 (-1))))]) .ret)))
def R105:List LRes := [.tmp 4]
theorem low105:Tryz.f105.body.bind (lowerCode Tryz.prog 19)=some L105:=by kernel_rfl
theorem res105:lowerRes Tryz.prog Tryz.f105.results.toList=some R105:=by kernel_rfl
set_option maxRecDepth 100000 in
def L106:LC:=(.seq (.reg none [.q 2 (.box (.tmp 0)),.q 3 (.mv (.val (.bool false)))]) (.seq (.reg none [.q 4 (.addr 0 (.tmp 2)),.q 5 (.load 2 true (.tmp 4)),.q 6 (.load 2 true (.tmp 1)),.q 7 (.eqag false [.i,.i] (.tmp 5) (.tmp 6)),.q 3 (.mv (.tmp 7))]) .ret))
def R106:List LRes := [.tmp 3]
theorem low106:Tryz.f106.body.bind (lowerCode Tryz.prog 8)=some L106:=by kernel_rfl
theorem res106:lowerRes Tryz.prog Tryz.f106.results.toList=some R106:=by kernel_rfl
set_option maxRecDepth 100000 in
def L107:LC:=(.seq (.reg none [.q 4 (.mv (.val (.bool false)))]) (.seq (.reg none [.q 5 (.mv (.tmp 0)),.q 6 (.mv (.tmp 1)),.q 7 (.call 141 [.tmp 5,.tmp 6] 0),.q 8 (.bin .geq (.tmp 7) (.val (.int .i64 0))),.q 4 (.mv (.tmp 8))]) .ret))
def R107:List LRes := [.tmp 4]
theorem low107:Tryz.f107.body.bind (lowerCode Tryz.prog 9)=some L107:=by kernel_rfl
theorem res107:lowerRes Tryz.prog Tryz.f107.results.toList=some R107:=by kernel_rfl
set_option maxRecDepth 100000 in
def L108:LC:=(.seq (.reg none [.q 2 (.box (.tmp 0)),.q 3 (.mv (.val (.bool false)))]) (.seq (.reg none [.q 4 (.load 1 false (.tmp 1)),.q 5 (.load 2 true (.tmp 2)),.q 6 (.call 60 [.tmp 4,.tmp 5] 0),.q 7 (.bin .lss (.tmp 6) (.val (.int .i64 0))),.q 3 (.mv (.tmp 7))]) .ret))
def R108:List LRes := [.tmp 3]
theorem low108:Tryz.f108.body.bind (lowerCode Tryz.prog 8)=some L108:=by kernel_rfl
theorem res108:lowerRes Tryz.prog Tryz.f108.results.toList=some R108:=by kernel_rfl
set_option maxRecDepth 100000 in
def L109:LC:=(.seq (.reg none [.q 2 (.box (.tmp 0)),.q 3 (.box (.tmp 1)),.q 4 (.alloc [.int .i64 0,.nilsl,.nilsl]),.q 5 (.mv (.val (.int .i64 0)))]) (.seq (.reg none [.q 9 (.load 3 true (.tmp 2)),.q 10 (.call 111 [.tmp 9] 0),.q 11 (.build [.int .i64 0,.nilsl,.nilsl] [(0,(3,(.tmp 10)))]),.q 12 (.box (.tmp 11)),.q 6 (.mv (.tmp 12))]) (.seq (.seq (.reg none [.q 13 (.addr 1 (.tmp 2)),.q 14 (.load 1 false (.tmp 13)),.q 15 (.addr 0 (.tmp 3)),.q 16 (.load 2 true (.tmp 15)),.q 17 (.call 60 [.tmp 14,.tmp 16] 0),.q 18 (.bin .geq (.tmp 17) (.val (.int .i64 0))),.q 19 (.mv (.tmp 18)),.g 20 (.addr 2 (.tmp 2)) 19 false,.g 21 (.load 1 false (.tmp 20)) 19 false,.g 22 (.addr 0 (.tmp 3)) 19 false,.g 23 (.load 2 true (.tmp 22)) 19 false,.g 24 (.call 60 [.tmp 21,.tmp 23] 0) 19 false,.g 25 (.bin .geq (.tmp 24) (.val (.int .i64 0))) 19 false,.q 26 (.pick (.tmp 19) (.val (.bool true)) (.tmp 25))]) (.cond (.tmp 26) (.seq (.reg none [.q 27 (.mv (.tmp 6)),.q 28 (.nilchk (.tmp 27)),.q 29 (.addr 0 (.tmp 28)),.q 30 (.load 3 true (.tmp 29)),.s (.store 3 (.tmp 4) (.tmp 30)),.q 5 (.mv (.val (.int .i64 0)))]) .ret) .skip)) (.seq (.seq (.reg none [.q 31 (.addr 0 (.tmp 3)),.q 32 (.addr 0 (.tmp 31)),.q 33 (.load 1 false (.tmp 32)),.q 34 (.addr 0 (.tmp 2)),.q 35 (.load 1 false (.tmp 34)),.q 36 (.bin .eql (.tmp 33) (.tmp 35))]) (.cond (.tmp 36) (.seq (.reg none [.q 37 (.build [.int .i64 0,.nilsl,.nilsl] []),.s (.store 3 (.tmp 4) (.tmp 37)),.q 5 (.mv (.val (.int .i64 4)))]) .ret) .skip)) (.seq (.reg (some []) [.q 39 (.mv (.tmp 6)),.z 40 (.nilchk (.tmp 39)),.z 41 (.addr 0 (.tmp 40)),.z 42 (.addr 2 (.tmp 41)),.z 43 (.load 1 false (.tmp 42)),.z 44 (.addr 0 (.tmp 3)),.z 45 (.load 2 true (.tmp 44)),.q 46 (.call 142 [.tmp 43,.tmp 45,.val (.clo 143 [])] 0),.q 38 (.mv (.tmp 46)),.q 47 (.ext 0 (.tmp 38)),.q 48 (.ext 1 (.tmp 38)),.q 7 (.mv (.tmp 47)),.q 8 (.mv (.tmp 48))]) (.seq (.reg (some []) [.q 49 (.mv (.tmp 6)),.q 50 (.mv (.tmp 6)),.z 51 (.nilchk (.tmp 50)),.z 52 (.addr 0 (.tmp 51)),.z 53 (.addr 2 (.tmp 52)),.z 54 (.load 1 false (.tmp 53)),.q 55 (.mv (.tmp 7)),.z 56 (.load 5 true (.tmp 3)),.z 57 (.call 113 [.tmp 56] 0),.q 58 (.mks 5 [.int .i64 0,.int .i64 0,.int .i64 0,.str ⟨#[]⟩,.nilsl] 1 [(0,(.tmp 57))]),.q 59 (.call 144 [.tmp 54,.tmp 55,.tmp 58] 1),.q 60 (.nilchk (.tmp 49)),.q 61 (.addr 0 (.tmp 60)),.q 62 (.addr 2 (.tmp 61)),.s (.store 1 (.tmp 62) (.tmp 59))]) (.seq (.reg none [.q 63 (.mv (.tmp 6)),.q 64 (.call 112 [.tmp 63] 0)]) (.seq (.seq (.reg none [.q 65 (.mv (.tmp 6)),.q 66 (.nilchk (.tmp 65)),.q 67 (.addr 0 (.tmp 66)),.q 68 (.addr 2 (.tmp 67)),.q 69 (.load 1 false (.tmp 68)),.q 70 (.len false (.tmp 69)),.q 71 (.bin .gtr (.tmp 70) (.val (.int .i64 20))),.q 72 (.mv (.tmp 71)),.g 73 (.mv (.tmp 6)) 72 false,.g 74 (.nilchk (.tmp 73)) 72 false,.g 75 (.addr 0 (.tmp 74)) 72 false,.g 76 (.addr 1 (.tmp 75)) 72 false,.g 77 (.load 1 false (.tmp 76)) 72 false,.g 78 (.len false (.tmp 77)) 72 false,.g 79 (.bin .gtr (.tmp 78) (.val (.int .i64 40))) 72 false,.q 80 (.pick (.tmp 72) (.val (.bool true)) (.tmp 79))]) (.cond (.tmp 80) (.seq (.reg none [.q 81 (.build [.int .i64 0,.nilsl,.nilsl] []),.s (.store 3 (.tmp 4) (.tmp 81)),.q 5 (.mv (.val (.int .i64 2)))]) .ret) .skip)) (.seq (.reg none [.q 82 (.mv (.tmp 6)),.q 83 (.nilchk (.tmp 82)),.q 84 (.addr 0 (.tmp 83)),.q 85 (.load 3 true (.tmp 84)),.s (.store 3 (.tmp 4) (.tmp 85)),.q 5 (.mv (.val (.int .i64 0)))]) .ret)))))))))
def R109:List LRes := [(.cell 4 3 true),.tmp 5]
theorem low109:Tryz.f109.body.bind (lowerCode Tryz.prog 86)=some L109:=by kernel_rfl
theorem res109:lowerRes Tryz.prog Tryz.f109.results.toList=some R109:=by kernel_rfl
set_option maxRecDepth 100000 in
def L110:LC:=(.seq (.reg none [.q 2 (.box (.tmp 0)),.q 3 (.box (.tmp 1)),.q 4 (.mv (.val (.bool false)))]) (.seq (.reg none [.q 5 (.load 2 true (.tmp 2)),.q 6 (.load 2 true (.tmp 3)),.q 7 (.call 104 [.tmp 5,.tmp 6] 0),.q 8 (.bin .lss (.tmp 7) (.val (.int .i64 0))),.q 4 (.mv (.tmp 8))]) .ret))
def R110:List LRes := [.tmp 4]
theorem low110:Tryz.f110.body.bind (lowerCode Tryz.prog 9)=some L110:=by kernel_rfl
theorem res110:lowerRes Tryz.prog Tryz.f110.results.toList=some R110:=by kernel_rfl
set_option maxRecDepth 100000 in
def L111:LC:=(.seq (.reg none [.q 1 (.box (.tmp 0)),.q 2 (.alloc [.int .i64 0,.nilsl,.nilsl])]) (.seq (.reg (some [(0,4),(1,4),(4,5),(4,6),(0,7),(1,7)]) [.z 3 (.addr 0 (.tmp 1)),.z 4 (.load 1 false (.tmp 3)),.z 5 (.addr 1 (.tmp 1)),.z 6 (.load 1 false (.tmp 5)),.z 7 (.call 145 [.tmp 6] 2),.z 8 (.addr 2 (.tmp 1)),.z 9 (.load 1 false (.tmp 8)),.z 10 (.call 145 [.tmp 9] 2),.q 11 (.build [.int .i64 0,.nilsl,.nilsl] [(0,(1,(.tmp 4))),(1,(1,(.tmp 7))),(2,(1,(.tmp 10)))]),.s (.store 3 (.tmp 2) (.tmp 11))]) .ret))
def R111:List LRes := [(.cell 2 3 true)]
theorem low111:Tryz.f111.body.bind (lowerCode Tryz.prog 12)=some L111:=by kernel_rfl
theorem res111:lowerRes Tryz.prog Tryz.f111.results.toList=some R111:=by kernel_rfl
set_option maxRecDepth 100000 in
def L112:LC:=(.seq (.reg none [.q 1 (.box (.tmp 0))]) (.seq (.reg none [.q 4 (.clo 146 [.tmp 1]),.q 2 (.mv (.tmp 4))]) (.seq (.reg none [.q 5 (.load 1 false (.tmp 1)),.q 6 (.nilchk (.tmp 5)),.q 7 (.addr 0 (.tmp 6)),.q 8 (.addr 2 (.tmp 7)),.q 9 (.load 1 false (.tmp 8)),.q 10 (.mv (.tmp 2)),.q 11 (.call 105 [.tmp 9,.tmp 10] 0),.q 3 (.mv (.tmp 11))]) (.block 0 (.loop (.seq (.seq (.reg none [.q 12 (.mv (.tmp 3)),.q 13 (.bin .geq (.tmp 12) (.val (.int .i64 0)))]) (.cond (.tmp 13) .skip (.exit 0))) (.seq (.block 1 (.seq (.reg (some [(0,15)]) [.z 21 (.load 1 false (.tmp 1)),.z 22 (.load 1 false (.tmp 1)),.z 23 (.nilchk (.tmp 22)),.z 24 (.addr 0 (.tmp 23)),.z 25 (.addr 1 (.tmp 24)),.z 26 (.load 1 false (.tmp 25)),.z 27 (.load 1 false (.tmp 1)),.z 28 (.nilchk (.tmp 27)),.z 29 (.addr 0 (.tmp 28)),.z 30 (.addr 2 (.tmp 29)),.z 31 (.load 1 false (.tmp 30)),.q 32 (.mv (.tmp 3)),.z 33 (.iaddrS 5 (.tmp 31) (.tmp 32)),.z 34 (.load 5 true (.tmp 33)),.q 35 (.mks 5 [.int .i64 0,.int .i64 0,.int .i64 0,.str ⟨#[]⟩,.nilsl] 1 [(0,(.tmp 34))]),.z 36 (.append 46 5 64 (.tmp 26) (.tmp 35)),.q 37 (.nilchk (.tmp 21)),.q 38 (.addr 0 (.tmp 37)),.q 39 (.addr 1 (.tmp 38)),.s (.store 1 (.tmp 39) (.tmp 36))]) (.reg (some [(0,9)]) [.z 40 (.load 1 false (.tmp 1)),.z 41 (.load 1 false (.tmp 1)),.z 42 (.nilchk (.tmp 41)),.z 43 (.addr 0 (.tmp 42)),.z 44 (.addr 2 (.tmp 43)),.z 45 (.load 1 false (.tmp 44)),.q 46 (.mv (.tmp 3)),.q 47 (.mv (.tmp 3)),.q 48 (.bin .add (.tmp 47) (.val (.int .i64 1))),.z 49 (.call 147 [.tmp 45,.tmp 46,.tmp 48] 1),.q 50 (.nilchk (.tmp 40)),.q 51 (.addr 0 (.tmp 50)),.q 52 (.addr 2 (.tmp 51)),.s (.store 1 (.tmp 52) (.tmp 49))]))) (.reg none [.q 14 (.load 1 false (.tmp 1)),.q 15 (.nilchk (.tmp 14)),.q 16 (.addr 0 (.tmp 15)),.q 17 (.addr 2 (.tmp 16)),.q 18 (.load 1 false (.tmp 17)),.q 19 (.mv (.tmp 2)),.q 20 (.call 105 [.tmp 18,.tmp 19] 0),.q 3 (.mv (.tmp 20))]))))))))
def R112:List LRes := []
theorem low112:Tryz.f112.body.bind (lowerCode Tryz.prog 53)=some L112:=by kernel_rfl
theorem res112:lowerRes Tryz.prog Tryz.f112.results.toList=some R112:=by kernel_rfl
set_option maxRecDepth 100000 in
def L113:LC:=(.seq (.reg none [.q 1 (.box (.tmp 0)),.q 2 (.alloc [.int .i64 0,.int .i64 0,.int .i64 0,.str ⟨#[]⟩,.nilsl])]) (.seq (.reg none [.q 3 (.addr 4 (.tmp 1)),.q 4 (.load 1 false (.tmp 3)),.q 5 (.call 148 [.tmp 4] 0),.q 6 (.addr 4 (.tmp 1)),.s (.store 1 (.tmp 6) (.tmp 5))]) (.seq (.reg none [.q 7 (.load 5 true (.tmp 1)),.s (.store 5 (.tmp 2) (.tmp 7))]) .ret)))
def R113:List LRes := [(.cell 2 5 true)]
theorem low113:Tryz.f113.body.bind (lowerCode Tryz.prog 8)=some L113:=by kernel_rfl
theorem res113:lowerRes Tryz.prog Tryz.f113.results.toList=some R113:=by kernel_rfl
set_option maxRecDepth 100000 in
def L114:LC:=(.reg (some []) [.z 3 (.load 1 false (.tmp 1)),.q 4 (.mv (.tmp 0)),.z 5 (.call 115 [.tmp 4,.val (.str ⟨#[]⟩)] 0),.q 6 (.bin .add (.tmp 3) (.tmp 5)),.s (.store 1 (.tmp 1) (.tmp 6))])
def R114:List LRes := []
theorem low114:Tryz.f114.body.bind (lowerCode Tryz.prog 7)=some L114:=by kernel_rfl
theorem res114:lowerRes Tryz.prog Tryz.f114.results.toList=some R114:=by kernel_rfl
set_option maxRecDepth 100000 in
def L116:LC:=(.seq (.reg none [.q 2 (.box (.tmp 0)),.q 4 (.mv (.val (.int .i64 0)))]) (.seq (.seq (.reg none [.q 8 (.mv (.tmp 1)),.q 9 (.len false (.tmp 8)),.q 10 (.bin .gtr (.tmp 9) (.val (.int .i64 30)))]) (.cond (.tmp 10) (.seq (.reg none [.q 4 (.mv (.val (.int .i64 2)))]) .ret) .skip)) (.seq (.seq (.reg none [.q 11 (.mv (.tmp 1)),.q 12 (.len false (.tmp 11)),.q 13 (.mv (.val (.int .i64 0)))]) (.block 0 (.loop (.seq (.reg none [.q 14 (.bin .lss (.tmp 13) (.tmp 12))]) (.seq (.cond (.tmp 14) .skip (.exit 0)) (.seq (.block 1 (.seq (.reg none [.q 15 (.iaddrS 5 (.tmp 11) (.tmp 13)),.q 16 (.load 5 true (.tmp 15)),.q 6 (.alloc [.int .i64 0,.int .i64 0,.int .i64 0,.str ⟨#[]⟩,.nilsl]),.s (.store 5 (.tmp 6) (.tmp 16))]) (.seq (.seq (.reg none [.q 17 (.load 5 true (.tmp 6)),.q 18 (.call 59 [.tmp 17] 0),.q 7 (.mv (.tmp 18))]) (.seq (.reg none [.q 19 (.mv (.tmp 7)),.q 20 (.bin .neq (.tmp 19) (.val (.int .i64 0)))]) (.cond (.tmp 20) (.seq (.reg none [.q 21 (.mv (.tmp 7)),.q 4 (.mv (.tmp 21))]) .ret) .skip))) (.seq (.reg none [.q 22 (.load 2 true (.tmp 2)),.q 23 (.load 5 true (.tmp 6)),.q 24 (.call 118 [.tmp 22,.tmp 23] 0),.q 25 (.not (.tmp 24))]) (.cond (.tmp 25) (.seq (.reg none [.q 4 (.mv (.val (.int .i64 4)))]) .ret) .skip))))) (.reg none [.q 26 (.bin .add (.tmp 13) (.val (.int .i64 1))),.q 13 (.mv (.tmp 26))]))))))) (.seq (.reg none [.q 4 (.mv (.val (.int .i64 0)))]) .ret))))
def R116:List LRes := [.tmp 4]
theorem low116:Tryz.f116.body.bind (lowerCode Tryz.prog 27)=some L116:=by kernel_rfl
theorem res116:lowerRes Tryz.prog Tryz.f116.results.toList=some R116:=by kernel_rfl
set_option maxRecDepth 100000 in
def L117:LC:=(.seq (.reg none [.q 2 (.box (.tmp 0)),.q 3 (.mv (.val (.bool false)))]) (.seq (.reg none [.q 4 (.load 2 true (.tmp 1)),.q 5 (.load 5 true (.tmp 2)),.q 6 (.call 118 [.tmp 4,.tmp 5] 0),.q 7 (.not (.tmp 6)),.q 3 (.mv (.tmp 7))]) .ret))
def R117:List LRes := [.tmp 3]
theorem low117:Tryz.f117.body.bind (lowerCode Tryz.prog 8)=some L117:=by kernel_rfl
theorem res117:lowerRes Tryz.prog Tryz.f117.results.toList=some R117:=by kernel_rfl
set_option maxRecDepth 100000 in
def L118:LC:=(.seq (.reg none [.q 2 (.box (.tmp 0)),.q 3 (.box (.tmp 1)),.q 4 (.mv (.val (.bool false)))]) (.seq (.reg none [.q 7 (.addr 0 (.tmp 2)),.q 8 (.load 1 false (.tmp 7)),.q 9 (.addr 0 (.tmp 3)),.q 10 (.addr 0 (.tmp 9)),.q 11 (.load 1 false (.tmp 10)),.q 12 (.iaddrS 3 (.tmp 8) (.tmp 11)),.q 13 (.addr 1 (.tmp 12)),.q 14 (.load 1 false (.tmp 13)),.q 5 (.mv (.tmp 14))]) (.seq (.reg none [.q 15 (.mv (.tmp 5)),.q 16 (.addr 0 (.tmp 3)),.q 17 (.load 2 true (.tmp 16)),.q 18 (.call 60 [.tmp 15,.tmp 17] 0),.q 6 (.mv (.tmp 18))]) (.seq (.reg (some []) [.q 19 (.mv (.tmp 6)),.q 20 (.bin .geq (.tmp 19) (.val (.int .i64 0))),.q 21 (.mv (.tmp 20)),.g 22 (.mv (.tmp 5)) 21 true,.g 23 (.mv (.tmp 6)) 21 true,.y 24 (.iaddrS 5 (.tmp 22) (.tmp 23)) 21 true,.y 25 (.load 5 true (.tmp 24)) 21 true,.y 26 (.load 5 true (.tmp 3)) 21 true,.g 27 (.call 152 [.tmp 25,.tmp 26] 0) 21 true,.q 28 (.pick (.tmp 21) (.tmp 27) (.val (.bool false))),.q 4 (.mv (.tmp 28))]) .ret))))
def R118:List LRes := [.tmp 4]
theorem low118:Tryz.f118.body.bind (lowerCode Tryz.prog 29)=some L118:=by kernel_rfl
theorem res118:lowerRes Tryz.prog Tryz.f118.results.toList=some R118:=by kernel_rfl
set_option maxRecDepth 100000 in
def L119:LC:=(.seq (.reg none [.q 4 (.mv (.val (.bool false)))]) (.seq (.reg none [.q 5 (.mv (.tmp 0)),.q 6 (.mv (.tmp 1)),.q 7 (.call 105 [.tmp 5,.tmp 6] 0),.q 8 (.bin .geq (.tmp 7) (.val (.int .i64 0))),.q 4 (.mv (.tmp 8))]) .ret))
def R119:List LRes := [.tmp 4]
theorem low119:Tryz.f119.body.bind (lowerCode Tryz.prog 9)=some L119:=by kernel_rfl
theorem res119:lowerRes Tryz.prog Tryz.f119.results.toList=some R119:=by kernel_rfl
set_option maxRecDepth 100000 in
def L121:LC:=(.seq (.reg none [.q 2 (.box (.tmp 0)),.q 3 (.box (.tmp 1)),.q 4 (.mv (.val (.bool false)))]) (.seq (.reg none [.q 5 (.addr 0 (.tmp 2)),.q 6 (.load 2 true (.tmp 5)),.q 7 (.addr 0 (.tmp 3)),.q 8 (.load 2 true (.tmp 7)),.q 9 (.eqag false [.i,.i] (.tmp 6) (.tmp 8)),.q 10 (.mv (.tmp 9)),.g 11 (.addr 2 (.tmp 2)) 10 true,.g 12 (.load 1 false (.tmp 11)) 10 true,.g 13 (.addr 2 (.tmp 3)) 10 true,.g 14 (.load 1 false (.tmp 13)) 10 true,.g 15 (.bin .eql (.tmp 12) (.tmp 14)) 10 true,.q 16 (.pick (.tmp 10) (.tmp 15) (.val (.bool false))),.q 17 (.mv (.tmp 16)),.g 18 (.addr 3 (.tmp 2)) 17 true,.g 19 (.load 1 false (.tmp 18)) 17 true,.g 20 (.addr 3 (.tmp 3)) 17 true,.g 21 (.load 1 false (.tmp 20)) 17 true,.g 22 (.bin .eql (.tmp 19) (.tmp 21)) 17 true,.q 23 (.pick (.tmp 17) (.tmp 22) (.val (.bool false))),.q 24 (.mv (.tmp 23)),.g 25 (.addr 4 (.tmp 2)) 24 true,.g 26 (.load 1 false (.tmp 25)) 24 true,.g 27 (.addr 4 (.tmp 3)) 24 true,.g 28 (.load 1 false (.tmp 27)) 24 true,.g 29 (.call 58 [.tmp 26,.tmp 28] 0) 24 true,.q 30 (.pick (.tmp 24) (.tmp 29) (.val (.bool false))),.q 4 (.mv (.tmp 30))]) .ret))
def R121:List LRes := [.tmp 4]
theorem low121:Tryz.f121.body.bind (lowerCode Tryz.prog 31)=some L121:=by kernel_rfl
theorem res121:lowerRes Tryz.prog Tryz.f121.results.toList=some R121:=by kernel_rfl
set_option maxRecDepth 100000 in
def L124:LC:=(.seq (.reg none [.q 5 (.box (.tmp 2)),.q 6 (.mv (.val (.int .i64 0)))]) (.seq (.reg (some [(1,13),(2,13),(3,13),(4,13),(6,13),(7,13),(8,13),(9,13)]) [.q 10 (.mv (.tmp 0)),.z 11 (.nilchk (.tmp 10)),.z 12 (.addr 0 (.tmp 11)),.z 13 (.addr 0 (.tmp 12)),.z 14 (.load 1 false (.tmp 13)),.q 15 (.mv (.tmp 1)),.z 16 (.iaddrS 3 (.tmp 14) (.tmp 15)),.z 17 (.load 3 true (.tmp 16)),.z 18 (.load 5 true (.tmp 5)),.z 19 (.call 109 [.tmp 17,.tmp 18] 0),.q 9 (.mv (.tmp 19)),.q 20 (.ext 0 (.tmp 9)),.q 21 (.ext 1 (.tmp 9)),.z 7 (.alloc [.int .i64 0,.nilsl,.nilsl]),.s (.store 3 (.tmp 7) (.tmp 20)),.q 8 (.mv (.tmp 21))]) (.seq (.seq (.reg none [.q 22 (.mv (.tmp 8)),.q 23 (.bin .eql (.tmp 22) (.val (.int .i64 0)))]) (.cond (.tmp 23) (.reg (some []) [.q 24 (.mv (.tmp 0)),.z 25 (.nilchk (.tmp 24)),.z 26 (.addr 0 (.tmp 25)),.z 27 (.addr 0 (.tmp 26)),.z 28 (.load 1 false (.tmp 27)),.q 29 (.mv (.tmp 1)),.z 30 (.load 3 true (.tmp 7)),.q 31 (.iaddrS 3 (.tmp 28) (.tmp 29)),.s (.store 3 (.tmp 31) (.tmp 30))]) .skip)) (.seq (.reg none [.q 32 (.mv (.tmp 8)),.q 6 (.mv (.tmp 32))]) .ret))))
def R124:List LRes := [.tmp 6]
theorem low124:Tryz.f124.body.bind (lowerCode Tryz.prog 33)=some L124:=by kernel_rfl
theorem res124:lowerRes Tryz.prog Tryz.f124.results.toList=some R124:=by kernel_rfl
set_option maxRecDepth 100000 in
def L125:LC:=(.seq (.reg none [.q 1 (.box (.tmp 0)),.q 2 (.mv (.val (.bool false)))]) (.seq (.reg (some []) [.z 5 (.addr 0 (.tmp 1)),.z 6 (.load 1 false (.tmp 5)),.q 7 (.bin .eql (.tmp 6) (.val (.int .i64 1))),.z 8 (.addr 0 (.tmp 1)),.z 9 (.load 1 false (.tmp 8)),.q 10 (.bin .eql (.tmp 9) (.val (.int .i64 5))),.q 3 (.mv (.tmp 7)),.q 4 (.mv (.tmp 10))]) (.seq (.reg none [.q 11 (.mv (.tmp 3)),.q 12 (.not (.tmp 11)),.q 13 (.mv (.tmp 12)),.g 14 (.addr 3 (.tmp 1)) 13 true,.g 15 (.load 1 false (.tmp 14)) 13 true,.g 16 (.bin .neq (.tmp 15) (.val (.int .i64 0))) 13 true,.g 17 (.mv (.tmp 16)) 13 true,.g 18 (.addr 4 (.tmp 1)) 17 false,.g 19 (.load 1 false (.tmp 18)) 17 false,.g 20 (.bin .neq (.tmp 19) (.val (.str ⟨#[]⟩))) 17 false,.g 21 (.pick (.tmp 17) (.val (.bool true)) (.tmp 20)) 13 true,.q 22 (.pick (.tmp 13) (.tmp 21) (.val (.bool false))),.q 23 (.mv (.tmp 22)),.g 24 (.mv (.tmp 3)) 23 false,.g 25 (.mv (.tmp 24)) 23 false,.g 26 (.mv (.tmp 4)) 25 false,.g 27 (.pick (.tmp 25) (.val (.bool true)) (.tmp 26)) 23 false,.g 28 (.mv (.tmp 27)) 23 false,.g 29 (.addr 2 (.tmp 1)) 28 true,.g 30 (.load 1 false (.tmp 29)) 28 true,.g 31 (.bin .neq (.tmp 30) (.val (.int .i64 0))) 28 true,.g 32 (.pick (.tmp 28) (.tmp 31) (.val (.bool false))) 23 false,.q 33 (.pick (.tmp 23) (.val (.bool true)) (.tmp 32)),.q 2 (.mv (.tmp 33))]) .ret)))
def R125:List LRes := [.tmp 2]
theorem low125:Tryz.f125.body.bind (lowerCode Tryz.prog 34)=some L125:=by kernel_rfl
theorem res125:lowerRes Tryz.prog Tryz.f125.results.toList=some R125:=by kernel_rfl
set_option maxRecDepth 100000 in
def L126:LC:=(.seq (.reg none [.q 3 (.box (.tmp 1)),.q 4 (.mv (.val (.int .i64 0)))]) (.seq (.seq (.reg none [.q 8 (.addr 0 (.tmp 3)),.q 9 (.load 1 false (.tmp 8))]) (.block 0 (.seq (.reg none [.q 11 (.bin .eql (.tmp 9) (.val (.int .i64 1))),.q 10 (.mv (.tmp 11))]) (.cond (.tmp 10) (.seq (.regS [(49,(3,true)),(46,(5,true))] [(1,18),(2,18),(3,18),(4,18),(5,18),(6,18),(7,18),(8,18),(9,18),(10,18),(11,18),(12,18),(13,18),(1,19),(2,19),(3,19),(4,19),(5,19),(6,19),(7,19),(8,19),(9,19),(10,19),(11,19),(12,19),(13,19),(18,19)] [.q 13 (.mv (.tmp 0)),.z 14 (.nilchk (.tmp 13)),.z 15 (.addr 0 (.tmp 14)),.z 16 (.addr 0 (.tmp 15)),.z 17 (.load 1 false (.tmp 16)),.z 18 (.addr 1 (.tmp 3)),.z 19 (.load 1 false (.tmp 18)),.z 20 (.iaddrS 3 (.tmp 17) (.tmp 19)),.z 21 (.load 3 true (.tmp 20)),.z 22 (.addr 3 (.tmp 3)),.z 23 (.load 1 false (.tmp 22)),.z 24 (.addr 4 (.tmp 3)),.z 25 (.load 1 false (.tmp 24)),.z 26 (.call 23 [.tmp 21,.tmp 23,.tmp 25] 0),.q 12 (.mv (.tmp 26)),.q 27 (.ext 0 (.tmp 12)),.q 28 (.ext 1 (.tmp 12)),.q 29 (.ext 2 (.tmp 12)),.z 5 (.alloci 49 0 [.int .i64 0,.nilsl,.nilsl]),.z 6 (.alloci 46 1 [.int .i64 0,.int .i64 0,.int .i64 0,.str ⟨#[]⟩,.nilsl]),.s (.store 3 (.tmp 5) (.tmp 27)),.s (.store 5 (.tmp 6) (.tmp 28)),.q 7 (.mv (.tmp 29))]) (.seq (.seq (.reg none [.q 30 (.mv (.tmp 7)),.q 31 (.bin .neq (.tmp 30) (.val (.int .i64 0)))]) (.cond (.tmp 31) (.seq (.reg none [.q 32 (.mv (.tmp 7)),.q 4 (.mv (.tmp 32))]) .ret) .skip)) (.seq (.reg (some []) [.q 33 (.mv (.tmp 0)),.z 34 (.nilchk (.tmp 33)),.z 35 (.addr 0 (.tmp 34)),.z 36 (.addr 0 (.tmp 35)),.z 37 (.load 1 false (.tmp 36)),.z 38 (.addr 1 (.tmp 3)),.z 39 (.load 1 false (.tmp 38)),.z 40 (.load 3 true (.tmp 5)),.q 41 (.iaddrS 3 (.tmp 37) (.tmp 39)),.s (.store 3 (.tmp 41) (.tmp 40))]) (.seq (.reg none [.q 42 (.mv (.tmp 0)),.q 43 (.addr 1 (.tmp 3)),.q 44 (.load 1 false (.tmp 43)),.q 45 (.bin .sub (.val (.int .i64 1)) (.tmp 44)),.q 46 (.load 5 true (.tmp 6)),.q 47 (.call 154 [.tmp 42,.tmp 45,.tmp 46] 0)]) (.seq (.reg none [.q 4 (.mv (.val (.int .i64 0)))]) .ret))))) (.seq (.reg none [.q 49 (.bin .eql (.tmp 9) (.val (.int .i64 5))),.q 48 (.mv (.tmp 49))]) (.cond (.tmp 48) (.seq (.reg none [.q 50 (.mv (.tmp 0)),.q 51 (.addr 1 (.tmp 3)),.q 52 (.load 1 false (.tmp 51)),.q 53 (.call 79 [.tmp 50,.tmp 52] 0),.q 4 (.mv (.tmp 53))]) .ret) .skip)))))) (.seq (.seq (.reg (some []) [.q 54 (.addr 2 (.tmp 3)),.q 55 (.load 1 false (.tmp 54)),.q 56 (.bin .lss (.tmp 55) (.val (.int .i64 0))),.q 57 (.mv (.tmp 56)),.y 58 (.addr 2 (.tmp 3)) 57 false,.y 59 (.load 1 false (.tmp 58)) 57 false,.g 60 (.mv (.tmp 0)) 57 false,.y 61 (.nilchk (.tmp 60)) 57 false,.y 62 (.addr 0 (.tmp 61)) 57 false,.y 63 (.addr 1 (.tmp 62)) 57 false,.y 64 (.load 1 false (.tmp 63)) 57 false,.y 65 (.addr 1 (.tmp 3)) 57 false,.y 66 (.load 1 false (.tmp 65)) 57 false,.y 67 (.iaddrS 1 (.tmp 64) (.tmp 66)) 57 false,.y 68 (.load 1 false (.tmp 67)) 57 false,.y 69 (.len false (.tmp 68)) 57 false,.g 70 (.bin .geq (.tmp 59) (.tmp 69)) 57 false,.q 71 (.pick (.tmp 57) (.val (.bool true)) (.tmp 70))]) (.cond (.tmp 71) (.seq (.reg none [.q 4 (.mv (.val (.int .i64 5)))]) .ret) .skip)) (.seq (.seq (.reg none [.q 72 (.addr 0 (.tmp 3)),.q 73 (.load 1 false (.tmp 72))]) (.block 1 (.seq (.reg none [.q 75 (.bin .eql (.tmp 73) (.val (.int .i64 2))),.q 74 (.mv (.tmp 75))]) (.cond (.tmp 74) (.seq (.reg (some [(1,8),(2,8)]) [.q 76 (.mv (.tmp 0)),.z 77 (.addr 1 (.tmp 3)),.z 78 (.load 1 false (.tmp 77)),.q 79 (.mv (.tmp 0)),.z 80 (.addr 1 (.tmp 3)),.z 81 (.load 1 false (.tmp 80)),.z 82 (.addr 2 (.tmp 3)),.z 83 (.load 1 false (.tmp 82)),.z 84 (.call 155 [.tmp 79,.tmp 81,.tmp 83] 3),.q 85 (.call 124 [.tmp 76,.tmp 78,.tmp 84] 0),.q 4 (.mv (.tmp 85))]) .ret) (.seq (.reg none [.q 87 (.bin .eql (.tmp 73) (.val (.int .i64 3))),.q 86 (.mv (.tmp 87))]) (.cond (.tmp 86) (.reg none [.q 88 (.mv (.tmp 0)),.q 89 (.addr 1 (.tmp 3)),.q 90 (.load 1 false (.tmp 89)),.q 91 (.addr 2 (.tmp 3)),.q 92 (.load 1 false (.tmp 91)),.q 93 (.call 155 [.tmp 88,.tmp 90,.tmp 92] 3)]) (.seq (.reg none [.q 95 (.bin .eql (.tmp 73) (.val (.int .i64 4))),.q 94 (.mv (.tmp 95))]) (.cond (.tmp 94) (.seq (.reg (some []) [.q 96 (.mv (.tmp 0)),.z 97 (.addr 1 (.tmp 3)),.z 98 (.load 1 false (.tmp 97)),.q 99 (.mv (.tmp 0)),.z 100 (.nilchk (.tmp 99)),.z 101 (.addr 0 (.tmp 100)),.z 102 (.addr 1 (.tmp 101)),.z 103 (.load 1 false (.tmp 102)),.z 104 (.addr 1 (.tmp 3)),.z 105 (.load 1 false (.tmp 104)),.z 106 (.iaddrS 1 (.tmp 103) (.tmp 105)),.z 107 (.load 1 false (.tmp 106)),.z 108 (.addr 2 (.tmp 3)),.z 109 (.load 1 false (.tmp 108)),.z 110 (.iaddrS 5 (.tmp 107) (.tmp 109)),.z 111 (.load 5 true (.tmp 110)),.q 112 (.call 154 [.tmp 96,.tmp 98,.tmp 111] 0),.q 113 (.not (.tmp 112))]) (.cond (.tmp 113) (.seq (.reg none [.q 4 (.mv (.val (.int .i64 2)))]) .ret) .skip)) .skip)))))))) (.seq (.reg none [.q 4 (.mv (.val (.int .i64 0)))]) .ret)))))
def R126:List LRes := [.tmp 4]
theorem low126:Tryz.f126.body.bind (lowerCode Tryz.prog 114)=some L126:=by kernel_rfl
theorem res126:lowerRes Tryz.prog Tryz.f126.results.toList=some R126:=by kernel_rfl
set_option maxRecDepth 100000 in
def L129:LC:=(.seq (.reg none [.q 4 (.mv (.val .nilsl))]) (.seq (.reg none [.q 5 (.mv (.val .nilsl))]) (.seq (.seq (.reg none [.q 8 (.mv (.tmp 0)),.q 9 (.len false (.tmp 8)),.q 10 (.mv (.val (.int .i64 0)))]) (.block 0 (.loop (.seq (.reg none [.q 11 (.bin .lss (.tmp 10) (.tmp 9))]) (.seq (.cond (.tmp 11) .skip (.exit 0)) (.seq (.block 1 (.seq (.reg none [.q 12 (.iaddrS 5 (.tmp 8) (.tmp 10)),.q 13 (.load 5 true (.tmp 12)),.q 7 (.alloc [.int .i64 0,.int .i64 0,.int .i64 0,.str ⟨#[]⟩,.nilsl]),.s (.store 5 (.tmp 7) (.tmp 13))]) (.seq (.reg none [.q 14 (.addr 2 (.tmp 7)),.q 15 (.load 1 false (.tmp 14)),.q 16 (.mv (.tmp 1)),.q 17 (.bin .and (.tmp 15) (.tmp 16)),.q 18 (.bin .neq (.tmp 17) (.val (.int .i64 0)))]) (.cond (.tmp 18) (.reg none [.q 19 (.mv (.tmp 5)),.q 20 (.load 5 true (.tmp 7)),.q 21 (.mks 5 [.int .i64 0,.int .i64 0,.int .i64 0,.str ⟨#[]⟩,.nilsl] 1 [(0,(.tmp 20))]),.q 22 (.append 46 5 64 (.tmp 19) (.tmp 21)),.q 5 (.mv (.tmp 22))]) .skip)))) (.reg none [.q 23 (.bin .add (.tmp 10) (.val (.int .i64 1))),.q 10 (.mv (.tmp 23))]))))))) (.seq (.reg none [.q 24 (.mv (.tmp 5)),.q 4 (.mv (.tmp 24))]) .ret))))
def R129:List LRes := [.tmp 4]
theorem low129:Tryz.f129.body.bind (lowerCode Tryz.prog 25)=some L129:=by kernel_rfl
theorem res129:lowerRes Tryz.prog Tryz.f129.results.toList=some R129:=by kernel_rfl
set_option maxRecDepth 100000 in
def L130:LC:=(.seq (.reg none [.q 4 (.mv (.val (.int .i64 0)))]) (.seq (.seq (.reg none [.q 6 (.mv (.tmp 0)),.q 7 (.len false (.tmp 6)),.q 8 (.mv (.val (.int .i64 0)))]) (.block 0 (.loop (.seq (.reg none [.q 9 (.bin .lss (.tmp 8) (.tmp 7))]) (.seq (.cond (.tmp 9) .skip (.exit 0)) (.seq (.block 1 (.seq (.reg none [.q 10 (.mv (.tmp 8)),.q 5 (.mv (.tmp 10))]) (.seq (.reg none [.q 11 (.mv (.tmp 1)),.q 12 (.mv (.tmp 0)),.q 13 (.mv (.tmp 5)),.q 14 (.iaddrS 5 (.tmp 12) (.tmp 13)),.q 15 (.load 5 true (.tmp 14)),.q 16 (.callv (.tmp 11) [.tmp 15])]) (.cond (.tmp 16) (.seq (.reg none [.q 17 (.mv (.tmp 5)),.q 4 (.mv (.tmp 17))]) .ret) .skip)))) (.reg none [.q 18 (.bin .add (.tmp 8) (.val (.int .i64 1))),.q 8 (.mv (.tmp 18))]))))))) (.seq (.reg none [.q 4 (.mv (.val (.int .i64 (-1))))]) .ret)))
def R130:List LRes := [.tmp 4]
theorem low130:Tryz.f130.body.bind (lowerCode Tryz.prog 19)=some L130:=by kernel_rfl
theorem res130:lowerRes Tryz.prog Tryz.f130.results.toList=some R130:=by kernel_rfl
set_option maxRecDepth 100000 in
def L131:LC:=(.seq (.reg none [.q 3 (.box (.tmp 1)),.q 4 (.mv (.val (.bool false)))]) (.seq (.reg none [.q 5 (.mv (.tmp 0)),.q 6 (.load 2 true (.tmp 3)),.q 7 (.call 157 [.tmp 5,.tmp 6] 0),.q 8 (.bin .geq (.tmp 7) (.val (.int .i64 0))),.q 4 (.mv (.tmp 8))]) .ret))
def R131:List LRes := [.tmp 4]
theorem low131:Tryz.f131.body.bind (lowerCode Tryz.prog 9)=some L131:=by kernel_rfl
theorem res131:lowerRes Tryz.prog Tryz.f131.results.toList=some R131:=by kernel_rfl
set_option maxRecDepth 100000 in
def L135:LC:=(.seq (.reg none [.q 4 (.mv (.val (.int .i64 0)))]) (.seq (.seq (.reg none [.q 6 (.mv (.tmp 0)),.q 7 (.len false (.tmp 6)),.q 8 (.mv (.val (.int .i64 0)))]) (.block 0 (.loop (.seq (.reg none [.q 9 (.bin .lss (.tmp 8) (.tmp 7))]) (.seq (.cond (.tmp 9) .skip (.exit 0)) (.seq (.block 1 (.seq (.reg none [.q 10 (.mv (.tmp 8)),.q 5 (.mv (.tmp 10))]) (.seq (.reg none [.q 11 (.mv (.tmp 1)),.q 12 (.mv (.tmp 0)),.q 13 (.mv (.tmp 5)),.q 14 (.iaddrS 1 (.tmp 12) (.tmp 13)),.q 15 (.load 1 false (.tmp 14)),.q 16 (.bin .eql (.tmp 11) (.tmp 15))]) (.cond (.tmp 16) (.seq (.reg none [.q 17 (.mv (.tmp 5)),.q 4 (.mv (.tmp 17))]) .ret) .skip)))) (.reg none [.q 18 (.bin .add (.tmp 8) (.val (.int .i64 1))),.q 8 (.mv (.tmp 18))]))))))) (.seq (.reg none [.q 4 (.mv (.val (.int .i64 (-1))))]) .ret)))
def R135:List LRes := [.tmp 4]
theorem low135:Tryz.f135.body.bind (lowerCode Tryz.prog 19)=some L135:=by kernel_rfl
theorem res135:lowerRes Tryz.prog Tryz.f135.results.toList=some R135:=by kernel_rfl
set_option maxRecDepth 100000 in
def L139:LC:=(.seq (.reg none [.q 3 (.box (.tmp 0)),.q 4 (.mv (.val (.bool false)))]) (.seq (.reg none [.q 5 (.load 1 false (.tmp 1)),.q 6 (.addr 0 (.tmp 2)),.q 7 (.load 2 true (.tmp 6)),.q 8 (.addr 0 (.tmp 3)),.q 9 (.load 2 true (.tmp 8)),.q 10 (.call 91 [.tmp 5,.tmp 7,.tmp 9] 0),.q 4 (.mv (.tmp 10))]) .ret))
def R139:List LRes := [.tmp 4]
theorem low139:Tryz.f139.body.bind (lowerCode Tryz.prog 11)=some L139:=by kernel_rfl
theorem res139:lowerRes Tryz.prog Tryz.f139.results.toList=some R139:=by kernel_rfl
set_option maxRecDepth 100000 in
def L140:LC:=(.seq (.reg none [.q 4 (.mv (.val (.int .i64 0)))]) (.seq (.block 0 (.seq (.reg none [.q 6 (.mv (.tmp 0)),.q 7 (.mv (.tmp 1)),.q 8 (.bin .lss (.tmp 6) (.tmp 7)),.q 5 (.mv (.tmp 8))]) (.cond (.tmp 5) (.seq (.reg none [.q 4 (.mv (.val (.int .i64 (-1))))]) .ret) (.seq (.reg none [.q 10 (.mv (.tmp 0)),.q 11 (.mv (.tmp 1)),.q 12 (.bin .gtr (.tmp 10) (.tmp 11)),.q 9 (.mv (.tmp 12))]) (.cond (.tmp 9) (.seq (.reg none [.q 4 (.mv (.val (.int .i64 1)))]) .ret) .skip))))) (.seq (.reg none [.q 4 (.mv (.val (.int .i64 0)))]) .ret)))
def R140:List LRes := [.tmp 4]
theorem low140:Tryz.f140.body.bind (lowerCode Tryz.prog 13)=some L140:=by kernel_rfl
theorem res140:lowerRes Tryz.prog Tryz.f140.results.toList=some R140:=by kernel_rfl
set_option maxRecDepth 100000 in
def L141:LC:=(.seq (.reg none [.q 4 (.mv (.val (.int .i64 0)))]) (.seq (.seq (.reg none [.q 6 (.mv (.tmp 0)),.q 7 (.len false (.tmp 6)),.q 8 (.mv (.val (.int .i64 0)))]) (.block 0 (.loop (.seq (.reg none [.q 9 (.bin .lss (.tmp 8) (.tmp 7))]) (.seq (.cond (.tmp 9) .skip (.exit 0)) (.seq (.block 1 (.seq (.reg none [.q 10 (.mv (.tmp 8)),.q 5 (.mv (.tmp 10))]) (.seq (.reg none [.q 11 (.mv (.tmp 1)),.q 12 (.mv (.tmp 0)),.q 13 (.mv (.tmp 5)),.q 14 (.iaddrS 2 (.tmp 12) (.tmp 13)),.q 15 (.load 2 true (.tmp 14)),.q 16 (.callv (.tmp 11) [.tmp 15])]) (.cond (.tmp 16) (.seq (.reg none [.q 17 (.mv (.tmp 5)),.q 4 (.mv (.tmp 17))]) .ret) .skip)))) (.reg none [.q 18 (.bin .add (.tmp 8) (.val (.int .i64 1))),.q 8 (.mv (.tmp 18))]))))))) (.seq (.reg none [.q 4 (.mv (.val (.int .i64 (-1))))]) .ret)))
def R141:List LRes := [.tmp 4]
theorem low141:Tryz.f141.body.bind (lowerCode Tryz.prog 19)=some L141:=by kernel_rfl
theorem res141:lowerRes Tryz.prog Tryz.f141.results.toList=some R141:=by kernel_rfl
set_option maxRecDepth 100000 in
def L142:LC:=(.seq (.reg none [.q 4 (.box (.tmp 1)),.q 6 (.mv (.val (.int .i64 0))),.q 7 (.mv (.val (.bool false)))]) (.seq (.reg none [.q 12 (.mv (.tmp 0)),.q 13 (.len false (.tmp 12)),.q 8 (.mv (.tmp 13))]) (.seq (.reg none [.q 14 (.mv (.tmp 8)),.q 9 (.mv (.val (.int .i64 0))),.q 10 (.mv (.tmp 14))]) (.seq (.block 0 (.loop (.seq (.seq (.reg none [.q 15 (.mv (.tmp 9)),.q 16 (.mv (.tmp 10)),.q 17 (.bin .lss (.tmp 15) (.tmp 16))]) (.cond (.tmp 17) .skip (.exit 0))) (.block 1 (.seq (.reg none [.q 18 (.mv (.tmp 9)),.q 19 (.mv (.tmp 10)),.q 20 (.bin .add (.tmp 18) (.tmp 19)),.q 21 (.conv .u64 (.tmp 20)),.q 22 (.bin .shr (.tmp 21) (.val (.int .u64 1))),.q 23 (.conv .i64 (.tmp 22)),.q 11 (.mv (.tmp 23))]) (.seq (.reg (some []) [.q 24 (.mv (.tmp 2)),.q 25 (.mv (.tmp 0)),.q 26 (.mv (.tmp 11)),.z 27 (.iaddrS 5 (.tmp 25) (.tmp 26)),.z 28 (.load 5 true (.tmp 27)),.z 29 (.load 2 true (.tmp 4)),.q 30 (.callv (.tmp 24) [.tmp 28,.tmp 29]),.q 31 (.bin .lss (.tmp 30) (.val (.int .i64 0)))]) (.cond (.tmp 31) (.reg none [.q 32 (.mv (.tmp 11)),.q 33 (.bin .add (.tmp 32) (.val (.int .i64 1))),.q 9 (.mv (.tmp 33))]) (.reg none [.q 34 (.mv (.tmp 11)),.q 10 (.mv (.tmp 34))])))))))) (.seq (.reg (some []) [.q 35 (.mv (.tmp 9)),.q 36 (.mv (.tmp 9)),.q 37 (.mv (.tmp 8)),.q 38 (.bin .lss (.tmp 36) (.tmp 37)),.q 39 (.mv (.tmp 38)),.g 40 (.mv (.tmp 2)) 39 true,.g 41 (.mv (.tmp 0)) 39 true,.g 42 (.mv (.tmp 9)) 39 true,.y 43 (.iaddrS 5 (.tmp 41) (.tmp 42)) 39 true,.y 44 (.load 5 true (.tmp 43)) 39 true,.y 45 (.load 2 true (.tmp 4)) 39 true,.g 46 (.callv (.tmp 40) [.tmp 44,.tmp 45]) 39 true,.g 47 (.bin .eql (.tmp 46) (.val (.int .i64 0))) 39 true,.q 48 (.pick (.tmp 39) (.tmp 47) (.val (.bool false))),.q 6 (.mv (.tmp 35)),.q 7 (.mv (.tmp 48))]) .ret)))))
def R142:List LRes := [.tmp 6,.tmp 7]
theorem low142:Tryz.f142.body.bind (lowerCode Tryz.prog 49)=some L142:=by kernel_rfl
theorem res142:lowerRes Tryz.prog Tryz.f142.results.toList=some R142:=by kernel_rfl
set_option maxRecDepth 100000 in
def L143:LC:=(.seq (.reg none [.q 2 (.box (.tmp 0)),.q 3 (.box (.tmp 1)),.q 4 (.mv (.val (.int .i64 0)))]) (.seq (.reg none [.q 5 (.addr 0 (.tmp 2)),.q 6 (.load 2 true (.tmp 5)),.q 7 (.load 2 true (.tmp 3)),.q 8 (.call 104 [.tmp 6,.tmp 7] 0),.q 4 (.mv (.tmp 8))]) .ret))
def R143:List LRes := [.tmp 4]
theorem low143:Tryz.f143.body.bind (lowerCode Tryz.prog 9)=some L143:=by kernel_rfl
theorem res143:lowerRes Tryz.prog Tryz.f143.results.toList=some R143:=by kernel_rfl
set_option maxRecDepth 100000 in
def L145:LC:=(.seq (.reg none [.q 2 (.mv (.val .nilsl))]) (.seq (.reg none [.q 3 (.mv (.val .nilsl))]) (.seq (.seq (.reg none [.q 6 (.mv (.tmp 0)),.q 7 (.len false (.tmp 6)),.q 8 (.mv (.val (.int .i64 0)))]) (.block 0 (.loop (.seq (.reg none [.q 9 (.bin .lss (.tmp 8) (.tmp 7))]) (.seq (.cond (.tmp 9) .skip (.exit 0)) (.seq (.block 1 (.seq (.reg none [.q 10 (.iaddrS 5 (.tmp 6) (.tmp 8)),.q 11 (.load 5 true (.tmp 10)),.q 5 (.alloc [.int .i64 0,.int .i64 0,.int .i64 0,.str ⟨#[]⟩,.nilsl]),.s (.store 5 (.tmp 5) (.tmp 11))]) (.reg none [.q 12 (.mv (.tmp 3)),.q 13 (.load 5 true (.tmp 5)),.q 14 (.call 113 [.tmp 13] 0),.q 15 (.mks 5 [.int .i64 0,.int .i64 0,.int .i64 0,.str ⟨#[]⟩,.nilsl] 1 [(0,(.tmp 14))]),.q 16 (.append 46 5 64 (.tmp 12) (.tmp 15)),.q 3 (.mv (.tmp 16))]))) (.reg none [.q 17 (.bin .add (.tmp 8) (.val (.int .i64 1))),.q 8 (.mv (.tmp 17))]))))))) (.seq (.reg none [.q 18 (.mv (.tmp 3)),.q 2 (.mv (.tmp 18))]) .ret))))
def R145:List LRes := [.tmp 2]
theorem low145:Tryz.f145.body.bind (lowerCode Tryz.prog 19)=some L145:=by kernel_rfl
theorem res145:lowerRes Tryz.prog Tryz.f145.results.toList=some R145:=by kernel_rfl
set_option maxRecDepth 100000 in
def L146:LC:=(.seq (.reg none [.q 2 (.box (.tmp 0)),.q 3 (.mv (.val (.bool false)))]) (.seq (.reg (some []) [.z 4 (.load 1 false (.tmp 1)),.z 5 (.nilchk (.tmp 4)),.z 6 (.addr 0 (.tmp 5)),.z 7 (.addr 1 (.tmp 6)),.z 8 (.load 1 false (.tmp 7)),.z 9 (.load 5 true (.tmp 2)),.q 10 (.call 62 [.tmp 8,.tmp 9] 0),.q 3 (.mv (.tmp 10))]) .ret))
def R146:List LRes := [.tmp 3]
theorem low146:Tryz.f146.body.bind (lowerCode Tryz.prog 11)=some L146:=by kernel_rfl
theorem res146:lowerRes Tryz.prog Tryz.f146.results.toList=some R146:=by kernel_rfl
set_option maxRecDepth 100000 in
def L148:LC:=(.seq (.reg none [.q 2 (.mv (.val .nilsl))]) (.seq (.seq (.reg none [.q 3 (.mv (.tmp 0)),.q 4 (.isnil false (.tmp 3))]) (.cond (.tmp 4) (.seq (.reg none [.q 2 (.mv (.val .nilsl))]) .ret) .skip)) (.seq (.reg none [.q 5 (.mk0 43 2),.q 6 (.mv (.tmp 0)),.q 7 (.append 43 2 16 (.tmp 5) (.tmp 6)),.q 2 (.mv (.tmp 7))]) .ret)))
def R148:List LRes := [.tmp 2]
theorem low148:Tryz.f148.body.bind (lowerCode Tryz.prog 8)=some L148:=by kernel_rfl
theorem res148:lowerRes Tryz.prog Tryz.f148.results.toList=some R148:=by kernel_rfl
set_option maxRecDepth 100000 in
def L152:LC:=(.seq (.reg none [.q 2 (.box (.tmp 0)),.q 3 (.box (.tmp 1)),.q 4 (.mv (.val (.bool false)))]) (.seq (.reg none [.q 5 (.addr 0 (.tmp 2)),.q 6 (.load 2 true (.tmp 5)),.q 7 (.addr 0 (.tmp 3)),.q 8 (.load 2 true (.tmp 7)),.q 9 (.eqag false [.i,.i] (.tmp 6) (.tmp 8)),.q 10 (.mv (.tmp 9)),.g 11 (.addr 2 (.tmp 2)) 10 true,.g 12 (.load 1 false (.tmp 11)) 10 true,.g 13 (.addr 2 (.tmp 3)) 10 true,.g 14 (.load 1 false (.tmp 13)) 10 true,.g 15 (.bin .eql (.tmp 12) (.tmp 14)) 10 true,.q 16 (.pick (.tmp 10) (.tmp 15) (.val (.bool false))),.q 17 (.mv (.tmp 16)),.g 18 (.addr 3 (.tmp 2)) 17 true,.g 19 (.load 1 false (.tmp 18)) 17 true,.g 20 (.addr 3 (.tmp 3)) 17 true,.g 21 (.load 1 false (.tmp 20)) 17 true,.g 22 (.bin .eql (.tmp 19) (.tmp 21)) 17 true,.q 23 (.pick (.tmp 17) (.tmp 22) (.val (.bool false))),.q 24 (.mv (.tmp 23)),.g 25 (.addr 4 (.tmp 2)) 24 true,.g 26 (.load 1 false (.tmp 25)) 24 true,.g 27 (.addr 4 (.tmp 3)) 24 true,.g 28 (.load 1 false (.tmp 27)) 24 true,.g 29 (.call 177 [.tmp 26,.tmp 28] 0) 24 true,.q 30 (.pick (.tmp 24) (.tmp 29) (.val (.bool false))),.q 4 (.mv (.tmp 30))]) .ret))
def R152:List LRes := [.tmp 4]
theorem low152:Tryz.f152.body.bind (lowerCode Tryz.prog 31)=some L152:=by kernel_rfl
theorem res152:lowerRes Tryz.prog Tryz.f152.results.toList=some R152:=by kernel_rfl
set_option maxRecDepth 100000 in
def L154:LC:=(.seq (.reg none [.q 5 (.box (.tmp 2)),.q 6 (.mv (.val (.bool false)))]) (.seq (.seq (.reg none [.q 7 (.mv (.tmp 0)),.q 8 (.nilchk (.tmp 7)),.q 9 (.addr 0 (.tmp 8)),.q 10 (.addr 1 (.tmp 9)),.q 11 (.load 1 false (.tmp 10)),.q 12 (.mv (.tmp 1)),.q 13 (.iaddrS 1 (.tmp 11) (.tmp 12)),.q 14 (.load 1 false (.tmp 13)),.q 15 (.len false (.tmp 14)),.q 16 (.bin .eql (.tmp 15) (.val (.int .i64 30)))]) (.cond (.tmp 16) (.seq (.reg none [.q 6 (.mv (.val (.bool false)))]) .ret) .skip)) (.seq (.reg (some [(1,17),(2,17),(3,17),(4,17)]) [.q 17 (.mv (.tmp 0)),.z 18 (.nilchk (.tmp 17)),.z 19 (.addr 0 (.tmp 18)),.z 20 (.addr 1 (.tmp 19)),.z 21 (.load 1 false (.tmp 20)),.q 22 (.mv (.tmp 1)),.q 23 (.mv (.tmp 0)),.z 24 (.nilchk (.tmp 23)),.z 25 (.addr 0 (.tmp 24)),.z 26 (.addr 1 (.tmp 25)),.z 27 (.load 1 false (.tmp 26)),.q 28 (.mv (.tmp 1)),.z 29 (.iaddrS 1 (.tmp 27) (.tmp 28)),.z 30 (.load 1 false (.tmp 29)),.z 31 (.load 5 true (.tmp 5)),.z 32 (.call 113 [.tmp 31] 0),.q 33 (.mks 5 [.int .i64 0,.int .i64 0,.int .i64 0,.str ⟨#[]⟩,.nilsl] 1 [(0,(.tmp 32))]),.z 34 (.append 46 5 64 (.tmp 30) (.tmp 33)),.q 35 (.iaddrS 1 (.tmp 21) (.tmp 22)),.s (.store 1 (.tmp 35) (.tmp 34))]) (.seq (.reg none [.q 6 (.mv (.val (.bool true)))]) .ret))))
def R154:List LRes := [.tmp 6]
theorem low154:Tryz.f154.body.bind (lowerCode Tryz.prog 36)=some L154:=by kernel_rfl
theorem res154:lowerRes Tryz.prog Tryz.f154.results.toList=some R154:=by kernel_rfl
set_option maxRecDepth 100000 in
def L155:LC:=(.seq (.reg none [.q 6 (.alloc [.int .i64 0,.int .i64 0,.int .i64 0,.str ⟨#[]⟩,.nilsl])]) (.seq (.reg none [.q 8 (.mv (.tmp 0)),.q 9 (.nilchk (.tmp 8)),.q 10 (.addr 0 (.tmp 9)),.q 11 (.addr 1 (.tmp 10)),.q 12 (.load 1 false (.tmp 11)),.q 13 (.mv (.tmp 1)),.q 14 (.iaddrS 1 (.tmp 12) (.tmp 13)),.q 15 (.load 1 false (.tmp 14)),.q 16 (.mv (.tmp 2)),.q 17 (.iaddrS 5 (.tmp 15) (.tmp 16)),.q 18 (.load 5 true (.tmp 17)),.q 7 (.alloc [.int .i64 0,.int .i64 0,.int .i64 0,.str ⟨#[]⟩,.nilsl]),.s (.store 5 (.tmp 7) (.tmp 18))]) (.seq (.reg (some [(1,17),(2,17),(3,17),(4,17)]) [.q 19 (.mv (.tmp 0)),.z 20 (.nilchk (.tmp 19)),.z 21 (.addr 0 (.tmp 20)),.z 22 (.addr 1 (.tmp 21)),.z 23 (.load 1 false (.tmp 22)),.q 24 (.mv (.tmp 1)),.q 25 (.mv (.tmp 0)),.z 26 (.nilchk (.tmp 25)),.z 27 (.addr 0 (.tmp 26)),.z 28 (.addr 1 (.tmp 27)),.z 29 (.load 1 false (.tmp 28)),.q 30 (.mv (.tmp 1)),.z 31 (.iaddrS 1 (.tmp 29) (.tmp 30)),.z 32 (.load 1 false (.tmp 31)),.q 33 (.mv (.tmp 2)),.q 34 (.mv (.tmp 2)),.q 35 (.bin .add (.tmp 34) (.val (.int .i64 1))),.z 36 (.call 147 [.tmp 32,.tmp 33,.tmp 35] 1),.q 37 (.iaddrS 1 (.tmp 23) (.tmp 24)),.s (.store 1 (.tmp 37) (.tmp 36))]) (.seq (.reg none [.q 38 (.load 5 true (.tmp 7)),.s (.store 5 (.tmp 6) (.tmp 38))]) .ret))))
def R155:List LRes := [(.cell 6 5 true)]
theorem low155:Tryz.f155.body.bind (lowerCode Tryz.prog 39)=some L155:=by kernel_rfl
theorem res155:lowerRes Tryz.prog Tryz.f155.results.toList=some R155:=by kernel_rfl
set_option maxRecDepth 100000 in
def L157:LC:=(.seq (.reg none [.q 3 (.box (.tmp 1)),.q 4 (.mv (.val (.int .i64 0)))]) (.seq (.seq (.reg none [.q 6 (.mv (.tmp 0)),.q 7 (.len false (.tmp 6)),.q 8 (.mv (.val (.int .i64 0)))]) (.block 0 (.loop (.seq (.reg none [.q 9 (.bin .lss (.tmp 8) (.tmp 7))]) (.seq (.cond (.tmp 9) .skip (.exit 0)) (.seq (.block 1 (.seq (.reg none [.q 10 (.mv (.tmp 8)),.q 5 (.mv (.tmp 10))]) (.seq (.reg (some []) [.z 11 (.load 2 true (.tmp 3)),.q 12 (.mv (.tmp 0)),.q 13 (.mv (.tmp 5)),.z 14 (.iaddrS 2 (.tmp 12) (.tmp 13)),.z 15 (.load 2 true (.tmp 14)),.q 16 (.eqag false [.i,.i] (.tmp 11) (.tmp 15))]) (.cond (.tmp 16) (.seq (.reg none [.q 17 (.mv (.tmp 5)),.q 4 (.mv (.tmp 17))]) .ret) .skip)))) (.reg none [.q 18 (.bin .add (.tmp 8) (.val (.int .i64 1))),.q 8 (.mv (.tmp 18))]))))))) (.seq (.reg none [.q 4 (.mv (.val (.int .i64 (-1))))]) .ret)))
def R157:List LRes := [.tmp 4]
theorem low157:Tryz.f157.body.bind (lowerCode Tryz.prog 19)=some L157:=by kernel_rfl
theorem res157:lowerRes Tryz.prog Tryz.f157.results.toList=some R157:=by kernel_rfl
set_option maxRecDepth 100000 in
def L177:LC:=(.seq (.reg none [.q 4 (.mv (.val (.bool false)))]) (.seq (.seq (.reg none [.q 6 (.mv (.tmp 0)),.q 7 (.len false (.tmp 6)),.q 8 (.mv (.tmp 1)),.q 9 (.len false (.tmp 8)),.q 10 (.bin .neq (.tmp 7) (.tmp 9))]) (.cond (.tmp 10) (.seq (.reg none [.q 4 (.mv (.val (.bool false)))]) .ret) .skip)) (.seq (.seq (.reg none [.q 11 (.mv (.tmp 0)),.q 12 (.len false (.tmp 11)),.q 13 (.mv (.val (.int .i64 0)))]) (.block 0 (.loop (.seq (.reg none [.q 14 (.bin .lss (.tmp 13) (.tmp 12))]) (.seq (.cond (.tmp 14) .skip (.exit 0)) (.seq (.block 1 (.seq (.reg none [.q 15 (.mv (.tmp 13)),.q 5 (.mv (.tmp 15))]) (.seq (.reg (some []) [.q 16 (.mv (.tmp 0)),.q 17 (.mv (.tmp 5)),.z 18 (.iaddrS 2 (.tmp 16) (.tmp 17)),.z 19 (.load 2 true (.tmp 18)),.q 20 (.mv (.tmp 1)),.q 21 (.mv (.tmp 5)),.z 22 (.iaddrS 2 (.tmp 20) (.tmp 21)),.z 23 (.load 2 true (.tmp 22)),.q 24 (.eqag true [.i,.i] (.tmp 19) (.tmp 23))]) (.cond (.tmp 24) (.seq (.reg none [.q 4 (.mv (.val (.bool false)))]) .ret) .skip)))) (.reg none [.q 25 (.bin .add (.tmp 13) (.val (.int .i64 1))),.q 13 (.mv (.tmp 25))]))))))) (.seq (.reg none [.q 4 (.mv (.val (.bool true)))]) .ret))))
def R177:List LRes := [.tmp 4]
theorem low177:Tryz.f177.body.bind (lowerCode Tryz.prog 26)=some L177:=by kernel_rfl
theorem res177:lowerRes Tryz.prog Tryz.f177.results.toList=some R177:=by kernel_rfl
end Go.Proofs.YtfdolehffjmdmaaGreatDoor
namespace Go.Proofs.YtfdolehffjmdmaaGreatDoor
set_option linter.unusedSimpArgs false
set_option linter.unusedVariables false
open Go.RowKit
theorem within_meets (n a b:Int):Meets Tryz.prog 83 [.int .i64 n,.int .i64 a,.int .i64 b] [] (.bool (wthn n a b)) []:=by
 refine Meets.of_walk Tryz.func83 Tryz.ntmps83 low83 res83 (by simp) fun x hx=>?_
 by_cases h:a≤n
 all_goals
  simp only [go_sem,L83,R83,h,decide_true,decide_false]
  refine ret_pure hx ?_
  simp only [go_sem,L83,R83,wthn,h,decide_false,true_and,false_and]
theorem id_meets (r n:Int):Meets Tryz.prog 103 [.agg [.int .i64 r,.int .i64 n]] [] (.bool (okId ⟨r,n⟩)) []:=by
 refine Meets.of_walk Tryz.func103 Tryz.ntmps103 low103 res103 (by simp) fun x hx=>?_
 simp only [go_sem,L103,R103]
 refine ops_call (.pure (within_meets _ _ _)) ?_
 cases h:wthn r 0 1
 ·
  simp only [go_sem]
  refine ret_pure hx ?_
  simp [go_sem,L103,R103,okId,h]
 ·
  simp only [go_sem]
  refine ops_call (.pure (within_meets _ _ _)) ?_
  simp only [go_sem]
  refine ret_pure hx ?_
  simp [go_sem,L103,R103,okId,h]
end Go.Proofs.YtfdolehffjmdmaaGreatDoor
namespace Go.Proofs.YtfdolehffjmdmaaGreatDoor
set_option linter.unusedSimpArgs false
set_option linter.unusedVariables false
open Go.RowKit
theorem cmp_meets (a b:Int):Meets Tryz.prog 140 [.int .i64 a,.int .i64 b] [] (.int .i64 (cmpI a b)) []:=by
 refine Meets.of_walk Tryz.func140 Tryz.ntmps140 low140 res140 (by simp) fun x hx=>?_
 by_cases h:a < b
 ·
  simp only [go_sem,L140,R140,h,decide_true]
  refine ret_pure hx ?_
  simp [go_sem,L140,R140,cmpI,h]
 ·
  by_cases h2:b < a
  ·
   simp only [go_sem,L140,R140,h,h2,decide_true,decide_false]
   refine ret_pure hx ?_
   simp [go_sem,L140,R140,cmpI,h,h2]
  ·
   simp only [go_sem,L140,R140,h,h2,decide_false]
   refine ret_pure hx ?_
   simp [go_sem,L140,R140,cmpI,h,h2]
def cId (x:Id):List PV := [.int .i64 x.r,.int .i64 x.n]
theorem order_meets (a b:Id):Meets Tryz.prog 104 [.agg (cId a),.agg (cId b)] [] (.int .i64 (ordI a b)) []:=by
 refine Meets.of_walk Tryz.func104 Tryz.ntmps104 low104 res104 (by simp) fun x hx=>?_
 simp only [go_sem,L104,R104,cId]
 refine ops_callv rfl (by kernel_rfl) (.pure (cmp_meets _ _)) ?_
 by_cases h:cmpI a.r b.r=0
 ·
  simp only [go_sem,h,decide_true,decide_false]
  refine ops_callv rfl (by kernel_rfl) (.pure (cmp_meets _ _)) ?_
  simp only [go_sem]
  refine ret_pure hx ?_
  simp [go_sem,L104,R104,ordI,h]
 ·
  simp only [go_sem,h,decide_true,decide_false]
  refine ret_pure hx ?_
  simp [go_sem,L104,R104,ordI,h]
theorem less_meets (a b:Id):Meets Tryz.prog 110 [.agg (cId a),.agg (cId b)] [] (.bool (lessB a b)) []:=by
 refine Meets.of_walk Tryz.func110 Tryz.ntmps110 low110 res110 (by simp) fun x hx=>?_
 simp only [go_sem,L110,R110,cId]
 refine ops_call (.pure (order_meets a b)) ?_
 have h:lessB a b=decide (ordI a b < 0):=by rw [Bool.eq_iff_iff,decide_eq_true_iff,ordI_lt]
 simp only [go_sem]
 refine ret_pure hx ?_
 simp only [go_sem,L110,R110,h]
theorem colors_meets (n:Int):Meets Tryz.prog 38 [.int .i64 n] [] (.bool (wthn n 1 7)) []:=by
 refine Meets.of_walk Tryz.func38 Tryz.ntmps38 low38 res38 (by simp) fun x hx=>?_
 simp only [go_sem,L38,R38]
 refine ops_call (.pure (within_meets _ _ _)) ?_
 simp only [go_sem]
 refine ret_pure hx ?_
 simp only [go_sem,L38,R38]
end Go.Proofs.YtfdolehffjmdmaaGreatDoor
namespace Go.Proofs.YtfdolehffjmdmaaGreatDoor
set_option linter.unusedSimpArgs false
set_option linter.unusedVariables false
open Go.RowKit
def cE (e:Entry):List PV := [.int .i64 e.id.r,.int .i64 e.id.n,.int .i64 e.c,.str e.t,.list (e.ls.map cId)]
theorem check_meets (e:Entry):Meets Tryz.prog 59 [.agg (cE e)] [] (.int .i64 (checkEntry e)) []:=by
 refine Meets.of_walk Tryz.func59 Tryz.ntmps59 low59 res59 (by simp) fun x hx=>?_
 simp only [go_sem,L59,R59,cE]
 refine ops_call (.pure (id_meets _ _)) ?_
 cases h1:okId e.id
 ·
  simp only [go_sem]
  refine ret_pure hx ?_
  simp [go_sem,L59,R59,checkEntry,h1]
 simp only [go_sem]
 refine ops_call (.pure (colors_meets _)) ?_
 cases h2:wthn e.c 1 7
 ·
  simp only [go_sem]
  refine ret_pure hx ?_
  simp [go_sem,L59,R59,checkEntry,h1,h2]
 by_cases h3:12 < e.t.size
 ·
  have h3':decide ((12:Int) < e.t.size)=true:=by simp; omega
  simp only [go_sem,h3']
  refine ret_pure hx ?_
  simp [go_sem,L59,R59,checkEntry,h1,h2,h3]
 have h3':decide ((12:Int) < e.t.size)=false:=by simp; omega
 by_cases h4:6 < e.ls.length
 ·
  have h4':decide ((6:Int) < (e.ls.length:Nat))=true:=by simp; omega
  simp only [go_sem,h3',h4']
  refine ret_pure hx ?_
  simp [go_sem,L59,R59,checkEntry,h1,h2,h3,h4]
 have h4':decide ((6:Int) < (e.ls.length:Nat))=false:=by simp; omega
 have hc:checkEntry e=firstNZ (linkErr e.id e.ls) e.ls.length:=by simp [checkEntry,h1,h2,h3,h4]
 simp only [go_sem,h3',h4',hc]
 refine loop_inv [1,28,29,30] 1 (fun n st=>∃ k:Nat,k + n=e.ls.length∧firstNZ (linkErr e.id e.ls) k=0 ∧
  st=⟨mkE .top [(1,.ptr 0 0),(28,.list (e.ls.map cId)),(29,.int .i64 e.ls.length),(30,.int .i64 k)],[.box (cE e)]⟩) e.ls.length (by simp [hx]) (by simp) ?_ ?_
 ·
  refine ⟨0,by omega,rfl,?_⟩
  simp [trim_mk,go_sem,subHeap,renObj,pos,List.range_succ,cE]
 ·
  rintro n st ⟨k,hk,hz,rfl⟩
  simp only [go_sem,cE]
  by_cases hlt:k < e.ls.length
  ·
   have hg:e.ls[k]? = some (nth e.ls k):=nth_get? _ _ hlt
   simp only [go_sem,hlt,hg,cId]
   refine ops_call (.pure (id_meets _ _)) ?_
   cases h5:okId (nth e.ls k)
   ·
    have h5':okId ⟨(nth e.ls k).r,(nth e.ls k).n⟩=false:=h5
    simp only [go_sem,h5']
    refine ret_pure hx ?_
    have:linkErr e.id e.ls k=3:=by simp [linkErr,h5]
    simp only [go_sem,hc,firstNZ_hit hz (by rw [this]; decide) hlt,this]
   have h5':okId ⟨(nth e.ls k).r,(nth e.ls k).n⟩=true:=h5
   have w1:IntKind.i64.wrap ((k:Int) + 1)=((k + 1:Nat):Int):=by rw [IntWalk.i64_in _ (by omega)]; omega
   have okw:(k=0∨ordI (nth e.ls (k - 1)) (nth e.ls k) < 0)→lessB (nth e.ls (k - 1)) (nth e.ls k)=true∨k=0:=fun h=>by
    rcases h with h | h
    ·
     exact .inr h
    ·
     exact .inl (ordI_lt.1 h)
   by_cases hb:0 < k∧0≤ordI (nth e.ls (k - 1)) (nth e.ls k)
   ·
    obtain ⟨h0,h6⟩:=hb
    have hg1:e.ls[k - 1]? = some (nth e.ls (k - 1)):=nth_get? _ _ (by omega)
    have e1:IntKind.i64.wrap ((k:Int) - 1)=((k - 1:Nat):Int):=by rw [IntWalk.i64_in _ (by omega)]; omega
    have d0:decide ((0:Int) < (k:Int))=true:=by simp; omega
    have hlt1:k - 1 < e.ls.length:=by omega
    simp only [go_sem,h5',d0,hlt1,hg1,e1,cId]
    refine ops_call (.pure (order_meets (nth e.ls (k - 1)) (nth e.ls k))) ?_
    simp only [go_sem,h6]
    refine ret_pure hx ?_
    have hl:lessB (nth e.ls (k - 1)) (nth e.ls k)=false:=by rw [← Bool.not_eq_true,← ordI_lt]; omega
    have:linkErr e.id e.ls k=4:=by simp [linkErr,h5,h0,hl]
    simp only [go_sem,hc,firstNZ_hit hz (by rw [this]; decide) hlt,this]
   ·
    have hok:k=0∨lessB (nth e.ls (k - 1)) (nth e.ls k)=true:=by
     rcases Nat.eq_zero_or_pos k with h | h
     ·
      exact .inl h
     ·
      exact .inr (ordI_lt.1 (by omega))
    have fin:∀ H:List AObj,1≤H.length→H.take 1 = [.box (cE e)]→True:=fun _ _ _=>trivial
    by_cases h0:0 < k
    ·
     have hg1:e.ls[k - 1]? = some (nth e.ls (k - 1)):=nth_get? _ _ (by omega)
     have e1:IntKind.i64.wrap ((k:Int) - 1)=((k - 1:Nat):Int):=by rw [IntWalk.i64_in _ (by omega)]; omega
     have d0:decide ((0:Int) < (k:Int))=true:=by simp; omega
     have hlt1:k - 1 < e.ls.length:=by omega
     have h6:¬ 0≤ordI (nth e.ls (k - 1)) (nth e.ls k):=fun h=>hb ⟨h0,h⟩
     have hl:lessB (nth e.ls (k - 1)) (nth e.ls k)=true:=ordI_lt.1 (by omega)
     simp only [go_sem,h5',d0,hlt1,hg1,e1,cId]
     refine ops_call (.pure (order_meets (nth e.ls (k - 1)) (nth e.ls k))) ?_
     by_cases h7:(nth e.ls k).r=e.id.r <;> by_cases h8:e.id.n≤(nth e.ls k).n <;> simp only [go_sem,h6,h7,h8]
     ·
      refine ret_pure hx ?_
      have:linkErr e.id e.ls k=4:=by simp [linkErr,h5,hl,h7,h8]
      simp only [go_sem,hc,firstNZ_hit hz (by rw [this]; decide) hlt,this]
     all_goals
      have:linkErr e.id e.ls k=0:=by simp [linkErr,h5,hl,h7,h8]
      refine ⟨by simp,n - 1,by omega,k + 1,by omega,firstNZ_succ hz this,?_⟩
      simp [trim_mk,go_sem,subHeap,renObj,pos,List.range_succ,cE,w1]
    ·
     have d0:decide ((0:Int) < (k:Int))=false:=by simp; omega
     by_cases h7:(nth e.ls k).r=e.id.r <;> by_cases h8:e.id.n≤(nth e.ls k).n <;> simp only [go_sem,h5',d0,h7,h8]
     ·
      refine ret_pure hx ?_
      have:linkErr e.id e.ls k=4:=by simp [linkErr,h5,h0,h7,h8]
      simp only [go_sem,hc,firstNZ_hit hz (by rw [this]; decide) hlt,this]
     all_goals
      have:linkErr e.id e.ls k=0:=by simp [linkErr,h5,h0,h7,h8]
      refine ⟨by simp,n - 1,by omega,k + 1,by omega,firstNZ_succ hz this,?_⟩
      simp [trim_mk,go_sem,subHeap,renObj,pos,List.range_succ,cE,w1]
  ·
   simp only [go_sem,hlt]
   refine ret_pure hx ?_
   simp only [go_sem]
   first | rw [hc,show e.ls.length=k by omega,hz] | rw [show e.ls.length=k by omega,hz]
end Go.Proofs.YtfdolehffjmdmaaGreatDoor
/- What the law texts say of entries,in words of their own: contracts. -/
namespace Go.Proofs.YtfdolehffjmdmaaGreatDoor
set_option linter.unusedSimpArgs false
set_option linter.unusedVariables false
open Go.RowKit
theorem lawId_meets (r n:Int):Meets Tryz.prog 55 [.int .i64 r,.int .i64 n] [] (.agg [.int .i64 r,.int .i64 n]) []:=by
 refine Meets.of_walk Tryz.func55 Tryz.ntmps55 low55 res55 (by simp) fun x hx=>?_
 simp only [go_sem,L55,R55]
 refine ret_pure hx ?_
 simp [go_sem,L55,R55]
end Go.Proofs.YtfdolehffjmdmaaGreatDoor
/- Ids and entries that are the same. -/
namespace Go.Proofs.YtfdolehffjmdmaaGreatDoor
set_option linter.unusedSimpArgs false
set_option linter.unusedVariables false
open Go.RowKit
theorem ids_ext' {x y:List Id} (hl:x.length=y.length) (h:∀ k,k < x.length→nth x k=nth y k):x=y:=by
 refine List.ext_getElem hl fun k h1 h2=>?_
 have:=h k h1
 rwa [nth_eq _ _ h1,nth_eq _ _ h2] at this
theorem i64_up {k:Nat} (h:k < 9223372036854775807):IntKind.i64.wrap ((k:Int) + 1)=((k + 1:Nat):Int):=by
 rw [IntWalk.i64_in _ (by omega)]; omega
theorem beqId (a b:Id):(decide (a.r=b.r) && decide (a.n=b.n))=decide (a=b):=by
 rw [Bool.eq_iff_iff]; simp [Id.eq_iff]
theorem sameIds_meets (a b:List Id) (hm:a.length≤9223372036854775807):Meets Tryz.prog 58 [.list (a.map cId),.list (b.map cId)] [] (.bool (decide (a=b))) []:=by
 refine Meets.of_walk Tryz.func58 Tryz.ntmps58 low58 res58 (by simp) fun x hx=>?_
 by_cases hl:a.length=b.length
 ·
  have hl':((a.length:Int)=(b.length:Int))=True:=by simp [hl]
  simp only [go_sem,L58,R58,hl']
  refine loop_inv [0,1,5] 0 (fun n st=>∃ k:Nat,k + n=a.length∧(∀ j,j < k→nth a j=nth b j) ∧
   st=⟨mkE .top [(0,.list (a.map cId)),(1,.list (b.map cId)),(5,.int .i64 k)],[]⟩) a.length (by simp [hx]) (by simp) ?_ ?_
  ·
   refine ⟨0,by omega,fun j h=>by omega,?_⟩
   simp [trim_mk,go_sem,subHeap,renObj,pos,List.range_succ]
  ·
   rintro n st ⟨k,hk,hz,rfl⟩
   simp only [go_sem]
   by_cases hlt:k < a.length
   ·
    have hg:a[k]? = some (nth a k):=nth_get? _ _ hlt
    have hlt2:k < b.length:=by omega
    have hg2:b[k]? = some (nth b k):=nth_get? _ _ hlt2
    have hw:=i64_up (k:=k) (by omega)
    by_cases he:nth a k=nth b k
    ·
     simp only [go_sem,hlt,hlt2,hg,hg2,cId,he,hw]
     refine ⟨by simp,n - 1,by omega,k + 1,by omega,fun j hj=>?_,?_⟩
     ·
      by_cases e:j=k
      ·
       rw [e]; exact he
      ·
       exact hz j (by omega)
     ·
      simp [trim_mk,go_sem,subHeap,renObj,pos]
    ·
     simp only [go_sem,hlt,hlt2,hg,hg2,cId,beqId,he]
     refine ret_pure hx ?_
     have:¬ a=b:=fun e=>he (by rw [e])
     simp [go_sem,L58,R58,this]
   ·
    simp only [go_sem,hlt,decide_false]
    refine ret_pure hx ?_
    have:a=b:=ids_ext' hl fun j hj=>hz j (by omega)
    simp [go_sem,L58,R58,this]
 ·
  have hl':((a.length:Int)=(b.length:Int))=False:=by simp; omega
  simp only [go_sem,L58,R58,hl']
  refine ret_pure hx ?_
  have:¬ a=b:=fun e=>hl (by rw [e])
  simp [go_sem,L58,R58,this]
end Go.Proofs.YtfdolehffjmdmaaGreatDoor
/- Entries that are the same; what is wrong with an entry,in the law text's words. -/
namespace Go.Proofs.YtfdolehffjmdmaaGreatDoor
set_option linter.unusedSimpArgs false
set_option linter.unusedVariables false
open Go.RowKit
def sameE (a b:Entry):Bool:=decide (a.id=b.id) && decide (a.c=b.c) && decide (a.t=b.t) && decide (a.ls=b.ls)
theorem sameEntry_meets (a b:Entry):Meets Tryz.prog 121 [.agg (cE a),.agg (cE b)] [] (.bool (sameE a b)) []:=by
 refine Meets.len2 0 4 rfl (by simp [cE]; rfl) fun hm=>?_
 have hm':a.ls.length≤9223372036854775807:=by simp [maxLen] at hm; omega
 refine Meets.of_walk Tryz.func121 Tryz.ntmps121 low121 res121 (by simp) fun x hx=>?_
 by_cases h1:a.id=b.id
 ·
  by_cases h2:a.c=b.c
  ·
   by_cases h3:a.t=b.t
   ·
    simp only [go_sem,L121,R121,cE,beqId,h1,h2,h3]
    refine ops_call (.pure (sameIds_meets _ _ hm')) ?_
    simp only [go_sem]
    refine ret_pure hx ?_
    simp [go_sem,L121,R121,sameE,h1,h2,h3]
   ·
    simp only [go_sem,L121,R121,cE,beqId,h1,h2,h3]
    refine ret_pure hx ?_
    simp [go_sem,L121,R121,sameE,h1,h2,h3]
  ·
   simp only [go_sem,L121,R121,cE,beqId,h1,h2]
   refine ret_pure hx ?_
   simp [go_sem,L121,R121,sameE,h1,h2]
 ·
  simp only [go_sem,L121,R121,cE,beqId,h1]
  refine ret_pure hx ?_
  simp [go_sem,L121,R121,sameE,h1]
end Go.Proofs.YtfdolehffjmdmaaGreatDoor
/- slices.Compact at ids: in memory. -/
namespace Go.Proofs.YtfdolehffjmdmaaGreatDoor
open Go.RowKit Go.Lib Go.Sort
open Go.Shelf
def eId (x:Id):List Value := [.int .i64 x.r,.int .i64 x.n]
theorem setMany_flat {α:Type} [Inhabited α] (enc:α→List Value) (k:Nat) (hk:∀ x,(enc x).length=k) (d:Array α) (i:Nat) (hi:i < d.size) (x:α):setMany (flatK enc k d) (i * k) (enc x)=flatK enc k (d.setIfInBounds i x):=by
  refine ext_get! (by simp) fun t ht=>?_
  have ht':t < d.size * k:=by simpa using ht
  have k0 : 0 < k := by rcases Nat.eq_zero_or_pos k with h | h; · subst h; simp at ht'
                        · exact h
  rw [get_setMany _ _ _ t (by simpa using ht'),get_flatK _ _ _ t ht',get_flatK _ _ _ t (by simpa using ht'),hk]
  by_cases a:t / k=i
  · have m:t - i * k=t % k:=by subst a; rw [Nat.mod_eq_sub_div_mul]
    rw [if_pos ((blk_iff k i t k0).2 a),m,a,getElem!_set_same d i x hi]
  · rw [if_neg (fun h=>a ((blk_iff k i t k0).1 h)),getElem!_set_other d i _ x a]
theorem run_clear_cells {P : Program} (w : World) (t e ty : TypeId) (z : Value) (ht : P.underlying t = some (.slice e)) (hv : ∀ w, (zeroValue e).run P w = .ok z w) (h1 : ∀ v ∈ z.cells, v.oneCell' = true) (b o n c : Nat) (hn : 0 < n)
    (hc:∀ j,j < n * z.cells.size→(w.cell? ⟨b,o + j,none⟩).isSome=true) (hf:∀ j,j < n * z.cells.size→w.frozen? ⟨b,o + j,none⟩=false) :
    ∃ zs:List Value,zs.length=n * z.cells.size∧(Builtin.clear_ #[t] ty #[.slice (some ⟨b,o,none⟩) n c]).run P w = .ok (.tuple #[]) (w.setCells b o zs):=by
  refine ⟨(Builtin.zeroCells z.cells n).toList,by simp [Builtin.zeroCells,Nat.mul_comm],?_⟩
  have hst:=run_storeCells_cells (P:=P) b o (Builtin.zeroCells z.cells n).toList 0 w (by simpa [Builtin.zeroCells,Nat.mul_comm] using hc) (by simpa [Builtin.zeroCells,Nat.mul_comm] using hf) (by
    intro v hv'
    obtain ⟨i,hi,rfl⟩:=List.mem_iff_getElem.1 hv'
    simp only [Builtin.zeroCells,Array.getElem_toList,Array.getElem_map,Array.getElem_range]
    have hs:0 < z.cells.size:=by
      rcases Nat.eq_zero_or_pos z.cells.size with h | h
      · simp [Builtin.zeroCells,h] at hi
      · exact h
    have:=Nat.mod_lt i hs
    exact h1 _ (by simp [getElem!_pos,this]))
  simp only [Nat.add_zero] at hst
  obtain ⟨m,rfl⟩:∃ m,n=m + 1:=⟨n - 1,by omega⟩
  simp [Builtin.clear_,run_underlying ht,hv,hst]
theorem eId_len (x:Id):(eId x).length=2:=rfl
theorem eId_one (x:Id):∀ v ∈ eId x,v.oneCell'=true:=by
 intro v hv; simp [eId] at hv; rcases hv with rfl | rfl <;> rfl
theorem holdsK_two {w : World} {blk off : Nat} {d : Array Id} (h : HoldsK eId 2 w blk off d) {i : Nat} (hi : i < d.size) :
    w.cell? ⟨blk,off + i * 2,none⟩=some (.int .i64 d[i]!.r)∧w.cell? ⟨blk,off + i * 2 + 1,none⟩=some (.int .i64 d[i]!.n)∧w.frozen? ⟨blk,off + i * 2,none⟩=false∧w.frozen? ⟨blk,off + i * 2 + 1,none⟩=false :=
  ⟨(h.cell hi (c:=0) (by omega)).1,(h.cell hi (c:=1) (by omega)).1,(h.cell hi (c:=0) (by omega)).2,(h.cell hi (c:=1) (by omega)).2⟩
theorem store_world_id {w wr : World} {n blk off : Nat} {dk : Array Id} {i : Nat} (hi : i < dk.size) (hwr : wr = putRowK eId 2 (Sort.ahead w n) blk off dk) (x : Id) :
    wr.setCells blk (off + i * 2) (eId x)=putRowK eId 2 (Sort.ahead w n) blk off (dk.setIfInBounds i x):=by
  subst hwr
  unfold putRowK
  rw [setCells_putRow _ _ _ _ _ _ (by rw [size_flatK,eId_len]; omega),setMany_flat eId 2 eId_len dk i hi x]
def CompOut (w:World) (blk off:Nat) (d:Array Id) (w':World):Prop :=
 ∃ (q:Nat) (F:Array Value),F.size=d.size * 2∧(∀ t,t < (compactUpTo d d.size).length * 2→F[t]! = (flatK eId 2 (compactUpTo d d.size).toArray)[t]!)∧w'=putRow id (Sort.ahead w q) blk off F
theorem compOut_same {w:World} {blk off:Nat} {d:Array Id} (hH:HoldsK eId 2 w blk off d) (q:Nat) (hall:∀ j,j < d.size→keeps d j=true):(compactUpTo d d.size).length=d.size∧CompOut w blk off d (w.drewN q):=by
 have e:compactUpTo d d.size=d.toList:=by rw [compactUpTo_all d _ hall,range_map_get]
 refine ⟨by rw [e]; simp,q,flatK eId 2 d,size_flatK _ _ _,fun t _=>by rw [e],?_⟩
 exact (putRow_self id (Sort.ahead w q) blk off _ (holdsK_ahead eId 2 w q blk off d hH)).symm
set_option maxHeartbeats 4000000 in
set_option maxRecDepth 1000000 in
theorem compactI_calls (blk off cap : Nat) (d : Array Id) (w : World) (hH : HoldsK eId 2 w blk off d) (hsz : d.size ≤ 9223372036854775807) (hcap : d.size ≤ cap) :
    Calls Tryz.prog 128 #[.slice (some ⟨blk,off,none⟩) d.size cap] w fun e w'=>e = .returned (.slice (some ⟨blk,off,none⟩) (compactUpTo d d.size).length cap)∧CompOut w blk off d w':=by
  have mixed:Tryz.prog.follows Departure.mixedOrders=true:=rfl
  have HS:Aside (∀ q,(∀ j,j < d.size→keeps d j=true)→(compactUpTo d d.size).length=d.size∧CompOut w blk off d (w.drewN q)):=fun q=>compOut_same hH q
  by_cases h2:d.size < 2
  · have HH:Aside (HoldsK eId 2 w blk off d):=hH
    clear hH
    go_enter Tryz.func128,Tryz.ntmps128
    go_wp2
    go_ret
    obtain ⟨e1,e2⟩:=HS.out 0 (fun j hj=>keeps_lt_one d j (by omega))
    exact ⟨by rw [e1]; rfl,e2⟩
  · go_enter Tryz.func128,Tryz.ntmps128
    go_wp2
    go_loopg [3] d.size (fun g s3 wr=>∃ k q:Nat,1≤k∧k≤d.size∧d.size - k≤g∧s3 = .int .i64 k∧wr=w.drewN q∧∀ j,j < k→keeps d j=true)
    case atStart=>exact ⟨1,0,Nat.le_refl _,by omega,by omega,rfl,rfl,keeps_lt_one d⟩
    case round =>
      obtain ⟨k,q,hk1,hk,hg,rfl,rfl,hall⟩:=hrel
      by_cases hlt:k < d.size
      · obtain ⟨c1,c1',f1,f1'⟩:=holdsK_two hH hlt
        obtain ⟨c0,c0',f0,f0'⟩:=holdsK_two hH (i:=k - 1) (by omega)
        have A:Aside (∀ j,j < k→keeps d j=true):=hall
        have HH:Aside (HoldsK eId 2 w blk off d):=hH
        clear hall hH f1 f1' f0 f0'
        generalize hx:d[k]! = x at c1 c1'
        generalize hy:d[k - 1]! = y at c0 c0'
        have B:Aside (d[k]! = x∧d[k - 1]! = y):=⟨hx,hy⟩
        clear hx hy
        by_cases hdup:x=y
        · subst hdup
          go_wp2_with fail
          go_region_o
          go_wp2
          clear c0 c1 c0' c1'
          go_loopg [3,5] d.size (fun g s3 s5 wr=>∃ (kk k2 q2:Nat) (dk:Array Id),s3 = .int .i64 kk∧s5 = .int .i64 k2∧1≤k2∧k + k2≤d.size∧d.size - (k + k2)≤g∧wr=putRowK eId 2 (Sort.ahead w q2) blk off dk∧CompInv d (k + k2) kk dk)
          case atStart=>exact ⟨k,1,q + 1,d,rfl,rfl,Nat.le_refl _,by omega,by omega,(putRowK_self eId 2 (Sort.ahead w (q + 1)) blk off d (holdsK_ahead eId 2 w (q + 1) blk off d HH.out)).symm,CompInv.start A.out (keeps_neg (by omega) (by rw [B.out.1,B.out.2]))⟩
          case round =>
            obtain ⟨kk,k2,q2,dk,rfl,rfl,h1,hle,hg2,hwr,hI⟩:=hrel
            have hkk:=hI.lt
            have hds:=hI.size
            have hHk:HoldsK eId 2 wr blk off dk:=by rw [hwr]; exact holdsK_putRowK eId 2 _ blk off d dk (holdsK_ahead eId 2 w q2 blk off d HH.out) hds
            have W2:Aside (wr=putRowK eId 2 (Sort.ahead w q2) blk off dk):=hwr
            have I2:Aside (CompInv d (k + k2) kk dk):=hI
            clear hwr
            by_cases hlt2:k + k2 < d.size
            · obtain ⟨cm,cm',-,-⟩:=holdsK_two hHk (i:=k + k2) (by omega)
              obtain ⟨cp,cp',-,-⟩:=holdsK_two hHk (i:=k + k2 - 1) (by omega)
              obtain ⟨ck,ck',fk,fk'⟩:=holdsK_two hHk (i:=kk) (by omega)
              rw [hI.high (k + k2) (by omega),show off + (k + k2) * 2=off + k * 2 + k2 * 2 by omega] at cm cm'
              rw [hI.high (k + k2 - 1) (by omega),show off + (k + k2 - 1) * 2=off + k * 2 + (k2 - 1) * 2 by omega] at cp cp'
              clear hHk hI
              generalize hu:d[k + k2]! = u at cm cm'
              generalize hv:d[k + k2 - 1]! = v at cp cp'
              generalize dk[kk]! = old at ck ck'
              have C:Aside (d[k + k2]! = u∧d[k + k2 - 1]! = v):=⟨hu,hv⟩
              clear hu hv
              by_cases huv:u=v
              · subst huv
                go_wp2_with fail
                go_region_o
                go_wp2
                go_roundg (d.size - (k + (k2 + 1)))
                case measure=>omega
                case rel=>exact ⟨kk,k2 + 1,q2 + 1,dk,rfl,by go_num,by omega,by omega,Nat.le_refl _,by rw [W2.out]; rfl,I2.out.skip (keeps_neg (by omega) (by rw [C.out.1,C.out.2]))⟩
              · have N:Aside (u≠v):=huv
                obtain ⟨ur,un⟩:=u
                obtain ⟨vr,vn⟩:=v
                simp only at cm cm' cp cp'
                by_cases hr:ur=vr
                · subst hr
                  have hn:un≠vn:=fun e=>huv (by rw [e])
                  clear huv
                  go_wp2_with fail
                  go_region_o
                  go_wp2
                  go_roundg (d.size - (k + (k2 + 1)))
                  case measure=>omega
                  case rel =>
                    refine ⟨kk + 1,k2 + 1,q2 + 1,dk.setIfInBounds kk ⟨ur,un⟩,by go_num,by go_num,by omega,by omega,Nat.le_refl _,?_,?_⟩
                    · exact store_world_id (wr:=wr.drew) (n:=q2 + 1) (by omega) (by rw [W2.out]; rfl) ⟨ur,un⟩
                    · have:=I2.out.keep hlt2 (keeps_pos (by rw [C.out.1,C.out.2]; exact N.out)); rwa [C.out.1] at this
                · clear huv
                  go_wp2_with fail
                  go_region_o
                  go_wp2
                  go_roundg (d.size - (k + (k2 + 1)))
                  case measure=>omega
                  case rel =>
                    refine ⟨kk + 1,k2 + 1,q2 + 1,dk.setIfInBounds kk ⟨ur,un⟩,by go_num,by go_num,by omega,by omega,Nat.le_refl _,?_,?_⟩
                    · exact store_world_id (wr:=wr.drew) (n:=q2 + 1) (by omega) (by rw [W2.out]; rfl) ⟨ur,un⟩
                    · have:=I2.out.keep hlt2 (keeps_pos (by rw [C.out.1,C.out.2]; exact N.out)); rwa [C.out.1] at this
            · have hend:k + k2=d.size:=by omega
              obtain ⟨zs,hzl,hcl⟩:∃ zs:List Value,zs.length=(d.size - kk) * 2∧∀ ty,(Builtin.clear_ #[44] ty #[.slice (some ⟨blk,off + kk * 2,none⟩) (d.size - kk) (cap - kk)]).run Tryz.prog wr = .ok (.tuple #[]) (wr.setCells blk (off + kk * 2) zs):=by
                obtain ⟨zs,h1,h2⟩:=run_clear_cells (P:=Tryz.prog) wr 44 43 0 (.agg #[.int .i64 0,.int .i64 0]) rfl (fun _=>by kernel_rfl) (by intro v hv; simp [Value.cells] at hv; rcases hv with rfl | rfl <;> rfl) blk (off + kk * 2) (d.size - kk) (cap - kk) (by omega)
                  (fun j hj=>by
                    have hj':j < (d.size - kk) * 2:=hj
                    have:=(hHk (kk * 2 + j) (by rw [size_flatK]; omega)).1
                    rw [← Nat.add_assoc] at this
                    rw [this]; rfl) (fun j hj=>by
                    have hj':j < (d.size - kk) * 2:=hj
                    have:=(hHk (kk * 2 + j) (by rw [size_flatK]; omega)).2
                    rwa [← Nat.add_assoc] at this)
                exact ⟨zs,h1,fun ty=>h2⟩
              clear hHk hI
              go_wp2
              go_ret
              have hI:=I2.out
              rw [hend] at hI
              refine ⟨by rw [hI.len]; rfl,q2,setMany (flatK eId 2 dk) (kk * 2) zs,by simp [hI.size],fun t ht=>?_,?_⟩
              · rw [hI.len] at ht
                have hts:t < dk.size * 2:=by have:=hI.size; omega
                have hq:t / 2 < kk:=by omega
                rw [get_setMany _ _ _ t (by rw [size_flatK]; exact hts),if_neg (by omega),get_flatK _ _ _ _ hts,get_flatK _ _ _ _ (by simp [hI.len]; omega)]
                have:=hI.low (t / 2) hq
                rw [show (compactUpTo d d.size).toArray[t / 2]! = dk[t / 2]! by simp [this]]
              · rw [W2.out]
                unfold putRowK
                exact setCells_putRow _ _ _ _ _ _ (by rw [size_flatK,hzl]; have:=hI.size; omega)
        · have B':Aside (x≠y):=hdup
          obtain ⟨xr,xn⟩:=x
          obtain ⟨yr,yn⟩:=y
          simp only at c0 c0' c1 c1'
          by_cases hr:xr=yr
          · subst hr
            have hn:xn≠yn:=fun e=>hdup (by rw [e])
            clear hdup
            go_wp2_with fail
            go_region_o
            go_wp2
            go_roundg (d.size - (k + 1))
            case measure=>omega
            case rel =>
              refine ⟨k + 1,q + 1,by omega,by omega,Nat.le_refl _,by go_num,rfl,fun j hj=>?_⟩
              by_cases e:j=k
              · subst e
                exact keeps_pos (by rw [B.out.1,B.out.2]; exact B'.out)
              · exact A.out j (by omega)
          · clear hdup
            go_wp2_with fail
            go_region_o
            go_wp2
            go_roundg (d.size - (k + 1))
            case measure=>omega
            case rel =>
              refine ⟨k + 1,q + 1,by omega,by omega,Nat.le_refl _,by go_num,rfl,fun j hj=>?_⟩
              by_cases e:j=k
              · subst e
                exact keeps_pos (by rw [B.out.1,B.out.2]; exact B'.out)
              · exact A.out j (by omega)
      · have:k=d.size:=by omega
        subst this
        have HH:Aside (HoldsK eId 2 w blk off d):=hH
        clear hH
        go_wp2
        go_ret
        obtain ⟨e1,e2⟩:=HS.out q hall
        exact ⟨by rw [e1]; rfl,e2⟩
set_option maxHeartbeats 1000000 in
theorem compactI_nil (w:World):Calls Tryz.prog 128 #[.slice none 0 0] w fun e w'=>e = .returned (.slice none 0 0)∧w'=w:=by
 go_enter Tryz.func128,Tryz.ntmps128
 go_wp2
 go_ret
 exact ⟨rfl,rfl⟩
end Go.Proofs.YtfdolehffjmdmaaGreatDoor
/- slices.Compact at ids: as a contract: an array becomes a list. -/
namespace Go.Proofs.YtfdolehffjmdmaaGreatDoor
open Go.RowKit
open Go.Sort (flatK putRowK HoldsK size_flatK get_flatK putCells mapBlock onCells)
theorem flat_id:Flat cId eId 2 where
 k0:=by omega
 len:=fun _=>rfl
 lenp:=fun _=>rfl
 one:=eId_one
 fit:=fun S w a j p h=>by
  rcases j with _ | _ | j
  ·
   cases h; exact .int _ _
  ·
   cases h; exact .int _ _
  ·
   simp [cId] at h
 back:=fun S w a j p u h hr=>by
  rcases j with _ | _ | j
  ·
   cases h; cases hr; rfl
  ·
   cases h; cases hr; rfl
  ·
   simp [cId] at h
section
variable {x:Cx} {C:Conc} {H:List AObj} {w w':World}
theorem HR.dropNil (hr : HR x C H w) {id v T sz : Nat} {sto ipu : Bool} (hid : H[id]? = some (.arr v sto ipu T sz [])) :
    HR x C (H.set id .gone) w∧(∀ p u,RepV (Stab x C H w) w C p u→RepV (Stab x C (H.set id .gone) w) w C p u) :=
  hr.change (C':=C) hid (ob' := .gone) (step_refl w) rfl (fun _=>rfl) (fun _ _=>⟨rfl,rfl⟩) (.inl ⟨rfl,rfl⟩) (fun b o hb hf=>trivial) (fun b o hb hf=>rfl) (fun b hb=>hb.elim) (fun _ _=>trivial)
theorem row_worldF (w : World) (g m : Nat) (F : Array Value) {cur : Array Value} {T : TypeId} {fr : Nat × Nat} (hc : w.heap[g]? = some (.cells cur T fr)) :
    ∃ cur':Array Value,(Go.Sort.putRow id (Go.Sort.ahead w m) g 0 F).heap[g]? = some (.cells cur' T fr)∧cur'.size=cur.size ∧
      (∀ t y,t < F.size→cur'[t]? = some y→y=F[t]!)∧Step w (Go.Sort.putRow id (Go.Sort.ahead w m) g 0 F) (fun b=>b=g):=by
  have hlt:g < w.heap.size:=(Array.getElem?_eq_some_iff.1 hc).1
  have hh:(Go.Sort.putRow id (Go.Sort.ahead w m) g 0 F).heap=w.heap.modify g (onCells (putCells id 0 F)):=rfl
  refine ⟨putCells id 0 F cur,?_,by simp [putCells],fun t y ht hy=>?_,?_⟩
  · rw [hh,Array.getElem?_modify,if_pos rfl,hc]
    rfl
  · rw [putCells,Array.getElem?_mapIdx] at hy
    cases hcu:cur[t]? with
    | none=>rw [hcu] at hy; cases hy
    | some z =>
      rw [hcu,Option.map_some,if_pos ⟨Nat.zero_le _,by omega⟩] at hy
      exact (Option.some.inj hy).symm
  · refine ⟨by rw [hh]; simp,rfl,rfl,rfl,fun b hb hne=>?_⟩
    rw [hh,Array.getElem?_modify,if_neg (fun e=>hne e.symm)]
end
theorem one_arg {vs:Array Value} (h:vs.toList.length=1):∃ a,vs=#[a]∧vs.toList[0]? = some a:=by
 obtain ⟨l⟩:=vs
 obtain ⟨a,rfl⟩:=List.length_eq_one_iff.1 h
 exact ⟨a,rfl,rfl⟩
theorem two_args {vs:Array Value} (h:vs.toList.length=2):∃ a b,vs=#[a,b]∧vs.toList[0]? = some a∧vs.toList[1]? = some b:=by
 obtain ⟨l⟩:=vs
 match l,h with
 | [a,b],_=>exact ⟨a,b,rfl,rfl,rfl⟩
def compI (l:List Id):List Id:=Lib.compact l
theorem compactIds_meets (l : List Id) (v T : Nat) (hl : l.length ≤ 9223372036854775807) :
    Meets Tryz.prog 128 [.arr 0 v] [.arr v true false T 2 (l.map cId)] (.list ((compI l).map cId)) [.gone]:=by
  intro x vs hx h0 hp
  obtain ⟨a,rfl,h1⟩:=one_arg hp.1
  have ha:=hp.2 0 _ _ rfl h1
  obtain ⟨e1,e2,e3⟩:=h0.row (id:=0) rfl ha
  rcases e3 with ⟨rfl,hnil⟩ | ⟨g,cap,cur,rfl,hc,hcap,hm,hz,hrow⟩
  · have:l = []:=by simpa using hnil
    subst this
    refine (compactI_nil x.w0).mono ?_
    rintro e w' ⟨rfl,rfl⟩
    obtain ⟨k1,k2⟩:=h0.dropNil (id:=0) (v:=v) (T:=T) (sz:=2) rfl
    exact ⟨_,x.C0,rfl,k1,.pure repP_nil⟩
  · have hH:=flat_id.holds l hc hrow
    have key:=compactI_calls g 0 cap l.toArray x.w0 hH (by simpa using hl) (by simpa using hcap)
    rw [List.length_map]
    refine Calls.mono key ?_
    rintro e w' ⟨rfl,q,F,f1,f2,rfl⟩
    obtain ⟨cur',c1,c2,c3,c4⟩:=row_worldF x.w0 g q F hc
    have hown:(x.C0.sv 0).ownBlock=some g:=by rw [← e1]; rfl
    have hle:(compI l).length≤l.length:=by
      show (Lib.compactUpTo l.toArray l.length).length≤_
      unfold Lib.compactUpTo
      rw [List.length_map]
      exact Nat.le_trans (List.length_filter_le _ _) (by simp)
    have hcl:((compI l).map cId).length≤cap:=by rw [List.length_map]; rw [List.length_map] at hcap; omega
    obtain ⟨k1,k2,k3⟩:=h0.drop (id:=0) (g:=g) (cap':=cap) (rows':=(compI l).map cId) (cur':=cur') rfl
      ⟨c4.size,c4.os,c4.tape,c4.output,fun b hb hne=>c4.blk b hb fun e=>hne (by rw [hown,e])⟩ hown c1 hcl hm (by rw [c2,hz])
      (fun row hr=>by obtain ⟨y,-,rfl⟩:=List.mem_map.1 hr; rfl)
      (fun k row j p u a b c=>(flat_id.rep (d':=(compI l).toArray) (cur':=cur') (fun t y ht hy=>by
        rw [c3 t y (by rw [f1]; simp at ht ⊢; omega) hy]
        refine f2 t ?_
        rw [List.size_toArray] at ht
        rw [List.size_toArray]
        exact ht) (compI l).length (fun i hi=>by simp [hi]) rfl (by simp) k row j p u a b c).2)
    refine ⟨_,x.C0,rfl,k1,.pure ?_⟩
    rw [List.length_map] at k3
    exact k3
end Go.Proofs.YtfdolehffjmdmaaGreatDoor
/- slices.Delete of one element of k cells: in memory,and as a contract. -/
namespace Go.Proofs.YtfdolehffjmdmaaGreatDoor
open Go.RowKit Go.Lib Go.Sort
open Go.Shelf
def DelF (k n i:Nat) (cs F:Array Value):Prop:=F.size=cs.size∧∀ t,t < (n - 1) * k→F[t]! = if t < i * k then cs[t]! else cs[t + k]!
def DelOut (k n i:Nat) (w:World) (blk:Nat) (cs:Array Value) (w':World):Prop:=∃ (q:Nat) (F:Array Value),DelF k n i cs F∧w'=putRow id (Sort.ahead w q) blk 0 F
theorem delF_of {k n i : Nat} {cs : Array Value} (hz : n * k ≤ cs.size) (hi : i < n) (news zs : List Value) (hn : news.length = (n - (i + 1)) * k) (hnew : ∀ t, t < news.length → news[t]! = cs[(i + 1) * k + t]!) :
    DelF k n i cs (setMany (setMany cs (i * k) news) ((n - 1) * k) zs):=by
  refine ⟨by simp,fun t ht=>?_⟩
  obtain ⟨m,rfl⟩:∃ m,n=i + 1 + m:=⟨n - (i + 1),by omega⟩
  have e1:i + 1 + m - (i + 1)=m:=by omega
  have e2:i + 1 + m - 1=i + m:=by omega
  rw [e1] at hn
  rw [e2] at ht ⊢
  have e3:(i + 1 + m) * k=i * k + k + m * k:=by rw [Nat.add_mul,Nat.add_mul,Nat.one_mul]
  have e4:(i + m) * k=i * k + m * k:=Nat.add_mul _ _ _
  have e5:(i + 1) * k=i * k + k:=by rw [Nat.add_mul,Nat.one_mul]
  rw [e3] at hz
  rw [e4] at ht ⊢
  rw [e5] at hnew
  rw [get_setMany _ _ _ t (by simp; omega),if_neg (by omega),get_setMany _ _ _ t (by omega)]
  by_cases h:t < i * k
  · rw [if_neg (by omega),if_pos h]
  · rw [if_pos (by omega),if_neg h,hnew _ (by omega),show i * k + k + (t - i * k)=t + k by omega]
theorem three_args {vs:Array Value} (h:vs.toList.length=3):∃ a b c,vs=#[a,b,c]∧vs.toList[0]? = some a∧vs.toList[1]? = some b∧vs.toList[2]? = some c:=by
 obtain ⟨l⟩:=vs
 match l,h with
 | [a,b,c],_=>exact ⟨a,b,c,rfl,rfl,rfl,rfl⟩
theorem del_rep {S : Nat → Nat → Prop} {w : World} {rows : List (List PV)} {cur cur' F : Array Value} {sz n i : Nat} (hn : rows.length = n) (hi : i < n) (hz : ∀ row ∈ rows, row.length = sz) (hcs : n * sz ≤ cur.size) (hF : DelF sz n i cur F)
    (hc':∀ t y,t < F.size→cur'[t]? = some y→y=F[t]!)
    (hrow:∀ (k:Nat) row (j:Nat) p,rows[k]? = some row→row[j]? = some p→∃ y,cur[k * sz + j]? = some y∧y.oneCell'=true∧RepP S w p y) :
    ∀ (k:Nat) row (j:Nat) p u,(rows.eraseIdx i)[k]? = some row→row[j]? = some p→cur'[k * sz + j]? = some u→u.oneCell'=true∧RepP S w p u:=by
  intro k row j p u a b c
  have hk:k < n - 1:=by
    have:=(List.getElem?_eq_some_iff.1 a).1
    rw [List.length_eraseIdx,if_pos (by omega)] at this; omega
  have hj:j < sz:=by rw [← hz row (List.mem_of_mem_eraseIdx (List.mem_of_getElem? a))]; exact (List.getElem?_eq_some_iff.1 b).1
  have hle:(k + 1) * sz≤(n - 1) * sz:=Nat.mul_le_mul_right _ (by omega)
  have hle2:(n - 1) * sz≤n * sz:=Nat.mul_le_mul_right _ (by omega)
  rw [Nat.add_mul,Nat.one_mul] at hle
  have hu:=hc' _ _ (by rw [hF.1]; omega) c
  rw [hF.2 _ (by omega)] at hu
  rw [List.getElem?_eraseIdx] at a
  by_cases hki:k < i
  · rw [if_pos hki] at a
    have:(k + 1) * sz≤i * sz:=Nat.mul_le_mul_right _ (by omega)
    rw [Nat.add_mul,Nat.one_mul] at this
    rw [if_pos (by omega)] at hu
    obtain ⟨y,y1,y2,y3⟩:=hrow k row j p a b
    obtain ⟨y4,y5⟩:=Array.getElem?_eq_some_iff.1 y1
    rw [getElem!_pos cur _ y4,y5] at hu
    subst hu
    exact ⟨y2,y3⟩
  · rw [if_neg hki] at a
    have:i * sz≤k * sz:=Nat.mul_le_mul_right _ (by omega)
    rw [if_neg (by omega)] at hu
    obtain ⟨y,y1,y2,y3⟩:=hrow (k + 1) row j p a b
    rw [show (k + 1) * sz + j=k * sz + j + sz by rw [Nat.add_mul,Nat.one_mul]; omega] at y1
    obtain ⟨y4,y5⟩:=Array.getElem?_eq_some_iff.1 y1
    rw [getElem!_pos cur _ y4,y5] at hu
    subst hu
    exact ⟨y2,y3⟩
theorem holds_cur {w:World} {g T:Nat} {cur:Array Value} (hc:w.heap[g]? = some (.cells cur T (0,0))):Holds id w g 0 cur:=by
 intro t ht
 refine ⟨?_,?_⟩
 ·
  simp [World.cell?,hc,getElem!_pos cur t ht,ht]
 ·
  simp [World.frozen?,hc]
set_option maxHeartbeats 4000000 in
set_option maxRecDepth 1000000 in
theorem delE_calls (blk off cap n i j : Nat) (cs : Array Value) (w : World) (h0 : off = 0) (hj : j = i + 1) (hH : Holds id w blk off cs) (hz : cs.size = cap * 5) (h1 : ∀ t, t < n * 5 → (cs[t]!).oneCell' = true) (hn : n ≤ cap) (hm : cap ≤ 9223372036854775807) (hi : i < n) :
    Calls Tryz.prog 147 #[.slice (some ⟨blk,off,none⟩) n cap,.int .i64 i,.int .i64 j] w fun e w'=>e = .returned (.slice (some ⟨blk,off,none⟩) (n - 1) cap)∧DelOut 5 n i w blk cs w':=by
  have mixed:Tryz.prog.follows Departure.mixedOrders=true:=rfl
  have hcz:n * 5≤cs.size:=by rw [hz]; exact Nat.mul_le_mul_right _ hn
  obtain ⟨news,hnews⟩:∃ news:List Value,news=(List.range ((n - j) * 5)).map fun t=>cs[j * 5 + t]! := ⟨_,rfl⟩
  have hlen:news.length=(n - j) * 5:=by rw [hnews]; simp
  have hget:∀ t u,news[t]? = some u→t < (n - j) * 5∧u=cs[j * 5 + t]! := by
    intro t u hu
    have ht:t < news.length:=(List.getElem?_eq_some_iff.1 hu).1
    rw [hlen] at ht
    rw [hnews,List.getElem?_map,List.getElem?_range ht] at hu
    exact ⟨ht,(Option.some.inj hu).symm⟩
  obtain ⟨A,hA,hsrc⟩:∃ A:Addr,(if cap=j then some (⟨blk,off,none⟩:Addr) else some ⟨blk,off + j * 5,none⟩)=some A∧Hid (∀ t u,news[t]? = some u→w.drew.cell? (A.add t)=some u):=by
    by_cases h:cap=j
    · refine ⟨⟨blk,off,none⟩,by simp [h],fun t u hu=>?_⟩
      have:=(hget t u hu).1
      have e:n - j=0:=by omega
      rw [e] at this; omega
    · refine ⟨⟨blk,off + j * 5,none⟩,by simp [h],fun t u hu=>?_⟩
      obtain ⟨ht,rfl⟩:=hget t u hu
      rw [Addr.add_lit,Nat.add_assoc]
      exact (hH _ (by omega)).1
  have s1:Hid (news.length=(n - j) * 5):=hlen
  have s2:Hid (∀ u ∈ news,u.oneCell'=true):=by
    intro u hu
    obtain ⟨t,ht,rfl⟩:=List.getElem_of_mem hu
    obtain ⟨h2,h3⟩:=hget t _ (List.getElem?_eq_getElem ht)
    rw [h3]
    exact h1 _ (by omega)
  have s3:Hid (∀ t,t < news.length→(w.drew.cell? ⟨blk,off + i * 5 + t,none⟩).isSome=true∧w.drew.frozen? ⟨blk,off + i * 5 + t,none⟩=false):=by
    intro t ht
    rw [hlen] at ht
    rw [Nat.add_assoc]
    exact ⟨by show (w.cell? _).isSome=true; rw [(hH (i * 5 + t) (by omega)).1]; rfl,(hH (i * 5 + t) (by omega)).2⟩
  obtain ⟨W1,hW1⟩:∃ W1,W1=w.drew.setCells blk (off + i * 5) news:=⟨_,rfl⟩
  have hput:W1=putRow id (Sort.ahead w 1) blk off (setMany cs (i * 5) news):=by
    rw [hW1,← setCells_putRow _ _ _ _ _ _ (by omega),putRow_self id (Sort.ahead w 1) blk off cs (holds_ahead id w 1 blk off cs hH)]
    rfl
  have hH1:Holds id W1 blk off (setMany cs (i * 5) news):=by rw [hput]; exact holds_putRow id _ blk off cs _ (holds_ahead id w 1 blk off cs hH) (by simp)
  obtain ⟨zs,hzl,hcl⟩:∃ zs:List Value,zs.length=(n - (i + (n - j))) * 5∧∀ ty,(Builtin.clear_ #[22] ty #[.slice (some ⟨blk,off + (i + (n - j)) * 5,none⟩) (n - (i + (n - j))) (cap - (i + (n - j)))]).run Tryz.prog W1 = .ok (.tuple #[]) (W1.setCells blk (off + (i + (n - j)) * 5) zs):=by
    obtain ⟨zs,e1,e2⟩:=run_clear_cells (P:=Tryz.prog) W1 22 46 0 (.agg #[.int .i64 0,.int .i64 0,.int .i64 0,.string ⟨#[]⟩,.slice none 0 0]) rfl (fun _=>by kernel_rfl) (by intro v hv; simp [Value.cells] at hv; first | (rcases hv with rfl | rfl | rfl <;> rfl) | (rcases hv with rfl | rfl | rfl | rfl | rfl <;> rfl)) blk (off + (i + (n - j)) * 5) (n - (i + (n - j))) (cap - (i + (n - j))) (by omega)
      (fun s hs=>by
        have hs':s < (n - (i + (n - j))) * 5:=hs
        have:=(hH1 ((i + (n - j)) * 5 + s) (by rw [size_setMany]; omega)).1
        rw [← Nat.add_assoc] at this
        rw [this]; rfl) (fun s hs=>by
        have hs':s < (n - (i + (n - j))) * 5:=hs
        have:=(hH1 ((i + (n - j)) * 5 + s) (by rw [size_setMany]; omega)).2
        rwa [← Nat.add_assoc] at this)
    exact ⟨zs,e1,fun ty=>e2⟩
  have fin:Aside (DelOut 5 n i w blk cs (W1.setCells blk (off + (i + (n - j)) * 5) zs)):=by
    subst h0 hj
    refine ⟨1,_,delF_of hcz hi news zs hlen (fun t ht=>?_),?_⟩
    · rw [getElem!_pos news t ht]
      exact (hget t _ (List.getElem?_eq_getElem ht)).2
    · rw [hput,setCells_putRow _ _ _ _ _ _ (by rw [size_setMany,hzl]; omega),show i + (n - (i + 1))=n - 1 by omega]
  have hW:Hid (W1=w.drew.setCells blk (off + i * 5) news):=hW1
  have hic:i≤cap:=by omega
  have hjc:j≤cap:=by omega
  obtain ⟨i0,hi0,hz0,hz1,hz2⟩:=info_parts (P:=Tryz.prog) (e:=46) (z := .agg #[.int .i64 0,.int .i64 0,.int .i64 0,.string ⟨#[]⟩,.slice none 0 0]) (size:=5) (bytes:=64) (by kernel_rfl)
  clear hput hW1 hH1 hH hget hnews hlen h1 hz hcz h0
  have hij:¬ i=j:=by omega
  have hijle:i≤j:=by omega
  have hjn:j≤n:=by omega
  have hA':Hid (j=i + 1):=hj
  clear hj
  go_enter Tryz.func147,Tryz.ntmps147
  go_wp2_with fail
  go_region_law_o (refine step_append_room rfl (.tmp 22) (.tmp 25) 22 rfl 46 i0 5 rfl hi0 hz1 blk off i cap (by simp [Act.eval,Act.put]) A (n - j) (cap - j) news (by simp [Act.eval,Act.put]) s1.out hsrc.out s2.out (by omega) s3.out ?_; rw [← hW.out])
  go_wp2
  go_ret
  have hj:=hA'.out
  exact ⟨by rw [show n - 1=i + (n - j) by omega]; rfl,fin.out⟩
theorem delE_meets (rows : List (List PV)) (v T i : Nat) (hi : i < rows.length) :
    Meets Tryz.prog 147 [.arr 0 v,.int .i64 i,.int .i64 ((i + 1:Nat):Int)] [.arr v true false T 5 rows] (.arr 0 (v + 1)) [.arr (v + 1) true false T 5 (rows.eraseIdx i)]:=by
  intro x vs hx h0 hp
  obtain ⟨a,b,c,rfl,p1,p2,p3⟩:=three_args hp.1
  have ha:=hp.2 0 _ _ rfl p1
  obtain rfl:=(hp.2 1 _ _ rfl p2).int_inv
  obtain rfl:=(hp.2 2 _ _ rfl p3).int_inv
  obtain ⟨e1,e2,e3⟩:=h0.row (id:=0) rfl ha
  rcases e3 with ⟨rfl,hnil⟩ | ⟨g,cap,cur,rfl,hc,hcap,hm,hz,hrow⟩
  · subst hnil; simp at hi
  · have hH:=holds_cur hc
    have hcs:rows.length * 5≤cur.size:=by rw [hz]; exact Nat.mul_le_mul_right _ hcap
    have key:=delE_calls g 0 cap rows.length i (i + 1) cur x.w0 rfl rfl hH hz (fun t ht=>by
      have hk:t / 5 < rows.length:=Nat.div_lt_of_lt_mul (by omega)
      have hj:t % 5 < (rows[t / 5]'hk).length:=by rw [e2 _ (List.getElem_mem hk)]; exact Nat.mod_lt _ (by omega)
      obtain ⟨y,y1,y2,-⟩:=hrow (t / 5) _ (t % 5) _ (List.getElem?_eq_getElem hk) (List.getElem?_eq_getElem hj)
      rw [show t / 5 * 5 + t % 5=t by omega] at y1
      obtain ⟨y4,y5⟩:=Array.getElem?_eq_some_iff.1 y1
      rw [getElem!_pos cur _ y4,y5]; exact y2) hcap (by simp [maxLen] at hm; omega) hi
    refine key.mono ?_
    rintro e w' ⟨rfl,q,F,hF,rfl⟩
    obtain ⟨cur',c1,c2,c3,c4⟩:=row_worldF x.w0 g q F hc
    have hown:(x.C0.sv 0).ownBlock=some g:=by rw [← e1]; rfl
    have hlen:(rows.eraseIdx i).length=rows.length - 1:=by rw [List.length_eraseIdx,if_pos hi]
    obtain ⟨C',k1,k2,k3⟩:=h0.rerow (id:=0) (v':=v + 1) (g':=g) (cap':=cap) (rows':=rows.eraseIdx i) (cur':=cur') rfl (by
      refine ⟨c4.size,c4.os,c4.tape,c4.output,fun b hb hne=>c4.blk b hb fun e=>hne (by rw [hown,e])⟩) (.inl hown) (.inr (by omega)) c1 (by rw [hlen]; omega) hm (by rw [c2,hz])
      (fun row hr=>e2 row (List.mem_of_mem_eraseIdx hr)) (del_rep rfl hi e2 hcs hF c3 hrow)
    rw [hlen] at k3
    exact ⟨_,C',rfl,k1,k3⟩
end Go.Proofs.YtfdolehffjmdmaaGreatDoor
/- slices.Insert of one element of k cells: in memory. -/
namespace Go.Proofs.YtfdolehffjmdmaaGreatDoor
open Go.RowKit Go.Lib Go.Sort
open Go.Shelf
def InsF (k n i:Nat) (cs:Array Value) (vs:List Value) (F:Array Value):Prop:=∀ t,t < (n + 1) * k→F[t]! = if t < i * k then cs[t]! else if t < i * k + k then vs[t - i * k]! else cs[t - k]!
theorem run_overlaps_own {P : Program} (w : World) (tS tR e : TypeId) (ht : P.underlying tS = some (.slice e)) (size : Nat) (hz : ∀ w, (Go.sizeOf e).run P w = .ok size w)
    (a b:Addr) (la ca lb cb:Nat) (hne:a.block≠b.block) (tA tB:TypeId) (kA kB:Nat)
    (hsa:w.shape? a.block=some (tA,kA)) (hsb:w.shape? b.block=some (tB,kB)) (hkB:kB≠0) (hkA:kA≠0)
    (hfa:w.frozen? b=false) (hfe:w.frozen? { block:=b.block,off:=kB }=false) :
    (Extern.SlicesOverlaps.overlaps #[tS,tS] #[tR] #[.slice (some a) la ca,.slice (some b) lb cb]).run P w = .ok (.bool false) w:=by
  have hnb:(a.block != b.block)=true:=by simpa using hne
  have hnb':(a.block == b.block)=false:=by simpa using hne
  change Sem.run P (α:=Value) (do
    let some t := (#[tS, tS] : Array TypeId)[0]? | stuck "slices.overlaps: no parameter types"
    let .slice elem ← underlying t | stuck "slices.overlaps: slice type expected"
    let size ← sizeOf elem
    match (some a:Option Addr),(some b:Option Addr) with
    | some a,some b =>
      if la=0∨lb=0∨size=0 then pure (Value.bool false)
      else if a.block != b.block && (← frozen a) && (← frozen b) then unsupported .addressObserved
      else do
        if a.block != b.block then do
          noView a; noView b
          if ← mayBeOne a b then return Value.bool ((← choose (.extern "sameAddr.stringBytes" 2)) == 1)
        pure (Value.bool (a.block == b.block && a.off < b.off + lb * size && b.off < a.off + la * size))
    | _,_=>pure (Value.bool false)) w=_
  by_cases h0:la=0∨lb=0∨size=0
  · simp [run_underlying ht,hz,h0]
  · cases kB with
    | zero=>exact absurd rfl hkB
    | succ kB =>
     cases kA with
     | zero=>exact absurd rfl hkA
     | succ kA =>
      cases h1:w.frozen? a <;> cases h2:w.frozen? { block:=a.block,off:=kA + 1 } <;>
        simp [run_underlying ht,hz,h0,hnb,hnb',frozen,noView,viewAt,mayBeOne,stringish,shape,Sem.run,hsa,hsb,hfa,hfe,h1,h2]
theorem run_copy_cellsK {P : Program} (w : World) (dT sT ty elem : TypeId) (k : Nat) (b o dLen dCap : Nat) (a : Addr) (sLen sCap m : Nat) (cs : List Value)
    (hu:P.underlying dT=some (.slice elem)) (hs:(P.info? elem).map (·.size)=some k) (hm:m=Nat.min sLen dLen) (hn:cs.length=m * k)
    (hsrc:∀ j v,cs[j]? = some v→w.cell? (a.add j)=some v) (hc:∀ j,j < cs.length→(w.cell? ⟨b,o + j,none⟩).isSome=true) (hf:∀ j,j < cs.length→w.frozen? ⟨b,o + j,none⟩=false) (h1:∀ v ∈ cs,v.oneCell'=true) :
    (Builtin.copy_ #[dT,sT] ty #[.slice (some ⟨b,o,none⟩) dLen dCap,.slice (some a) sLen sCap]).run P w = .ok (goInt m) (w.setCells b o cs):=by
  have hl:=run_loadCells_list (P:=P) w a cs hsrc
  have hst:=run_storeCells_cells (P:=P) b o cs 0 w (by simpa using hc) (by simpa using hf) h1
  cases hq:P.info? elem with
  | none=>simp [hq] at hs
  | some i =>
    have hi:i.size=k:=by simpa [hq] using hs
    rw [hn] at hl
    simp [Builtin.copy_,run_underlying hu,Builtin.lenOf,Builtin.firstCells,sizeOf,typeInfo,hq,hi,← hm,hl,hst]
def seg (cs:Array Value) (s m:Nat):List Value:=(List.range m).map fun t=>cs[s + t]!
theorem seg_len (cs:Array Value) (s m:Nat):(seg cs s m).length=m:=by simp [seg]
theorem seg_get {cs:Array Value} {s m t:Nat} {u:Value} (h:(seg cs s m)[t]? = some u):t < m∧u=cs[s + t]! := by
 have ht:t < (seg cs s m).length:=(List.getElem?_eq_some_iff.1 h).1
 rw [seg_len] at ht
 rw [seg,List.getElem?_map,List.getElem?_range ht] at h
 exact ⟨ht,(Option.some.inj h).symm⟩
theorem seg_get! {cs:Array Value} {s m t:Nat} (h:t < m):(seg cs s m)[t]! = cs[s + t]! := by
 rw [getElem!_pos _ t (by rw [seg_len]; exact h)]
 simp [seg]
theorem seg_one {cs:Array Value} {s m e:Nat} (h1:∀ t,t < e→(cs[t]!).oneCell'=true) (he:s + m≤e):∀ v ∈ seg cs s m,v.oneCell'=true:=by
 intro v hv
 obtain ⟨t,ht,rfl⟩:=List.getElem_of_mem hv
 obtain ⟨h2,h3⟩:=seg_get (List.getElem?_eq_getElem ht)
 rw [h3]; exact h1 _ (by omega)
theorem insF_of {k n i : Nat} {cs : Array Value} {vs : List Value} (hz : (n + 1) * k ≤ cs.size) (hi : i ≤ n) (hv : vs.length = k) :
    InsF k n i cs vs (setMany (setMany cs ((i + 1) * k) (seg cs (i * k) ((n - i) * k))) (i * k) vs):=by
  intro t ht
  obtain ⟨m,rfl⟩:∃ m,n=i + m:=⟨n - i,by omega⟩
  have e1:(i + m + 1) * k=i * k + m * k + k:=by rw [Nat.add_mul,Nat.add_mul,Nat.one_mul]
  have e2:(i + 1) * k=i * k + k:=by rw [Nat.add_mul,Nat.one_mul]
  have e3:i + m - i=m:=by omega
  rw [e1] at hz ht
  rw [e2,e3,get_setMany _ _ _ t (by simp; omega),hv]
  by_cases h1:t < i * k
  · rw [if_neg (by omega),if_pos h1,get_setMany _ _ _ t (by omega),if_neg (by omega)]
  · by_cases h2:t < i * k + k
    · rw [if_pos (by omega),if_neg h1,if_pos h2]
    · rw [if_neg (by omega),if_neg h1,if_neg h2,get_setMany _ _ _ t (by omega),seg_len,if_pos (by omega),seg_get! (by omega),show i * k + (t - (i * k + k))=t - k by omega]
theorem wpList_append_room_k {P : Program} (w : World) {ops : Array Oper} {rest : List Oper} {o : Oper} {a : Act} {Q : Exit → Act → World → Prop}
    (hg:o.guard=none) (s x:Operand) (t:TypeId) (hop:o.op=Op.call { callee:=Callee.builtin Builtin.append,args:=#[s,x],argTypes:=#[t,t] })
    (e:TypeId) (i:TypeInfo) (size:Nat) (h1:P.underlying t=some (.slice e)) (h2:P.info? e=some i) (h4:i.size=size)
    (b off n cap:Nat) (hs:a.eval s = .slice (some ⟨b,off,none⟩) n cap) (ad:Addr) (m c:Nat) (news:List Value) (hx:a.eval x = .slice (some ad) m c) (hn:news.length=m * size)
    (hc:∀ j u,news[j]? = some u→w.cell? (ad.add j)=some u) (h1c:∀ u ∈ news,u.oneCell'=true) (hroom:n + m≤cap)
    (hspare:∀ j,j < news.length→(w.cell? ⟨b,off + n * size + j,none⟩).isSome=true∧w.frozen? ⟨b,off + n * size + j,none⟩=false)
    (hK:wpList P ops Q rest (a.put o.dst (.slice (some ⟨b,off,none⟩) (n + m) cap)) (w.setCells b (off + n * size) news)) :
    wpList P ops Q (o :: rest) a w:=by
  refine wpList_plain hg fun K hK'=>?_
  subst h4
  have hrun:=run_append_room_cells (P:=P) w t o.type e i h1 h2 b off n cap ad m c news hn hc h1c hroom (fun j hj=>(hspare j hj).1) (fun j hj=>(hspare j hj).2)
  unfold Oper.wp
  simp [execOp,hop,resolve,invoke,builtin,hs,hx,hrun,Result.andThen]
  exact hK' _ _ hK
set_option maxHeartbeats 4000000 in
set_option maxRecDepth 1000000 in
theorem insE_shift (blk off cap n i m vb voff vc tA kA : Nat) (cs : Array Value) (vs : List Value) (w : World) (h0 : off = 0) (hm1 : m = 1) (hH : Holds id w blk off cs) (hz : cs.size = cap * 5) (h1 : ∀ t, t < n * 5 → (cs[t]!).oneCell' = true)
    (hvl:vs.length=5) (hvs:∀ j v,vs[j]? = some v→w.cell? ⟨vb,voff + j,none⟩=some v) (h1v:∀ v ∈ vs,v.oneCell'=true) (hvb:vb≠blk) (hsa:w.shape? vb=some (tA,kA)) (hkA:kA≠0) (tB:TypeId) (hsb:w.shape? blk=some (tB,cap * 5)) (hfb:∀ o,w.frozen? ⟨blk,o,none⟩=false)
    (hm:cap≤9223372036854775807) (hi:i < n) (hroom:n + m≤cap) :
    Calls Tryz.prog 144 #[.slice (some ⟨blk,off,none⟩) n cap,.int .i64 i,.slice (some ⟨vb,voff,none⟩) m vc] w fun e w'=>e = .returned (.slice (some ⟨blk,off,none⟩) (n + m) cap)∧∃ (q:Nat) (F:Array Value),F.size=cs.size∧InsF 5 n i cs vs F∧w'=putRow id (Sort.ahead w q) blk 0 F:=by
  have mixed:Tryz.prog.follows Departure.mixedOrders=true:=rfl
  have hz1:¬ ((m:Int)=0):=by omega
  have hz2:¬ ((i:Int)=(n:Int)):=by omega
  have hsz:(Tryz.prog.info? 46).map (·.size)=some 5:=by kernel_rfl
  have hov:∀ lb cb,(callFunc 173 #[.slice (some ⟨vb,voff,none⟩) m vc,.slice (some ⟨blk,off + (i + m) * 5,none⟩) lb cb]).run Tryz.prog w = .ok (.value (.bool false)) w:=fun lb cb=>by
    rw [run_callFunc_extern Tryz.func173 (by kernel_rfl) (by kernel_rfl) (by kernel_rfl) (e:=Extern.SlicesOverlaps.overlaps #[22,22] #[4]) (by kernel_rfl),
      run_overlaps_own w 22 4 46 rfl 5 (fun _=>by kernel_rfl) ⟨vb,voff,none⟩ ⟨blk,off + (i + m) * 5,none⟩ m vc lb cb hvb tA tB kA (cap * 5) hsa hsb (by omega) hkA (hfb _) (hfb _)]
    rfl
  have hw1:IntKind.i64.wrap ((i:Int) + (m:Int))=(i:Int) + (m:Int):=by rw [IntKind.wrap_i64]; omega
  have hb1:(0:Int)≤(i:Int) + (m:Int):=by omega
  have hin:i≤n:=by omega
  have htn:((i:Int) + (m:Int)).toNat=i + m:=by omega
  have hb2:¬ (cap=i + m):=by omega
  have hb3:(i:Int)≤(n:Int) + (m:Int):=by omega
  have hb4:¬ (cap=i):=by omega
  have hcz:n * 5≤cs.size:=by rw [hz]; exact Nat.mul_le_mul_right _ (by omega)
  have hcz1:(n + m) * 5≤cs.size:=by rw [hz]; exact Nat.mul_le_mul_right _ hroom
  obtain ⟨news,hnews⟩:∃ news,news=seg cs (i * 5) ((n - i) * 5):=⟨_,rfl⟩
  have hnl:news.length=(n - i) * 5:=by rw [hnews,seg_len]
  have hcp1:∀ ty dc sc,(Builtin.copy_ #[22,22] ty #[.slice (some ⟨blk,off + (i + m) * 5,none⟩) (n + m - (i + m)) dc,.slice (some ⟨blk,off + i * 5,none⟩) (n + m - i) sc]).run Tryz.prog w.drew = .ok (goInt ((n - i:Nat):Int)) (w.drew.setCells blk (off + (i + m) * 5) news):=fun ty dc sc =>
    run_copy_cellsK w.drew _ _ ty 46 5 blk (off + (i + m) * 5) (n + m - (i + m)) dc ⟨blk,off + i * 5,none⟩ (n + m - i) sc (n - i) news rfl hsz (by simp only [Nat.min_def]; split <;> omega) hnl
      (fun j v hj=>by
        rw [hnews] at hj
        obtain ⟨ht,rfl⟩:=seg_get hj
        rw [Addr.add_lit,Nat.add_assoc]; exact (hH _ (by omega)).1)
      (fun j hj=>by rw [hnl] at hj; rw [Nat.add_assoc]; show (w.cell? _).isSome=true; rw [(hH _ (by omega)).1]; rfl) (fun j hj=>by exact hfb _)
      (by rw [hnews]; exact seg_one h1 (by omega))
  obtain ⟨W1,hW1⟩:∃ W1,W1=w.drew.setCells blk (off + (i + m) * 5) news:=⟨_,rfl⟩
  have hput:W1=putRow id (Sort.ahead w 1) blk off (setMany cs ((i + m) * 5) news):=by
    rw [hW1,← setCells_putRow _ _ _ _ _ _ (by omega),putRow_self id (Sort.ahead w 1) blk off cs (holds_ahead id w 1 blk off cs hH)]
    rfl
  have hH1:Holds id W1 blk off (setMany cs ((i + m) * 5) news):=by rw [hput]; exact holds_putRow id _ blk off cs _ (holds_ahead id w 1 blk off cs hH) (by simp)
  have hcp2:∀ (W:World),W=W1→∀ ty dc,(Builtin.copy_ #[22,22] ty #[.slice (some ⟨blk,off + i * 5,none⟩) (n + m - i) dc,.slice (some ⟨vb,voff,none⟩) m vc]).run Tryz.prog W = .ok (goInt m) (W.setCells blk (off + i * 5) vs):=fun W hWc ty dc=>by
    subst hWc
    refine run_copy_cellsK W _ _ ty 46 5 blk (off + i * 5) (n + m - i) dc ⟨vb,voff,none⟩ m vc m vs rfl hsz (by simp only [Nat.min_def]; split <;> omega) (by omega)
      (fun j v hj=>by
        rw [Addr.add_lit,hW1,World.cell?_setCells_out blk _ _ _ _ (fun h _=>absurd h hvb)]
        exact hvs j v hj)
      (fun j hj=>by rw [Nat.add_assoc,(hH1 _ (by rw [size_setMany]; omega)).1]; rfl) (fun j hj=>by rw [Nat.add_assoc]; exact (hH1 _ (by rw [size_setMany]; omega)).2) h1v
  have fin:Aside (∃ (q:Nat) (F:Array Value),F.size=cs.size∧InsF 5 n i cs vs F∧W1.setCells blk (off + i * 5) vs=putRow id (Sort.ahead w q) blk 0 F):=by
    subst h0 hm1
    refine ⟨1,_,?_,insF_of hcz1 (by omega) hvl,?_⟩
    · simp
    · rw [hput,setCells_putRow _ _ _ _ _ _ (by rw [size_setMany]; omega),hnews]
  rw [← hW1] at hcp1
  clear hkA hput hH hH1 hnews hnl hz hcz hcz1 h1 hvs h1v hsa hsb hfb hvl h0 hm1 hvb
  go_enter Tryz.func144,Tryz.ntmps144
  go_wp2_with (simp only [hov])
  go_region_law_o (refine step_copy_runI rfl _ _ 22 22 rfl _ _ (by simp [Act.eval,Act.put]) (by simp [Act.eval,Act.put]) (hcp1 _ _ _) ?_)
  go_wp2_with (at_builtin; refine wpList_copy_runI _ rfl _ _ 22 22 rfl _ _ rfl rfl (hcp2 _ rfl _ _) ?_)
  go_ret
  exact ⟨rfl,by rw [← hW1]; exact fin.out⟩
set_option maxHeartbeats 4000000 in
set_option maxRecDepth 1000000 in
theorem insE_end_room (blk off cap n m vb voff vc : Nat) (cs : Array Value) (vs : List Value) (w : World) (h0 : off = 0) (hm1 : m = 1) (hH : Holds id w blk off cs) (hz : cs.size = cap * 5)
    (hvl:vs.length=5) (hvs:∀ j v,vs[j]? = some v→w.cell? ⟨vb,voff + j,none⟩=some v) (h1v:∀ v ∈ vs,v.oneCell'=true)
    (hm:cap≤9223372036854775807) (hroom:n + m≤cap) :
    Calls Tryz.prog 144 #[.slice (some ⟨blk,off,none⟩) n cap,.int .i64 n,.slice (some ⟨vb,voff,none⟩) m vc] w fun e w'=>e = .returned (.slice (some ⟨blk,off,none⟩) (n + m) cap)∧∃ (q:Nat) (F:Array Value),F.size=cs.size∧InsF 5 n n cs vs F∧w'=putRow id (Sort.ahead w q) blk 0 F:=by
  have mixed:Tryz.prog.follows Departure.mixedOrders=true:=rfl
  have hz1:¬ ((m:Int)=0):=by omega
  have hcz1:(n + m) * 5≤cs.size:=by rw [hz]; exact Nat.mul_le_mul_right _ hroom
  obtain ⟨i0,hi0,hz0,hzs,hzb⟩:=info_parts (P:=Tryz.prog) (e:=46) (z := .agg #[.int .i64 0,.int .i64 0,.int .i64 0,.string ⟨#[]⟩,.slice none 0 0]) (size:=5) (bytes:=64) (by kernel_rfl)
  have s1:Hid (∀ j u,vs[j]? = some u→w.cell? (Addr.add ⟨vb,voff,none⟩ j)=some u):=fun j u hj=>by rw [Addr.add_lit]; exact hvs j u hj
  have s2:Hid (∀ u ∈ vs,u.oneCell'=true):=h1v
  have s3:Hid (∀ j,j < vs.length→(w.cell? ⟨blk,off + n * 5 + j,none⟩).isSome=true∧w.frozen? ⟨blk,off + n * 5 + j,none⟩=false):=fun j hj=>by
    rw [Nat.add_assoc]; exact ⟨by rw [(hH _ (by omega)).1]; rfl,(hH _ (by omega)).2⟩
  have s5:Hid (vs.length=m * 5):=by show vs.length=m * 5; omega
  have s6:Hid (∀ j u,(seg cs 0 (n * 5))[j]? = some u→w.cell? ⟨blk,off + j,none⟩=some u):=fun j u hj=>by
    obtain ⟨ht,rfl⟩:=seg_get hj
    rw [Nat.zero_add]; exact (hH _ (by omega)).1
  have fin:Aside (∃ (q:Nat) (F:Array Value),F.size=cs.size∧InsF 5 n n cs vs F∧w.setCells blk (off + n * 5) vs=putRow id (Sort.ahead w q) blk 0 F):=by
    subst h0 hm1
    refine ⟨0,setMany cs (n * 5) vs,by simp,fun t ht=>?_,?_⟩
    · rw [get_setMany _ _ _ t (by omega),hvl]
      by_cases h1:t < n * 5
      · rw [if_neg (by omega),if_pos h1]
      · rw [if_pos (by omega),if_neg h1,if_pos (by omega)]
    · rw [← setCells_putRow _ _ _ _ _ _ (by omega),putRow_self id (Sort.ahead w 0) blk 0 cs (holds_ahead id w 0 blk 0 cs hH)]
      rfl
  have hml:n + m≤maxLen:=by unfold maxLen; omega
  clear hH hz hcz1 hvs h1v hvl h0 hm1
  go_enter Tryz.func144,Tryz.ntmps144
  go_wp2_with (at_builtin; refine wpList_append_room_k _ rfl _ _ 22 rfl 46 i0 5 rfl hi0 hzs blk off n cap rfl ⟨vb,voff,none⟩ m vc vs rfl s5.out s1.out s2.out hroom s3.out ?_)
  go_ret
  exact ⟨rfl,fin.out⟩
set_option maxHeartbeats 4000000 in
set_option maxRecDepth 1000000 in
theorem insE_end_grow (ao : Option Addr) (cap n m vb voff vc : Nat) (olds vs : List Value) (w : World) (hm1 : m = 1) (hnone : ao = none → n = 0 ∧ cap = 0) (hlo : olds.length = n * 5) (holds : ∀ b, ao = some b → ∀ j u, olds[j]? = some u → w.cell? (b.add j) = some u)
    (hvl:vs.length=5) (hvs:∀ j v,vs[j]? = some v→w.cell? ⟨vb,voff + j,none⟩=some v) (h1v:∀ v ∈ vs,v.oneCell'=true)
    (hnc:n≤cap) (hfull:cap < n + m) (hbig:(n + m) * 64≤140737488355328) :
    Calls Tryz.prog 144 #[.slice ao n cap,.int .i64 n,.slice (some ⟨vb,voff,none⟩) m vc] w fun e w'=>∃ v',e = .returned v'∧w'.ownsRow w.heap.size 46 5 v' (n + m) (olds ++ vs)∧w.grownBy w' none:=by
  have mixed:Tryz.prog.follows Departure.mixedOrders=true:=rfl
  have hz1:¬ ((m:Int)=0):=by omega
  obtain ⟨i0,hi0,hz0,hzs,hzb⟩:=info_parts (P:=Tryz.prog) (e:=46) (z := .agg #[.int .i64 0,.int .i64 0,.int .i64 0,.string ⟨#[]⟩,.slice none 0 0]) (size:=5) (bytes:=64) (by kernel_rfl)
  have s1:Hid (∀ j u,vs[j]? = some u→w.cell? (Addr.add ⟨vb,voff,none⟩ j)=some u):=fun j u hj=>by rw [Addr.add_lit]; exact hvs j u hj
  have s2:Hid (∀ u ∈ vs,u.oneCell'=true):=h1v
  have s5:Hid (vs.length=m * 5):=by show vs.length=m * 5; omega
  have s6:Hid (∀ b,ao=some b→∀ j u,olds[j]? = some u→w.cell? (b.add j)=some u):=holds
  have s7:Hid (ao=none→n=0∧cap=0):=hnone
  have hml:n + m≤maxLen:=by unfold maxLen; omega
  clear hvs h1v hvl hm1 holds hnone
  go_enter Tryz.func144,Tryz.ntmps144
  go_wp2_with (at_builtin; refine wpList_append_grows _ rfl _ _ 22 rfl 46 i0 (.agg #[.int .i64 0,.int .i64 0,.int .i64 0,.string ⟨#[]⟩,.slice none 0 0]) 5 64 rfl hi0 hz0 hzs hzb rfl (by omega) ao n cap olds rfl s7.out hlo s6.out ⟨vb,voff,none⟩ m vc vs rfl s5.out s1.out s2.out hfull hml hbig (fun v' w' r1 r2=>?_))
  all_goals
    go_ret
    exact ⟨_,rfl,by assumption,by assumption⟩
end Go.Proofs.YtfdolehffjmdmaaGreatDoor
/- slices.Insert of one element of k cells where there is no room: in memory. -/
namespace Go.Proofs.YtfdolehffjmdmaaGreatDoor
open Go.RowKit Go.Lib Go.Sort
open Go.Shelf
theorem insF_grow {k n i : Nat} {cs ROW : Array Value} {vs : List Value} (hz : (n + 1) * k ≤ ROW.size) (hi : i ≤ n) (hv : vs.length = k) (hrow : ∀ t, t < i * k → ROW[t]! = cs[t]!) :
    InsF k n i cs vs (setMany (setMany ROW (i * k) vs) ((i + 1) * k) (seg cs (i * k) ((n - i) * k))):=by
  intro t ht
  obtain ⟨m,rfl⟩:∃ m,n=i + m:=⟨n - i,by omega⟩
  have e1:(i + m + 1) * k=i * k + m * k + k:=by rw [Nat.add_mul,Nat.add_mul,Nat.one_mul]
  have e2:(i + 1) * k=i * k + k:=by rw [Nat.add_mul,Nat.one_mul]
  have e3:i + m - i=m:=by omega
  rw [e1] at hz ht
  rw [e2,e3,get_setMany _ _ _ t (by simp; omega),seg_len]
  by_cases h1:t < i * k
  · rw [if_neg (by omega),if_pos h1,get_setMany _ _ _ t (by omega),if_neg (by omega),hrow t h1]
  · by_cases h2:t < i * k + k
    · rw [if_neg (by omega),if_neg h1,if_pos h2,get_setMany _ _ _ t (by omega),hv,if_pos (by omega)]
    · rw [if_pos (by omega),if_neg h1,if_neg h2,seg_get! (by omega),show i * k + (t - (i * k + k))=t - k by omega]
set_option maxHeartbeats 4000000 in
set_option maxRecDepth 1000000 in
theorem insE_grow (blk off cap n i m vb voff vc : Nat) (cs : Array Value) (vs : List Value) (w : World) (h0 : off = 0) (hm1 : m = 1) (hH : Holds id w blk off cs) (hz : cs.size = cap * 5) (h1 : ∀ t, t < n * 5 → (cs[t]!).oneCell' = true)
    (hvl:vs.length=5) (hvs:∀ j v,vs[j]? = some v→w.cell? ⟨vb,voff + j,none⟩=some v) (h1v:∀ v ∈ vs,v.oneCell'=true)
    (hi:i < n) (hnc:n≤cap) (hroom:cap < n + m) (hbig:(n + m) * 64≤140737488355328) :
    Calls Tryz.prog 144 #[.slice (some ⟨blk,off,none⟩) n cap,.int .i64 i,.slice (some ⟨vb,voff,none⟩) m vc] w fun e w'=>∃ (q G:Nat) (ROW F:Array Value),e = .returned (.slice (some ⟨w.heap.size,0,none⟩) (n + m) G)∧n + m≤G∧G≤maxLen∧ROW.size=G * 5∧F.size=ROW.size∧InsF 5 n i cs vs F∧w'=putRow id (Sort.ahead (w.alloc (.cells ROW 46)) q) w.heap.size 0 F:=by
  have mixed:Tryz.prog.follows Departure.mixedOrders=true:=rfl
  have hz1:¬ ((m:Int)=0):=by omega
  have hz2:¬ ((i:Int)=(n:Int)):=by omega
  have hz3:(cap:Int) < (n:Int) + (m:Int):=by omega
  have hsz:(Tryz.prog.info? 46).map (·.size)=some 5:=by kernel_rfl
  obtain ⟨i0,hi0,hz0,hzs,hzb⟩:=info_parts (P:=Tryz.prog) (e:=46) (z := .agg #[.int .i64 0,.int .i64 0,.int .i64 0,.string ⟨#[]⟩,.slice none 0 0]) (size:=5) (bytes:=64) (by kernel_rfl)
  have hcz:n * 5≤cs.size:=by rw [hz]; exact Nat.mul_le_mul_right _ hnc
  have hbw:blk < w.heap.size:=block_lt_of_cell (hH 0 (by omega)).1
  have hvw:vb < w.heap.size:=block_lt_of_cell (hvs 0 _ (List.getElem?_eq_getElem (by omega)))
  have hkk:(n:Int) + (m:Int) - (i:Int)=((n + m - i:Nat):Int):=by omega
  have hik:i + (n + m - i)=n + m:=by omega
  have hold:(Builtin.firstCells i0.size i (.slice (some ⟨blk,off,none⟩) i cap)).run Tryz.prog w.drew = .ok (seg cs 0 (i * 5)).toArray w.drew:=by
    rw [hzs]
    exact run_firstCells_some w.drew 5 i ⟨blk,off,none⟩ i cap (seg cs 0 (i * 5)) (seg_len _ _ _) (fun j v hj=>by
      obtain ⟨ht,rfl⟩:=seg_get hj
      rw [Addr.add_lit,Nat.zero_add]
      exact (hH _ (by omega)).1)
  obtain ⟨G,hG⟩:∃ G,G=grownCap w (n + m) cap 46:=⟨_,rfl⟩
  obtain ⟨ROW,hROW⟩:∃ ROW:Array Value,ROW=(seg cs 0 (i * 5)).toArray ++ Builtin.zeroCells (Value.cells (.agg #[.int .i64 0,.int .i64 0,.int .i64 0,.string ⟨#[]⟩,.slice none 0 0])) (n + m - i) ++ Builtin.zeroCells (Value.cells (.agg #[.int .i64 0,.int .i64 0,.int .i64 0,.string ⟨#[]⟩,.slice none 0 0])) (G - (n + m)):=⟨_,rfl⟩
  have hrz : ∀ ty, (Builtin.append_ #[22, 3] ty #[.slice (some ⟨blk, off, none⟩) i cap, .int .i64 ((n : Int) + (m : Int) - (i : Int))]).run Tryz.prog w =
      .ok (.slice (some ⟨w.heap.size,0,none⟩) (n + m) G) (w.drew.alloc (.cells ROW 46)):=fun ty=>by
    have h:=Lib.run_append_grow_zeros w 22 3 ty 46 i0 _ .i64 .i64 rfl rfl hi0 hz0 (some ⟨blk,off,none⟩) i cap (seg cs 0 (i * 5)) hold (n + m - i) (by omega) (by omega) (by omega) (by omega) (by rw [hzb]; omega) (by rw [hzb,hik]; exact growslice_fits hroom hbig)
    rw [hik,← hG,← hROW] at h
    rw [hkk]
    exact h
  have hGn:n + m≤G:=by rw [hG]; exact grownCap_ge w _ _ _
  have hGm:G≤maxLen:=by rw [hG]; exact grownCap_le_maxLen w (n + m) cap 46 (by unfold maxLen; omega)
  have hG63:G≤9223372036854775807:=by have:=hGm; unfold maxLen at this; omega
  have hRs:ROW.size=G * 5:=by
    rw [hROW]
    simp [Builtin.zeroCells,Value.cells,seg_len]
    omega
  have hRow:∀ t,t < i * 5→ROW[t]! = cs[t]! := fun t ht=>by
    rw [getElem!_pos ROW t (by omega)]
    simp only [hROW]
    rw [Array.getElem_append_left (by simp [seg_len]; omega),Array.getElem_append_left (by simp [seg_len]; omega)]
    have:=seg_get! (cs:=cs) (s:=0) ht
    rw [getElem!_pos _ t (by rw [seg_len]; exact ht),Nat.zero_add] at this
    simpa using this
  obtain ⟨W1,hW1⟩:∃ W1,W1=w.drew.alloc (.cells ROW 46):=⟨_,rfl⟩
  have hN:Holds id W1 w.heap.size 0 ROW:=fun j hj=>by
    rw [Nat.zero_add,hW1]
    refine ⟨?_,World.frozen?_alloc_at (w:=w.drew) ROW _ w.heap.size j rfl⟩
    rw [World.cell?_alloc_at (w:=w.drew) ROW _ w.heap.size j rfl,Array.getElem?_eq_getElem hj,getElem!_pos ROW j hj]; rfl
  have hOb:∀ j v,w.cell? ⟨blk,j,none⟩=some v→W1.cell? ⟨blk,j,none⟩=some v:=fun j v h=>by rw [hW1,World.cell?_alloc_past (w:=w.drew) _ blk j hbw]; exact h
  have hOv:∀ j v,w.cell? ⟨vb,j,none⟩=some v→W1.cell? ⟨vb,j,none⟩=some v:=fun j v h=>by rw [hW1,World.cell?_alloc_past (w:=w.drew) _ vb j hvw]; exact h
  have hRn:(n + m) * 5≤ROW.size:=by rw [hRs]; exact Nat.mul_le_mul_right _ hGn
  have hcpA:∀ ty dc,(Builtin.copy_ #[22,22] ty #[.slice (some ⟨w.heap.size,i * 5,none⟩) (n + m - i) dc,.slice (some ⟨vb,voff,none⟩) m vc]).run Tryz.prog W1 = .ok (goInt m) (W1.setCells w.heap.size (i * 5) vs):=fun ty dc =>
    run_copy_cellsK W1 _ _ ty 46 5 w.heap.size (i * 5) (n + m - i) dc ⟨vb,voff,none⟩ m vc m vs rfl hsz (by simp only [Nat.min_def]; split <;> omega) (by omega)
      (fun j v hj=>by rw [Addr.add_lit]; exact hOv _ v (hvs j v hj))
      (fun j hj=>by have:=(hN (i * 5 + j) (by omega)).1; rw [Nat.zero_add] at this; rw [this]; rfl) (fun j hj=>by have:=(hN (i * 5 + j) (by omega)).2; rwa [Nat.zero_add] at this) h1v
  obtain ⟨news,hnews⟩:∃ news,news=seg cs (i * 5) ((n - i) * 5):=⟨_,rfl⟩
  have hnl:news.length=(n - i) * 5:=by rw [hnews,seg_len]
  obtain ⟨W2,hW2⟩:∃ W2,W2=W1.setCells w.heap.size (i * 5) vs:=⟨_,rfl⟩
  have hself:putRow id W1 w.heap.size 0 ROW=W1:=putRow_self id W1 w.heap.size 0 ROW hN
  have hput:W2=putRow id W1 w.heap.size 0 (setMany ROW (i * 5) vs):=by
    rw [← setCells_putRow _ _ _ _ _ _ (by omega),hself,hW2,Nat.zero_add]
  have hN2:Holds id W2 w.heap.size 0 (setMany ROW (i * 5) vs):=by rw [hput]; exact holds_putRow id _ _ _ ROW _ hN (by simp)
  have hbN:blk≠w.heap.size:=by omega
  have hcpB:∀ ty dc sc,(Builtin.copy_ #[22,22] ty #[.slice (some ⟨w.heap.size,(i + m) * 5,none⟩) (n + m - (i + m)) dc,.slice (some ⟨blk,off + i * 5,none⟩) (n - i) sc]).run Tryz.prog W2.drew = .ok (goInt ((n - i:Nat):Int)) (W2.drew.setCells w.heap.size ((i + m) * 5) news):=fun ty dc sc =>
    run_copy_cellsK W2.drew _ _ ty 46 5 w.heap.size ((i + m) * 5) (n + m - (i + m)) dc ⟨blk,off + i * 5,none⟩ (n - i) sc (n - i) news rfl hsz (by simp only [Nat.min_def]; split <;> omega) hnl
      (fun j v hj=>by
        rw [hnews] at hj
        obtain ⟨ht,rfl⟩:=seg_get hj
        rw [Addr.add_lit,Nat.add_assoc]
        show W2.cell? _=_
        rw [hW2,World.cell?_setCells_out _ _ _ _ _ (fun h _=>absurd h hbN)]
        exact hOb _ _ (hH _ (by omega)).1)
      (fun j hj=>by have:=(hN2 ((i + m) * 5 + j) (by rw [size_setMany]; omega)).1; rw [Nat.zero_add] at this; show (W2.cell? _).isSome=true; rw [this]; rfl)
      (fun j hj=>by have:=(hN2 ((i + m) * 5 + j) (by rw [size_setMany]; omega)).2; rw [Nat.zero_add] at this; exact this) (by rw [hnews]; exact seg_one h1 (by omega))
  have fin:Aside (∃ (q:Nat) (F:Array Value),F.size=ROW.size∧InsF 5 n i cs vs F∧W2.drew.setCells w.heap.size ((i + m) * 5) news=putRow id (Sort.ahead (w.alloc (.cells ROW 46)) q) w.heap.size 0 F):=by
    subst h0 hm1
    refine ⟨2,_,?_,insF_grow hRn (by omega) hvl hRow,?_⟩
    · simp
    · have e:W2.drew=putRow id (Sort.ahead (w.alloc (.cells ROW 46)) 2) w.heap.size 0 (setMany ROW (i * 5) vs):=by rw [hput,hW1]; rfl
      rw [← setCells_putRow _ _ _ _ _ _ (by rw [size_setMany,seg_len]; omega),← e,hnews,Nat.zero_add]
  rw [← hW1] at hrz
  rw [← hW2] at hcpA
  have B:Aside (ROW.size=G * 5∧G≤maxLen):=⟨hRs,hGm⟩
  have hGi:¬ (G=i):=by omega
  have hGim:¬ (G=i + m):=by omega
  have hci:¬ (cap=i):=by omega
  have hw1:IntKind.i64.wrap ((i:Int) + (m:Int))=(i:Int) + (m:Int):=by rw [IntKind.wrap_i64]; omega
  have hb1:(0:Int)≤(i:Int) + (m:Int):=by omega
  have hin:i≤n:=by omega
  have htn:((i:Int) + (m:Int)).toNat=i + m:=by omega
  have hb3:(i:Int)≤(n:Int):=by omega
  clear hself hput hN2 hW1 hW2 hnews hnl hOb hOv hN hRow hRn hRs hROW hG hold hH hz hcz h1 hvs h1v hvl h0 hm1 hkk hik hGm hbig hzb hzs hz0 hi0
  go_enter Tryz.func144,Tryz.ntmps144
  go_wp2_with (first
    | (at_builtin; refine Lib.wpList_append_run _ rfl _ _ _ _ rfl _ _ rfl rfl _ _ (hrz _) ?_)
    | (at_builtin; refine wpList_copy_runI _ rfl _ _ 22 22 rfl _ _ rfl rfl (hcpA _ _) ?_))
  go_region_law_o (refine step_copy_runI rfl _ _ 22 22 rfl (.slice (some ⟨w.heap.size,(i + m) * 5,none⟩) (n + m - (i + m)) (G - (i + m))) (.slice (some ⟨blk,off + i * 5,none⟩) (n - i) (cap - i)) (by simp [Act.eval,Act.put]) (by simp [Act.eval,Act.put]) (hcpB _ _ _) ?_)
  go_wp2
  go_ret
  obtain ⟨q,F,f1,f2,f3⟩:=fin.out
  exact ⟨q,G,ROW,F,rfl,hGn,B.out.2,B.out.1,f1,f2,f3⟩
end Go.Proofs.YtfdolehffjmdmaaGreatDoor
/- slices.Insert of one element of k cells,as a contract. -/
namespace Go.Proofs.YtfdolehffjmdmaaGreatDoor
open Go.RowKit Go.Lib Go.Sort
open Go.Shelf
theorem ins_rep {S : Nat → Nat → Prop} {w : World} {rows : List (List PV)} {row0 : List PV} {cs cur' : Array Value} {vs : List Value} {sz n i : Nat} (hn : rows.length = n) (hi : i ≤ n) (hz : ∀ row ∈ rows, row.length = sz) (hz0 : row0.length = sz)
    (hget:∀ t y,t < (n + 1) * sz→cur'[t]? = some y→y=if t < i * sz then cs[t]! else if t < i * sz + sz then vs[t - i * sz]! else cs[t - sz]!)
    (hrow:∀ (k:Nat) row (j:Nat) p,rows[k]? = some row→row[j]? = some p→∃ y,cs[k * sz + j]? = some y∧y.oneCell'=true∧RepP S w p y)
    (hnew:∀ (j:Nat) p,row0[j]? = some p→∃ y,vs[j]? = some y∧y.oneCell'=true∧RepP S w p y) :
    ∀ (k:Nat) row (j:Nat) p u,(rows.insertIdx i row0)[k]? = some row→row[j]? = some p→cur'[k * sz + j]? = some u→u.oneCell'=true∧RepP S w p u:=by
  intro k row j p u a b c
  have hk:k < n + 1:=by
    have:=(List.getElem?_eq_some_iff.1 a).1
    rw [List.length_insertIdx,if_pos (by omega)] at this; omega
  have hrl:row.length=sz:=by
    rw [List.getElem?_insertIdx] at a
    split at a
    · exact hz _ (List.mem_of_getElem? a)
    · split at a
      · split at a
        · cases a; exact hz0
        · cases a
      · exact hz _ (List.mem_of_getElem? a)
  have hj:j < sz:=by rw [← hrl]; exact (List.getElem?_eq_some_iff.1 b).1
  have hle:(k + 1) * sz≤(n + 1) * sz:=Nat.mul_le_mul_right _ (by omega)
  rw [Nat.add_mul,Nat.one_mul] at hle
  have hu:=hget _ _ (by omega) c
  rw [List.getElem?_insertIdx] at a
  by_cases h1:k < i
  · rw [if_pos h1] at a
    have:(k + 1) * sz≤i * sz:=Nat.mul_le_mul_right _ (by omega)
    rw [Nat.add_mul,Nat.one_mul] at this
    rw [if_pos (by omega)] at hu
    obtain ⟨y,y1,y2,y3⟩:=hrow k row j p a b
    obtain ⟨y4,y5⟩:=Array.getElem?_eq_some_iff.1 y1
    rw [getElem!_pos cs _ y4,y5] at hu
    subst hu
    exact ⟨y2,y3⟩
  · rw [if_neg h1] at a
    have hik:i * sz≤k * sz:=Nat.mul_le_mul_right _ (by omega)
    by_cases h2:k=i
    · subst h2
      rw [if_pos rfl,if_pos (by omega)] at a
      cases a
      rw [if_neg (by omega),if_pos (by omega),show k * sz + j - k * sz=j by omega] at hu
      obtain ⟨y,y1,y2,y3⟩:=hnew j p b
      obtain ⟨y4,y5⟩:=List.getElem?_eq_some_iff.1 y1
      rw [getElem!_pos vs _ y4,y5] at hu
      subst hu
      exact ⟨y2,y3⟩
    · rw [if_neg h2] at a
      have h3:(i + 1) * sz≤k * sz:=Nat.mul_le_mul_right _ (by omega)
      rw [Nat.add_mul,Nat.one_mul] at h3
      rw [if_neg (by omega),if_neg (by omega)] at hu
      obtain ⟨y,y1,y2,y3⟩:=hrow (k - 1) row j p a b
      obtain ⟨k',rfl⟩:∃ k',k=k' + 1:=⟨k - 1,by omega⟩
      rw [Nat.add_sub_cancel] at y1
      rw [show (k' + 1) * sz + j - sz=k' * sz + j by rw [Nat.add_mul,Nat.one_mul]; omega] at hu
      obtain ⟨y4,y5⟩:=Array.getElem?_eq_some_iff.1 y1
      rw [getElem!_pos cs _ y4,y5] at hu
      subst hu
      exact ⟨y2,y3⟩
theorem RepV.list_one {S : Nat → Nat → Prop} {w : World} {C : Conc} {row : List PV} {v : Value} (h : RepV S w C (.list [row]) v) (h0 : 0 < row.length) :
    ∃ (b o c:Nat) (x:Nat→Value),v = .slice (some ⟨b,o,none⟩) 1 c∧∀ (j:Nat) p,row[j]? = some p→S b (o + j)∧w.cell? ⟨b,o + j,none⟩=some (x j)∧RepP S w p (x j):=by
  cases h.list_inv with
  | list _ a c sz x hc hm hsz hz hl hr =>
    obtain ⟨b,o,ha,-,-⟩:=hl 0 row 0 row[0] rfl (List.getElem?_eq_getElem h0)
    refine ⟨b,o,c,x 0,by rw [ha]; rfl,fun j p hp=>?_⟩
    obtain ⟨b',o',ha',h1,h2⟩:=hl 0 row j p rfl hp
    rw [ha] at ha'
    cases ha'
    rw [Nat.zero_mul,Nat.add_zero] at h1 h2
    exact ⟨h1,h2,hr 0 row j p rfl hp⟩
theorem insE_meets (rows : List (List PV)) (row0 : List PV) (v i : Nat) (hi : i ≤ rows.length) (hr0 : row0.length = 5) (hbig : (rows.length + 1) * 64 ≤ 140737488355328) :
    Meets Tryz.prog 144 [.arr 0 v,.int .i64 i,.list [row0]] [.arr v true false 46 5 rows] (.arr 0 (v + 1)) [.arr (v + 1) true false 46 5 (rows.insertIdx i row0)]:=by
  intro x vs hx h0 hp
  obtain ⟨a,b,c,rfl,p1,p2,p3⟩:=three_args hp.1
  have ha:=hp.2 0 _ _ rfl p1
  obtain rfl:=(hp.2 1 _ _ rfl p2).int_inv
  obtain ⟨vb,vo,vc,xv,rfl,hxv⟩:=(hp.2 2 _ _ rfl p3).list_one (by omega)
  obtain ⟨e1,e2,e3⟩:=h0.row (id:=0) rfl ha
  have hlen:(rows.insertIdx i row0).length=rows.length + 1:=by rw [List.length_insertIdx,if_pos hi]
  have hrl:∀ row ∈ rows.insertIdx i row0,row.length=5:=fun row hr=>by
    rcases (List.mem_insertIdx hi).1 hr with rfl | hr
    · exact hr0
    · exact e2 row hr
  obtain ⟨ws,hws⟩:∃ ws:List Value,ws=(List.range 5).map xv:=⟨_,rfl⟩
  have hwl:ws.length=5:=by rw [hws]; simp
  have hwg:∀ j u,ws[j]? = some u→∃ p,row0[j]? = some p∧u=xv j:=fun j u hu=>by
    have hj:j < 5:=by rw [← hwl]; exact (List.getElem?_eq_some_iff.1 hu).1
    rw [hws,List.getElem?_map,List.getElem?_range hj] at hu
    exact ⟨_,List.getElem?_eq_getElem (by omega),(Option.some.inj hu).symm⟩
  have hwc:∀ j u,ws[j]? = some u→x.w0.cell? ⟨vb,vo + j,none⟩=some u:=fun j u hu=>by
    obtain ⟨p,hp,rfl⟩:=hwg j u hu
    exact (hxv j p hp).2.1
  have hw1:∀ u ∈ ws,u.oneCell'=true:=fun u hu=>by
    obtain ⟨j,hj,rfl⟩:=List.getElem_of_mem hu
    obtain ⟨p,hp,e⟩:=hwg j _ (List.getElem?_eq_getElem hj)
    rw [e]; exact (hxv j p hp).2.2.one
  have hnew:∀ (j:Nat) p,row0[j]? = some p→∃ y,ws[j]? = some y∧y.oneCell'=true∧RepP (Stab x x.C0 _ x.w0) x.w0 p y:=fun j p hp=>by
    have hj:j < 5:=by rw [← hr0]; exact (List.getElem?_eq_some_iff.1 hp).1
    refine ⟨xv j,by rw [hws,List.getElem?_map,List.getElem?_range hj]; rfl,(hxv j p hp).2.2.one,(hxv j p hp).2.2⟩
  rcases e3 with ⟨rfl,hnil⟩ | ⟨g,cap,cur,rfl,hc,hcap,hm,hz,hrow⟩
  · subst hnil
    obtain rfl:i=0:=by simpa using hi
    refine (insE_end_grow none 0 0 1 vb vo vc [] ws x.w0 rfl (fun _=>⟨rfl,rfl⟩) rfl (fun b h=>by cases h) hwl hwc hw1 (by omega) (by omega) (by omega)).mono ?_
    rintro e w' ⟨v',rfl,hown,hgr⟩
    obtain ⟨o1,⟨-,o2⟩ | ⟨g',cap',cur',rfl,o3,o4,o5,o6,o7,o8⟩⟩:=hown
    · simp at o2
    · obtain ⟨C',k1,k2,k3⟩:=h0.rerow (id:=0) (v':=v + 1) (g':=g') (cap':=cap') (rows' := [row0]) (cur':=cur') rfl
        ⟨hgr.size,hgr.os,hgr.tape,hgr.output,fun b hb _=>hgr.block b hb (by simp)⟩ (.inr o3) (.inr (by omega)) o4 o5 o6 o7 (fun row hr=>by simp at hr; subst hr; exact hr0)
        (ins_rep (rows := []) (row0:=row0) (cs:=#[]) (vs:=ws) (n:=0) (i:=0) rfl (by omega) (fun row hr=>by simp at hr) hr0 (fun t y ht hy=>by
          rw [if_neg (by omega),if_pos (by omega),Nat.zero_mul,Nat.sub_zero]
          have:=congrArg (fun l=>l[t]?) o8
          simp only [List.nil_append] at this
          rw [List.getElem?_take,if_pos (by omega),Array.getElem?_toList,hy] at this
          obtain ⟨h1,h2⟩:=List.getElem?_eq_some_iff.1 this.symm
          rw [getElem!_pos ws t h1,h2]) (fun k row j p h=>by simp at h) hnew)
      exact ⟨_,C',rfl,k1,k3⟩
  · have hH:=holds_cur hc
    have hown:(x.C0.sv 0).ownBlock=some g:=by rw [← e1]; rfl
    have hcs:rows.length * 5≤cur.size:=by rw [hz]; exact Nat.mul_le_mul_right _ hcap
    have hcap63:cap≤9223372036854775807:=by simp [maxLen] at hm; omega
    have hone:∀ t,t < rows.length * 5→(cur[t]!).oneCell'=true:=fun t ht=>by
      have hk:t / 5 < rows.length:=Nat.div_lt_of_lt_mul (by omega)
      have hj:t % 5 < (rows[t / 5]'hk).length:=by rw [e2 _ (List.getElem_mem hk)]; exact Nat.mod_lt _ (by omega)
      obtain ⟨y,y1,y2,-⟩:=hrow (t / 5) _ (t % 5) _ (List.getElem?_eq_getElem hk) (List.getElem?_eq_getElem hj)
      rw [show t / 5 * 5 + t % 5=t by omega] at y1
      obtain ⟨y4,y5⟩:=Array.getElem?_eq_some_iff.1 y1
      rw [getElem!_pos cur _ y4,y5]; exact y2
    have hcell0:=hwc 0 _ (List.getElem?_eq_getElem (by omega))
    have hvb:vb≠g:=fun e=>by
      have:=((hxv 0 _ (List.getElem?_eq_getElem (by omega))).1.2.2 0 _ rfl) (by rw [hown,e])
      exact absurd this.1 (by decide)
    have hfb:∀ o,x.w0.frozen? ⟨g,o,none⟩=false:=fun o=>by simp [World.frozen?,hc]
    have hsb:x.w0.shape? g=some (46,cap * 5):=by simp [World.shape?,hc,hz]
    obtain ⟨tA,kA,hsa,hkA⟩:∃ tA kA,x.w0.shape? vb=some (tA,kA)∧kA≠0:=by
      unfold World.cell? at hcell0
      unfold World.shape?
      split at hcell0
      · rename_i cc ee ff hh
        refine ⟨ee,cc.size,by rw [hh],fun e=>?_⟩
        simp at hcell0
        obtain ⟨h1,-⟩:=Array.getElem?_eq_some_iff.1 hcell0
        omega
      · cases hcell0
    -- in place
    have inplace : ∀ (q : Nat) (F : Array Value), F.size = cur.size → InsF 5 rows.length i cur ws F → rows.length + 1 ≤ cap →
        ∃ C',HR x C' [.arr (v + 1) true false 46 5 (rows.insertIdx i row0)] (putRow id (Sort.ahead x.w0 q) g 0 F)∧RepV (Stab x C' [.arr (v + 1) true false 46 5 (rows.insertIdx i row0)] (putRow id (Sort.ahead x.w0 q) g 0 F)) (putRow id (Sort.ahead x.w0 q) g 0 F) C' (.arr 0 (v + 1)) (.slice (some ⟨g,0,none⟩) (rows.length + 1) cap):=fun q F hFs hF hr=>by
      obtain ⟨cur',c1,c2,c3,c4⟩:=row_worldF x.w0 g q F hc
      have hcs1:(rows.length + 1) * 5≤cur.size:=by rw [hz]; exact Nat.mul_le_mul_right _ hr
      obtain ⟨C',k1,k2,k3⟩:=h0.rerow (id:=0) (v':=v + 1) (g':=g) (cap':=cap) (rows':=rows.insertIdx i row0) (cur':=cur') rfl
        ⟨c4.size,c4.os,c4.tape,c4.output,fun b hb hne=>c4.blk b hb fun e=>hne (by rw [hown,e])⟩ (.inl hown) (.inr (by omega)) c1 (by rw [hlen]; omega) hm (by rw [c2,hz]) hrl
        (ins_rep rfl hi e2 hr0 (fun t y ht hy=>(c3 t y (by omega) hy).trans (hF t ht)) hrow hnew)
      rw [hlen] at k3
      exact ⟨C',k1,k3⟩
    by_cases hroom:rows.length + 1≤cap
    · by_cases hin:i=rows.length
      · subst hin
        refine Calls.mono (insE_end_room g 0 cap rows.length 1 vb vo vc cur ws x.w0 rfl rfl hH hz hwl hwc hw1 hcap63 hroom) ?_
        rintro e w' ⟨rfl,q,F,f1,f2,rfl⟩
        obtain ⟨C',k1,k3⟩:=inplace q F f1 f2 hroom
        exact ⟨_,C',rfl,k1,k3⟩
      · refine Calls.mono (insE_shift g 0 cap rows.length i 1 vb vo vc tA kA cur ws x.w0 rfl rfl hH hz hone hwl hwc hw1 hvb hsa hkA _ hsb hfb hcap63 (by omega) hroom) ?_
        rintro e w' ⟨rfl,q,F,f1,f2,rfl⟩
        obtain ⟨C',k1,k3⟩:=inplace q F f1 f2 hroom
        exact ⟨_,C',rfl,k1,k3⟩
    · by_cases hin:i=rows.length
      · subst hin
        refine Calls.mono (insE_end_grow (some ⟨g,0,none⟩) cap rows.length 1 vb vo vc (seg cur 0 (rows.length * 5)) ws x.w0 rfl (fun h=>by cases h) (seg_len _ _ _) (fun b hb j u hu=>by
          cases hb
          obtain ⟨ht,rfl⟩:=seg_get hu
          rw [Addr.add_lit]
          have:=(hH j (by omega)).1
          simp only [Nat.zero_add] at this ⊢
          exact this) hwl hwc hw1 hcap (by omega) hbig) ?_
        rintro e w' ⟨v',rfl,how,hgr⟩
        obtain ⟨o1,⟨-,o2⟩ | ⟨g',cap',cur',rfl,o3,o4,o5,o6,o7,o8⟩⟩:=how
        · omega
        · obtain ⟨C',k1,k2,k3⟩:=h0.rerow (id:=0) (v':=v + 1) (g':=g') (cap':=cap') (rows':=rows.insertIdx rows.length row0) (cur':=cur') rfl
            ⟨hgr.size,hgr.os,hgr.tape,hgr.output,fun b hb _=>hgr.block b hb (by simp)⟩ (.inr o3) (.inr (by omega)) o4 (by rw [hlen]; exact o5) o6 o7 hrl
            (ins_rep rfl hi e2 hr0 (cs:=cur) (vs:=ws) (fun t y ht hy=>by
              have:=congrArg (fun l=>l[t]?) o8
              rw [List.getElem?_take,if_pos (by omega),Array.getElem?_toList,hy] at this
              by_cases h1:t < rows.length * 5
              · rw [if_pos h1]
                rw [List.getElem?_append_left (by rw [seg_len]; exact h1)] at this
                obtain ⟨-,h2⟩:=seg_get this.symm
                rw [h2,Nat.zero_add]
              · rw [if_neg h1,if_pos (by omega)]
                rw [List.getElem?_append_right (by rw [seg_len]; omega),seg_len] at this
                obtain ⟨h3,h2⟩:=List.getElem?_eq_some_iff.1 this.symm
                rw [getElem!_pos ws _ h3,h2]) hrow hnew)
          rw [hlen] at k3
          exact ⟨_,C',rfl,k1,k3⟩
      · refine Calls.mono (insE_grow g 0 cap rows.length i 1 vb vo vc cur ws x.w0 rfl rfl hH hz hone hwl hwc hw1 (by omega) hcap (by omega) hbig) ?_
        rintro e w' ⟨q,G,ROW,F,rfl,f1,f2,f3,f4,f5,rfl⟩
        have hcA:(x.w0.alloc (.cells ROW 46)).heap[x.w0.heap.size]? = some (.cells ROW 46 (0,0)):=heap_alloc_new _ _
        obtain ⟨cur',c1,c2,c3,c4⟩:=row_worldF (x.w0.alloc (.cells ROW 46)) x.w0.heap.size q F hcA
        have hg1:=World.grownBy_alloc x.w0 (.cells ROW 46) none
        have hFs:(rows.length + 1) * 5≤F.size:=by rw [f4,f3]; exact Nat.mul_le_mul_right _ f1
        obtain ⟨C',k1,k2,k3⟩:=h0.rerow (id:=0) (v':=v + 1) (g':=x.w0.heap.size) (cap':=G) (rows':=rows.insertIdx i row0) (cur':=cur') rfl
          ⟨Nat.le_trans hg1.size c4.size,c4.os.trans hg1.os,c4.tape.trans hg1.tape,c4.output.trans hg1.output,fun b hb _=>(c4.blk b (Nat.lt_of_lt_of_le hb hg1.size) (by omega)).trans (hg1.block b hb (by simp))⟩ (.inr (Nat.le_refl _)) (.inr (by omega)) c1 (by rw [hlen]; exact f1) f2 (by rw [c2,f3]) hrl
          (ins_rep rfl hi e2 hr0 (fun t y ht hy=>(c3 t y (by omega) hy).trans (f5 t ht)) hrow hnew)
        rw [hlen] at k3
        exact ⟨_,C',rfl,k1,k3⟩
end Go.Proofs.YtfdolehffjmdmaaGreatDoor
/- Slices asked by a function: contracts of slices.IndexFunc,ContainsFunc,Index,Contains at entries,ids. -/
namespace Go.Proofs.YtfdolehffjmdmaaGreatDoor
set_option linter.unusedSimpArgs false
set_option linter.unusedVariables false
open Go.RowKit
def idxF {α:Type} (p:α→Bool):List α→Nat→Int
 | [],_ => -1
 | x :: l,k=>if p x=true then (k:Int) else idxF p l (k + 1)
theorem idxF_drop {α:Type} [Inhabited α] (p:α→Bool) (l:List α) (k:Nat) (h:k < l.length):idxF p (l.drop k) k=if p (nth l k)=true then (k:Int) else idxF p (l.drop (k + 1)) (k + 1):=by
 rw [List.drop_eq_getElem_cons h,idxF,nth_eq _ _ h]
instance:Inhabited Entry:=⟨⟨default,0,⟨#[]⟩,[]⟩⟩
theorem idxF_ge {α:Type} (p:α→Bool):∀ (l:List α) (k:Nat),idxF p l k = -1∧l.any p=false∨(k:Int)≤idxF p l k∧l.any p=true
 | [],k => .inl ⟨rfl,rfl⟩
 | x :: l,k=>by
  simp only [idxF,List.any_cons]
  cases hx:p x
  ·
   rcases idxF_ge p l (k + 1) with ⟨h1,h2⟩ | ⟨h1,h2⟩
   ·
    exact .inl ⟨by simpa using h1,by simp [h2]⟩
   ·
    exact .inr ⟨by simp; omega,by simp [h2]⟩
  ·
   exact .inr ⟨by simp,by simp⟩
theorem idxF_any {α:Type} (p:α→Bool) (l:List α):decide (0≤idxF p l 0)=l.any p:=by
 rcases idxF_ge p l 0 with ⟨h1,h2⟩ | ⟨h1,h2⟩
 ·
  rw [h1,h2]; rfl
 ·
  rw [h2]; simp; omega
theorem indexE_meets (l : List Entry) (g : Nat) (caps : List PV) (Hs : List AObj) (p : Entry → Bool) (hg : hasBody Tryz.prog g = true) (hl : l.length ≤ 9223372036854775806) (hc : ClosedH Hs caps)
    (hp:∀ e ∈ l,Meets Tryz.prog g (.agg (cE e) :: caps) Hs (.bool (p e)) Hs) :
    Meets Tryz.prog 105 [.list (l.map cE),.clo g caps] Hs (.int .i64 (idxF p l 0)) Hs:=by
  refine Meets.of_walk Tryz.func105 Tryz.ntmps105 low105 res105 (by simp) fun x hx=>?_
  simp only [go_sem,L105,R105]
  refine loop_keep [0,1,7,8] (fun n st=>∃ k:Nat,k + n=l.length∧idxF p (l.drop k) k=idxF p l 0 ∧
    st=⟨mkE .top [(0,.list (l.map cE)),(1,.clo g caps),(7,.int .i64 l.length),(8,.int .i64 k)],Hs⟩) l.length ?_ ?_
  · refine ⟨0,by omega,by simp,?_⟩
    simp [keep_mk,go_sem]
  · rintro n st ⟨k,hk,hi,rfl⟩
    by_cases hlt:k < l.length
    · have hgt:l[k]? = some (nth l k):=nth_get? _ _ hlt
      have wk:=i64_up (k:=k) (by omega)
      rw [idxF_drop p l k hlt] at hi
      simp only [go_sem,hlt,hgt,cE,cId]
      refine ops_callv rfl hg (.whole (hp (nth l k) (by rw [nth_eq _ _ hlt]; exact List.getElem_mem hlt)) rfl ?_ hc.sub hc.back) ?_
      · simp only [go_sem,cE,cId]
        rw [hc.caps]
      cases hpk:p (nth l k)
      · rw [if_neg (by simp [hpk])] at hi
        simp only [go_sem,wk]
        exact ⟨n - 1,by omega,k + 1,by omega,hi,by simp [keep_mk,go_sem]⟩
      · rw [if_pos hpk] at hi
        simp only [go_sem]
        refine ret_scal hx rfl hc.kept ?_
        simp [go_sem,L105,R105,hi]
    · have:l.drop k = []:=List.drop_eq_nil_of_le (by omega)
      rw [this] at hi
      simp only [go_sem,hlt]
      refine ret_scal hx rfl hc.kept ?_
      simp [go_sem,L105,R105,← hi,idxF]
theorem indexI_meets (l : List Id) (g : Nat) (caps : List PV) (Hs : List AObj) (p : Id → Bool) (hg : hasBody Tryz.prog g = true) (hl : l.length ≤ 9223372036854775806) (hc : ClosedH Hs caps)
    (hp:∀ e ∈ l,Meets Tryz.prog g (.agg (cId e) :: caps) Hs (.bool (p e)) Hs) :
    Meets Tryz.prog 141 [.list (l.map cId),.clo g caps] Hs (.int .i64 (idxF p l 0)) Hs:=by
  refine Meets.of_walk Tryz.func141 Tryz.ntmps141 low141 res141 (by simp) fun x hx=>?_
  simp only [go_sem,L141,R141]
  refine loop_keep [0,1,7,8] (fun n st=>∃ k:Nat,k + n=l.length∧idxF p (l.drop k) k=idxF p l 0 ∧
    st=⟨mkE .top [(0,.list (l.map cId)),(1,.clo g caps),(7,.int .i64 l.length),(8,.int .i64 k)],Hs⟩) l.length ?_ ?_
  · refine ⟨0,by omega,by simp,?_⟩
    simp [keep_mk,go_sem]
  · rintro n st ⟨k,hk,hi,rfl⟩
    by_cases hlt:k < l.length
    · have hgt:l[k]? = some (nth l k):=nth_get? _ _ hlt
      have wk:=i64_up (k:=k) (by omega)
      rw [idxF_drop p l k hlt] at hi
      simp only [go_sem,hlt,hgt,cId,cId]
      refine ops_callv rfl hg (.whole (hp (nth l k) (by rw [nth_eq _ _ hlt]; exact List.getElem_mem hlt)) rfl ?_ hc.sub hc.back) ?_
      · simp only [go_sem,cId,cId]
        rw [hc.caps]
      cases hpk:p (nth l k)
      · rw [if_neg (by simp [hpk])] at hi
        simp only [go_sem,wk]
        exact ⟨n - 1,by omega,k + 1,by omega,hi,by simp [keep_mk,go_sem]⟩
      · rw [if_pos hpk] at hi
        simp only [go_sem]
        refine ret_scal hx rfl hc.kept ?_
        simp [go_sem,L141,R141,hi]
    · have:l.drop k = []:=List.drop_eq_nil_of_le (by omega)
      rw [this] at hi
      simp only [go_sem,hlt]
      refine ret_scal hx rfl hc.kept ?_
      simp [go_sem,L141,R141,← hi,idxF]
theorem contFE_meets (l : List Entry) (g : Nat) (caps : List PV) (Hs : List AObj) (p : Entry → Bool) (hg : hasBody Tryz.prog g = true) (hl : l.length ≤ 9223372036854775806) (hc : ClosedH Hs caps)
    (hp:∀ e ∈ l,Meets Tryz.prog g (.agg (cE e) :: caps) Hs (.bool (p e)) Hs) :
    Meets Tryz.prog 119 [.list (l.map cE),.clo g caps] Hs (.bool (l.any p)) Hs:=by
  refine Meets.of_walk Tryz.func119 Tryz.ntmps119 low119 res119 (by simp) fun x hx=>?_
  simp only [go_sem,L119,R119]
  refine ops_call (.whole (indexE_meets l g caps Hs p hg hl hc hp) rfl ?_ hc.sub hc.back) ?_
  · simp only [go_sem]
    rw [hc.leaf]
  simp only [go_sem]
  refine ret_scal hx rfl hc.kept ?_
  simp [go_sem,L119,R119,idxF_any]
theorem contFI_meets (l : List Id) (g : Nat) (caps : List PV) (Hs : List AObj) (p : Id → Bool) (hg : hasBody Tryz.prog g = true) (hl : l.length ≤ 9223372036854775806) (hc : ClosedH Hs caps)
    (hp:∀ e ∈ l,Meets Tryz.prog g (.agg (cId e) :: caps) Hs (.bool (p e)) Hs) :
    Meets Tryz.prog 107 [.list (l.map cId),.clo g caps] Hs (.bool (l.any p)) Hs:=by
  refine Meets.of_walk Tryz.func107 Tryz.ntmps107 low107 res107 (by simp) fun x hx=>?_
  simp only [go_sem,L107,R107]
  refine ops_call (.whole (indexI_meets l g caps Hs p hg hl hc hp) rfl ?_ hc.sub hc.back) ?_
  · simp only [go_sem]
    rw [hc.leaf]
  simp only [go_sem]
  refine ret_scal hx rfl hc.kept ?_
  simp [go_sem,L107,R107,idxF_any]
end Go.Proofs.YtfdolehffjmdmaaGreatDoor
/- What is wrong with an entry,in the law text's words: a contract. -/
namespace Go.Proofs.YtfdolehffjmdmaaGreatDoor
set_option linter.unusedSimpArgs false
set_option linter.unusedVariables false
open Go.RowKit
end Go.Proofs.YtfdolehffjmdmaaGreatDoor
