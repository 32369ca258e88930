/- Joined texts of this claim: Op1 Op2 Op4 Op7 Op8 Op10 Card. -/
import Derived.Test.YtfdolehffjmdmaaGreatDoorKF
import Derived.Test.YtfdolehffjmdmaaGreatDoorKB
import Derived.SizedLaws
import Derived.Test.YtfdolehffjmdmaaGreatDoorKC
import Derived.Test.YtfdolehffjmdmaaGreatDoorKD
import Derived.Test.YtfdolehffjmdmaaGreatDoorKE
import Derived.LaidMore
import Derived.Lay
import Derived.SevenTiedAt
import Derived.Stop.Joined
import Derived.JoinedCond
set_option linter.unusedSimpArgs false
set_option linter.unusedVariables false
set_option linter.unusedSectionVars false
/- From an argument's reading as data to abstract values; from a contract of a law to its statement. -/
namespace Go.Proofs.YtfdolehffjmdmaaGreatDoor
open Go.RowKit Go.ChangeShapes Go.WideShapes Go.ChangeAt
def Shows (w:World) (ps:List PV) (cs:List Value):Prop:=cs.length=ps.length∧∀ (j:Nat) p v,ps[j]? = some p→cs[j]? = some v→RepP (fun b _=>b < w.heap.size) w p v
section
variable {H:Type} {enc:TypeId × Value→H} {P:Program} {w:World} {sp:Nat→Bool} {held:Bool}
def Opens (enc:TypeId × Value→H) (P:Program) (w:World) (sp:Nat→Bool) (held:Bool) (t:TypeId) (n:Nat) (R:List PV→Prop):Prop :=
 P.cellsOf t=n∧∀ fuel cs (y:DataW H × List MemPlace),DataW.trod enc P w 0 sp held fuel t cs=some y→(∀ k ∈ y.1.weights P t,k≤reachBytes)→∃ ps,ps.length=n∧R ps∧Shows w ps cs
theorem Opens.mono {t:TypeId} {n:Nat} {R R':List PV→Prop} (h:Opens enc P w sp held t n R) (hR:∀ ps,R ps→R' ps):Opens enc P w sp held t n R' :=
 ⟨h.1,fun fuel cs y hy hw=>by obtain ⟨ps,h1,h2,h3⟩:=h.2 fuel cs y hy hw; exact ⟨ps,h1,hR ps h2,h3⟩⟩
theorem shows1 {p:PV} {v:Value} (h:RepP (fun b _=>b < w.heap.size) w p v):Shows w [p] [v]:=by
 refine ⟨rfl,fun j q u hj hu=>?_⟩
 cases j with
 | zero=>simp at hj hu; subst hj; subst hu; exact h
 | succ j=>simp at hj
theorem opens_int {t:TypeId} (ht:P.underlying t=some (.int .i64)) (hc:P.cellsOf t=1):Opens enc P w sp held t 1 fun ps=>∃ n,I64 n∧ps = [.int .i64 n]:=by
 refine ⟨hc,fun fuel cs y h _=>?_⟩
 obtain ⟨n,rfl,-,hw⟩:=DataW.trod_int ht h
 exact ⟨[.int .i64 n],rfl,⟨n,i64_of_wf hw,rfl⟩,shows1 (.int _ _)⟩
theorem opens_str {t:TypeId} (ht:P.underlying t=some .string) (hc:P.cellsOf t=1):Opens enc P w sp held t 1 fun ps=>∃ s:ByteArray,s.size≤reachBytes∧ps = [.str s]:=by
 refine ⟨hc,fun fuel cs y h hw=>?_⟩
 obtain ⟨s,rfl,rfl,-⟩:=DataW.trod_string ht h
 have hs:=hw s.data.toList.length (by simp [DataW.weights])
 exact ⟨[.str s],rfl,⟨s,by simpa using hs,rfl⟩,shows1 (.str _)⟩
theorem trod_elems2 {t e : TypeId} {fuel : Nat} {v : Value} {x : DataW H × List MemPlace} (ht : P.underlying t = some (.slice e)) (hsz : 0 < P.cellsOf e) (h : DataW.trod enc P w 0 sp held fuel t [v] = some x) (hw : ∀ k ∈ x.1.weights P t, k ≤ reachBytes) :
    ∃ a n c,v = .slice a n c∧n≤c∧c≤maxLen∧n * P.bytesOf e≤reachBytes∧∀ k,k < n→∃ b o cs m y,a=some ⟨b,o,none⟩∧b < w.heap.size∧cs.length=P.cellsOf e∧(∀ j,j < P.cellsOf e→w.cell? ⟨b,o + k * P.cellsOf e + j,none⟩=cs[j]?) ∧
      DataW.trod enc P w 0 sp held m e cs=some y∧∀ q ∈ y.1.weights P e,q≤reachBytes:=by
  have memAll:∀ (ds:List (DataW H)) (d:DataW H),d ∈ ds→∀ q ∈ d.weights P e,q ∈ DataW.weightsAll P e ds:=by
    intro ds
    induction ds with
    | nil=>intro d hd; cases hd
    | cons d0 ds ih =>
      intro d hd q hq
      simp only [DataW.weightsAll,List.mem_append]
      rcases List.mem_cons.1 hd with rfl | hd
      · exact .inl hq
      · exact .inr (ih d hd q hq)
  rcases DataW.trod_slice ht h with ⟨hv,-⟩ | ⟨a,len,cap,elems,rest,m,-,hv,hx,-,h1,h2,hl,hel,-,-⟩
  · exact ⟨none,0,0,by simpa using hv,by omega,by unfold maxLen; omega,by omega,fun k hk=>by omega⟩
  · obtain rfl:v = .slice (some a) len cap:=by simpa using hv
    have hwt:len * P.bytesOf e≤reachBytes:=by
      have:=hw ((elems.length + rest.length) * P.bytesOf e) (by rw [hx]; simp [DataW.weights,ht])
      have h3:len * P.bytesOf e≤(elems.length + rest.length) * P.bytesOf e:=Nat.mul_le_mul_right _ (by omega)
      omega
    have key:∀ k,k < len→∃ cs y,w.cells? 0 (a.add (k * P.cellsOf e)) (P.cellsOf e)=some cs∧DataW.trod enc P w 0 sp held m e cs=some y∧∀ q ∈ y.1.weights P e,q≤reachBytes:=by
      intro k hk
      have:=hel k hk
      rw [List.getElem?_eq_getElem (by omega)] at this
      obtain ⟨cs,hcs,hy⟩:=Option.bind_eq_some_iff.1 this
      refine ⟨cs,_,hcs,hy,fun q hq=>hw q ?_⟩
      rw [hx]
      simp only [DataW.weights,ht,List.mem_cons,List.mem_append]
      exact .inr (.inl (memAll _ _ (List.mem_map.2 ⟨_,List.getElem_mem _,rfl⟩) q hq))
    refine ⟨some a,len,cap,rfl,h1,h2,hwt,fun k hk=>?_⟩
    obtain ⟨cs0,y0,hc0,-⟩:=key 0 (by omega)
    have h0:=(World.cells?_some hc0).2.2 0 hsz
    obtain ⟨ab,ao,asp⟩:=a
    have hl0:=(World.cells?_some hc0).2.1
    have has:asp=none:=by
      simp only [Nat.zero_mul,Addr.add,if_true] at h0
      rw [List.getElem?_eq_getElem (by omega)] at h0
      cases asp with
      | none=>rfl
      | some s =>
        simp only [World.cell?] at h0
        split at h0 <;> simp at h0
    subst has
    obtain ⟨cs,y,hcs,hy,hq⟩:=key k hk
    have h3:=World.cells?_some hcs
    have add_eq:∀ (o n:Nat),(⟨ab,o,none⟩:Addr).add n=⟨ab,o + n,none⟩:=by
      intro o n; unfold Addr.add; split <;> simp_all
    refine ⟨ab,ao,cs,m,y,rfl,?_,h3.2.1,fun j hj=>?_,hy,hq⟩
    · exact World.cells?_block (a:=⟨ab,ao,none⟩) (by simpa [add_eq] using hc0) hsz
    · have:=h3.2.2 j hj
      simpa [add_eq] using this
theorem list_choose {α:Type} {n:Nat} {Q:Nat→α→Prop} (h:∀ k,k < n→∃ x,Q k x):∃ l:List α,l.length=n∧∀ (k:Nat) x,l[k]? = some x→Q k x:=by
 induction n with
 | zero=>exact ⟨[],rfl,fun k x hk=>by simp at hk⟩
 | succ n ih =>
  obtain ⟨l,h1,h2⟩:=ih fun k hk=>h k (by omega)
  obtain ⟨x,hx⟩:=h n (by omega)
  refine ⟨l ++ [x],by simp [h1],fun k y hk=>?_⟩
  by_cases hlt:k < l.length
  ·
   rw [List.getElem?_append_left hlt] at hk; exact h2 k y hk
  ·
   rw [List.getElem?_append_right (by omega)] at hk
   have:k - l.length=0:=by
    have:=(List.getElem?_eq_some_iff.1 hk).1
    simp at this; omega
   rw [this] at hk
   simp at hk
   subst hk
   rw [show k=n by omega]; exact hx
theorem opens_slice {t e : TypeId} {n : Nat} {R : List PV → Prop} (ht : P.underlying t = some (.slice e)) (hc : P.cellsOf t = 1) (hn : 0 < n) (he : Opens enc P w sp held e n R) :
    Opens enc P w sp held t 1 fun ps=>∃ rows,rows.length * P.bytesOf e≤reachBytes∧(∀ row ∈ rows,row.length=n∧R row)∧ps = [.list rows]:=by
  refine ⟨hc,fun fuel cs y h hw=>?_⟩
  have hcs:∃ v,cs = [v]:=by
    rcases DataW.trod_slice ht h with ⟨hv,-⟩ | ⟨a,len,cap,elems,rest,m,-,hv,-⟩ <;> exact ⟨_,hv⟩
  obtain ⟨v,rfl⟩:=hcs
  obtain ⟨hce,he⟩:=he
  obtain ⟨a,len,c,rfl,h1,h2,hby,h3⟩:=trod_elems2 ht (by omega) h hw
  rw [hce] at h3
  obtain ⟨rows,r1,r2⟩:=list_choose (Q:=fun k (row:List PV)=>row.length=n∧R row∧∃ b o cs,a=some ⟨b,o,none⟩∧b < w.heap.size∧cs.length=n∧(∀ j,j < n→w.cell? ⟨b,o + k * n + j,none⟩=cs[j]?)∧Shows w row cs) fun k hk=>by
    obtain ⟨b,o,cs,m,y,q1,q2,q3,q4,q5,q6⟩:=h3 k hk
    obtain ⟨ps,p1,p2,p3⟩:=he m cs y q5 q6
    exact ⟨ps,p1,p2,b,o,cs,q1,q2,q3,q4,p3⟩
  refine ⟨[.list rows],rfl,⟨rows,by rw [r1]; exact hby,fun row hr=>?_,rfl⟩,shows1 ?_⟩
  · obtain ⟨k,hk⟩:=List.getElem?_of_mem hr
    exact ⟨(r2 k row hk).1,(r2 k row hk).2.1⟩
  · have key:∀ k row j p,rows[k]? = some row→row[j]? = some p→∃ b o,a=some ⟨b,o,none⟩∧b < w.heap.size∧∃ u,w.cell? ⟨b,o + k * n + j,none⟩=some u∧RepP (fun b _=>b < w.heap.size) w p u:=by
      intro k row j p hk hj
      obtain ⟨hl,-,b,o,cs,q1,q2,q3,q4,q5⟩:=r2 k row hk
      have hlt:j < n:=by rw [← hl]; exact (List.getElem?_eq_some_iff.1 hj).1
      refine ⟨b,o,q1,q2,cs[j]'(by omega),?_,?_⟩
      · rw [q4 j hlt,List.getElem?_eq_getElem (by omega)]
      · exact q5.2 j p _ hj (List.getElem?_eq_getElem (by omega))
    have := RepP.list (S := fun b _ => b < w.heap.size) (w := w) rows a c n (fun k j => match a with | some ad => (w.cell? ⟨ad.block, ad.off + k * n + j, none⟩).getD Go.undef | none => Go.undef) (by omega) h2 hn (fun row hr => by
        obtain ⟨k,hk⟩:=List.getElem?_of_mem hr
        exact (r2 k row hk).1) (fun k row j p hk hj=>by
        obtain ⟨b,o,q1,q2,u,q3,q4⟩:=key k row j p hk hj
        subst q1
        exact ⟨b,o,rfl,q2,by simp [q3]⟩) (fun k row j p hk hj=>by
        obtain ⟨b,o,q1,q2,u,q3,q4⟩:=key k row j p hk hj
        subst q1
        simp only [q3,Option.getD_some]
        exact q4)
    rw [r1] at this
    exact this
def offs:Nat→List (TypeId × Nat)→List (TypeId × Nat)
 | _,[] => []
 | o,(t,n) :: r=>(t,o) :: offs (o + n) r
def RAll:List (Nat × (List PV→Prop))→List PV→Prop
 | [],ps=>ps = []
 | (n,R) :: r,ps=>∃ a b,ps=a ++ b∧a.length=n∧R a∧RAll r b
def OpensAll (enc:TypeId × Value→H) (P:Program) (w:World) (sp:Nat→Bool) (held:Bool):List (TypeId × Nat × (List PV→Prop))→Prop
 | []=>True
 | (t,n,R) :: r=>Opens enc P w sp held t n R∧OpensAll enc P w sp held r
theorem shows_append {a b:List PV} {cs ds:List Value} (h1:Shows w a cs) (h2:Shows w b ds):Shows w (a ++ b) (cs ++ ds):=by
 refine ⟨by simp [h1.1,h2.1],fun j p v hj hv=>?_⟩
 by_cases hlt:j < a.length
 ·
  rw [List.getElem?_append_left hlt] at hj
  rw [List.getElem?_append_left (by rw [h1.1]; exact hlt)] at hv
  exact h1.2 j p v hj hv
 ·
  rw [List.getElem?_append_right (by omega)] at hj
  rw [List.getElem?_append_right (by rw [h1.1]; omega),h1.1] at hv
  exact h2.2 _ p v hj hv
theorem opens_fields : ∀ (fl : List (TypeId × Nat × (List PV → Prop))) (o : Nat) (cs : List Value), OpensAll enc P w sp held fl → cs.length = o + (fl.map (·.2.1)).sum →
    (∀ (i:Nat) (t':TypeId) (o':Nat),(offs o (fl.map fun f=>(f.1,f.2.1)))[i]? = some (t',o')→∃ n y,DataW.trod enc P w 0 sp held n t' ((cs.drop o').take (P.cellsOf t'))=some y∧∀ k ∈ y.1.weights P t',k≤reachBytes) →
    ∃ ps,ps.length=(fl.map (·.2.1)).sum∧RAll (fl.map (·.2)) ps∧Shows w ps (cs.drop o)
  | [], o, cs, _, hl, _ => ⟨[], rfl, rfl, by
      rw [List.drop_eq_nil_of_le (by simp at hl; omega)]
      exact ⟨rfl,fun j p v hj=>by simp at hj⟩⟩
  | (t,n,R) :: fl,o,cs,ho,hl,hx=>by
    obtain ⟨⟨hc,h1⟩,h2⟩:=ho
    obtain ⟨m,y,hy,hwy⟩:=hx 0 t o rfl
    obtain ⟨ps,p1,p2,p3⟩:=h1 m _ y hy hwy
    simp only [List.map_cons,List.sum_cons] at hl
    obtain ⟨qs,q1,q2,q3⟩:=opens_fields fl (o + n) cs h2 (by omega) fun i t' o' hi=>hx (i + 1) t' o' hi
    refine ⟨ps ++ qs,by simp [p1,q1],⟨ps,qs,rfl,p1,p2,q2⟩,?_⟩
    rw [hc] at p3
    have:cs.drop o=(cs.drop o).take n ++ cs.drop (o + n):=by rw [← List.drop_drop,List.take_append_drop]
    rw [this]
    exact shows_append p3 q3
theorem opens_struct {t : TypeId} {n : Nat} (fl : List (TypeId × Nat × (List PV → Prop))) (hs : P.underlying t = some (.struct (P.fieldsOf t))) (hf : (P.fieldsOf t).toList.map (fun f => (f.type, f.offset)) = offs 0 (fl.map fun f => (f.1, f.2.1)))
    (hc:P.cellsOf t=n) (hn:(fl.map (·.2.1)).sum=n) (ho:OpensAll enc P w sp held fl):Opens enc P w sp held t n (RAll (fl.map (·.2))):=by
  refine ⟨hc,fun fuel cs y h hw=>?_⟩
  obtain ⟨xs,m,_,hy,hl,hlen,hq⟩:=DataW.trod_struct hs h
  have hx:∀ (i:Nat) (t':TypeId) (o':Nat),(offs 0 (fl.map fun f=>(f.1,f.2.1)))[i]? = some (t',o')→∃ n y,DataW.trod enc P w 0 sp held n t' ((cs.drop o').take (P.cellsOf t'))=some y∧∀ k ∈ y.1.weights P t',k≤reachBytes:=by
    intro i t' o' hi
    rw [← hf,List.getElem?_map] at hi
    obtain ⟨f,h1,h2⟩:=Option.map_eq_some_iff.1 hi
    simp only [Prod.mk.injEq] at h2
    obtain ⟨rfl,rfl⟩:=h2
    have h3:=hq i f (by simpa using h1)
    have hi2:i < (P.fieldsOf t).toList.length:=(List.getElem?_eq_some_iff.1 h1).1
    have hi3:i < xs.length:=by rw [hlen]; simpa using hi2
    refine ⟨m,xs[i],by rw [h3]; simp,fun k hk=>hw k ?_⟩
    rw [hy]
    simp only [DataW.weights,hs]
    refine DataW.weights_mem_each (j:=i) (t:=f.type) (d:=xs[i].1) ?_ ?_ k hk
    · rw [List.getElem?_map,h1]; rfl
    · rw [List.getElem?_map,List.getElem?_eq_getElem hi3]; rfl
  obtain ⟨ps,h1,h2,h3⟩:=opens_fields fl 0 cs ho (by omega) hx
  exact ⟨ps,by omega,h2,h3⟩
theorem open_cell {t:TypeId} {R:List PV→Prop} (ho:Opens enc P w sp held t 1 R) {v:Value} (h1:∀ cs,v ≠ .agg cs) {d:DataW H} {p:List MemPlace} (h:DataW.Trod enc P w 0 sp held t v d p) (hw:∀ k ∈ d.weights P t,k≤reachBytes):∃ q,R [q]∧RepP (fun b _=>b < w.heap.size) w q v:=by
 obtain ⟨fuel,hf⟩:=h
 obtain ⟨ps,p1,p2,p3⟩:=ho.2 fuel _ _ hf hw
 have hv:v.cells.toList = [v]:=by cases v <;> first | rfl | exact (h1 _ rfl).elim
 match ps,p1 with
 | [q],_=>exact ⟨q,p2,p3.2 0 q v rfl (by rw [hv]; rfl)⟩
end
def lawCx (w:World):Cx:=⟨w,fun b _=>b < w.heap.size,⟨0,fun _=>0,fun _=>Go.undef,fun _=>0⟩,[]⟩
theorem lawHR (w:World):HR (lawCx w) (lawCx w).C0 [] w :=
 ⟨rfl,fun id ob h=>by simp at h,fun id id' ob ob' b h=>by simp at h,fun id ob b h=>by simp at h,fun b o h=>⟨h,fun id ob h=>by simp at h,rfl⟩,Nat.le_refl _,rfl,rfl,rfl,fun b _ _=>rfl,Nat.le_refl _,fun i hi=>rfl,fun i hi => .inl ⟨rfl,rfl⟩⟩
theorem lawStab {w:World} {b o:Nat} (h:b < w.heap.size):Stab (lawCx w) (lawCx w).C0 [] w b o:=⟨.inl h,h,fun id ob h=>by simp at h⟩
def Arg (w:World) (p:PV) (v:Value):Prop:=RepV (Stab (lawCx w) (lawCx w).C0 [] w) w (lawCx w).C0 p v
theorem Arg.of {w:World} {p:PV} {v:Value} (h:RepP (fun b _=>b < w.heap.size) w p v):Arg w p v := .pure (h.mono (fun _ _ h=>lawStab h) fun _ _ _=>rfl)
inductive ArgsAre (w:World):List PV→List Value→Prop
 | nil:ArgsAre w [] []
 | cons {p:PV} {v:Value} {ps:List PV} {vs:List Value} (h:Arg w p v) (t:ArgsAre w ps vs):ArgsAre w (p :: ps) (v :: vs)
theorem ArgsAre.reps {w:World} {ps:List PV} {vs:List Value} (h:ArgsAre w ps vs):Reps (Stab (lawCx w) (lawCx w).C0 [] w) w (lawCx w).C0 ps vs:=by
 induction h with
 | nil=>exact ⟨rfl,fun j p v hj=>by simp at hj⟩
 | cons h t ih =>
  refine ⟨by simp [ih.1],fun j p v hj hv=>?_⟩
  cases j with
  | zero=>simp at hj hv; subst hj; subst hv; exact h
  | succ j=>exact ih.2 j p v (by simpa using hj) (by simpa using hv)
theorem law_calls {P:Program} {f:Nat} {args:List PV} {vs:Array Value} {w:World} (h:Meets P f args [] (.bool true) []) (hp:ArgsAre w args vs.toList):Calls P f vs w fun e w'=>e = .returned (.bool true)∧Below w.heap.size w w':=by
 refine (h (lawCx w) vs rfl (lawHR w) hp.reps).mono fun e w' ⟨v,C',h1,h2,h3⟩=>?_
 have hv:=h3.bool_inv
 subst hv
 exact ⟨h1,⟨h2.os,h2.tape,h2.output,h2.size,fun b hb=>h2.frame b hb fun i ob0 hi=>by simp [lawCx] at hi⟩⟩
end Go.Proofs.YtfdolehffjmdmaaGreatDoor
/- Arguments of laws,opened: ids,entries,lists of them. -/
namespace Go.Proofs.YtfdolehffjmdmaaGreatDoor
open Go.RowKit Go.ChangeShapes Go.WideShapes Go.ChangeAt
section
variable {H:Type} {enc:TypeId × Value→H} {w:World} {sp:Nat→Bool} {held:Bool}
theorem rows_map {α:Type} {f:α→List PV} {Q:α→Prop} {n:Nat}:∀ {rows:List (List PV)},(∀ row ∈ rows,row.length=n∧∃ x,Q x∧row=f x)→∃ l:List α,(∀ x ∈ l,Q x)∧rows=l.map f
 | [],_=>⟨[],by simp,rfl⟩
 | row :: rows,h=>by
  obtain ⟨-,x,h1,rfl⟩:=h row (by simp)
  obtain ⟨l,h2,rfl⟩:=rows_map (rows:=rows) fun row hr=>h row (by simp [hr])
  exact ⟨x :: l,by simpa using ⟨h1,h2⟩,rfl⟩
theorem opInt:Opens enc Tryz.prog w sp held 3 1 fun ps=>∃ n,I64 n∧ps = [.int .i64 n]:=opens_int undInt' cellsInt
theorem opStr:Opens enc Tryz.prog w sp held 9 1 fun ps=>∃ s:ByteArray,s.size≤reachBytes∧ps = [.str s]:=opens_str (by kernel_rfl) (by kernel_rfl)
end
end Go.Proofs.YtfdolehffjmdmaaGreatDoor
/- Arguments of laws,opened: lists of entries,of ids. -/
namespace Go.Proofs.YtfdolehffjmdmaaGreatDoor
open Go.RowKit Go.ChangeShapes Go.WideShapes Go.ChangeAt
section
variable {H:Type} {enc:TypeId × Value→H} {w:World} {sp:Nat→Bool} {held:Bool}
end
end Go.Proofs.YtfdolehffjmdmaaGreatDoor
/- Arguments of laws,opened: sites. -/
namespace Go.Proofs.YtfdolehffjmdmaaGreatDoor
open Go.RowKit Go.ChangeShapes Go.WideShapes Go.ChangeAt
section
variable {H:Type} {enc:TypeId × Value→H} {w:World} {sp:Nat→Bool} {held:Bool}
end
end Go.Proofs.YtfdolehffjmdmaaGreatDoor
/- Arguments of laws,opened: worlds,acts. -/
namespace Go.Proofs.YtfdolehffjmdmaaGreatDoor
open Go.RowKit Go.ChangeShapes Go.WideShapes Go.ChangeAt
section
variable {H:Type} {enc:TypeId × Value→H} {w:World} {sp:Nat→Bool} {held:Bool}
theorem undAct:Tryz.prog.underlying 70=some (.struct (Tryz.prog.fieldsOf 70)):=by kernel_rfl
theorem opAct:Opens enc Tryz.prog w sp held 70 5 fun ps=>∃ (k i n c:Int) (t:ByteArray),True∧ps = [.int .i64 k,.int .i64 i,.int .i64 n,.int .i64 c,.str t] :=
 (opens_struct [(3,1,_),(3,1,_),(3,1,_),(3,1,_),(9,1,_)] undAct (by kernel_rfl) (by kernel_rfl) rfl ⟨opInt,opInt,opInt,opInt,opStr,trivial⟩).mono (by
  rintro ps ⟨a,b,rfl,-,⟨x,hx,rfl⟩,c,d,rfl,-,⟨y,hy,rfl⟩,k,q,rfl,-,⟨l,hl,rfl⟩,k2,q2,rfl,-,⟨l2,hl2,rfl⟩,k3,q3,rfl,-,⟨t,ht,rfl⟩,rfl⟩
  exact ⟨x,y,l,l2,t,trivial,rfl⟩)
end
end Go.Proofs.YtfdolehffjmdmaaGreatDoor
/- Arguments of laws,opened: scripts. -/
namespace Go.Proofs.YtfdolehffjmdmaaGreatDoor
open Go.RowKit Go.ChangeShapes Go.WideShapes Go.ChangeAt
section
variable {H:Type} {enc:TypeId × Value→H} {w:World} {sp:Nat→Bool} {held:Bool}
theorem opActs:Opens enc Tryz.prog w sp held 53 1 fun ps=>∃ l:List Ac,l.length≤reachBytes∧ps = [.list (l.map cAc)] :=
 (opens_slice (by kernel_rfl) (by kernel_rfl) (by omega) opAct).mono (by
  rintro ps ⟨rows,hm,hr,rfl⟩
  obtain ⟨l,h1,rfl⟩:=rows_map (f:=cAc) (Q:=fun _=>True) (n:=5) (fun row h=>by
   obtain ⟨a,k,i,n,c,t,-,d⟩:=hr row h
   exact ⟨a,(k,i,n,c,t),trivial,d⟩)
  have hb:1≤Tryz.prog.bytesOf 70:=by decide +kernel
  refine ⟨l,?_,rfl⟩
  have h2:(l.map cAc).length * 1≤(l.map cAc).length * Tryz.prog.bytesOf 70:=Nat.mul_le_mul_left _ hb
  rw [List.length_map] at h2 hm
  omega)
set_option maxRecDepth 100000 in
theorem argActs {b0 : Nat} {v : Value} {d : DataW H} {p : List MemPlace} (hv : Value.okWide Tryz.prog w .any b0 53 v) (h : DataW.Trod enc Tryz.prog w 0 sp held 53 v d p) (hw : ∀ k ∈ d.weights Tryz.prog 53, k ≤ reachBytes) :
    ∃ l:List Ac,l.length≤reachBytes∧Arg w (.list (l.map cAc)) v:=by
  obtain ⟨a,n,c,rfl⟩:=okWide_slice (e:=70) (by kernel_rfl) hv
  obtain ⟨q,⟨l,h1,hq⟩,h3⟩:=open_cell opActs (by simp) h hw
  simp at hq; subst hq
  exact ⟨l,h1,.of h3⟩
end
end Go.Proofs.YtfdolehffjmdmaaGreatDoor
/- Rows that list variables: a start that fits,and the way from a contract to the row,with a condition of the specification's own. -/
namespace Go.Proofs.YtfdolehffjmdmaaGreatDoor
open Go.RowKit Go.ChangeShapes Go.WideShapes Go.ChangeAt
section
variable {H:Type} {enc:TypeId × Value→H}
end
end Go.Proofs.YtfdolehffjmdmaaGreatDoor
