/- Joined texts of this claim: U1 U5 Lc E1. -/
import Derived.Test.YtkcahmbcpkjpiaaGreatDoorKB
import Derived.Test.YtkcahmbcpkjpiaaGreatDoorProg
import Derived.KernelRfl
set_option linter.unusedSimpArgs false
set_option linter.unusedVariables false
set_option linter.unusedSectionVars false
set_option maxHeartbeats 8000000
set_option maxRecDepth 100000
namespace Go.Proofs.YtkcahmbcpkjpiaaGreatDoor
open Go.RowKit
def ztw:PV→PV
 | .oll rows => .list rows
 | .olp cells => .rptr cells
 | p=>p
def unO:PV→PV
 | .agg cs => .agg (cs.map ztw)
 | .clo f cs => .clo f (cs.map ztw)
 | p=>ztw p
def frL (H:List AObj):PV→PV
 | .arr id ver=>match H[id]? with
  | some (.arr v _ false _ _ rows)=>if v=ver∧(rows.all fun r=>r.all zed)=true then .list rows else .top
  | _ => .top
 | .list rows=>if rows = [] then .list [] else .top
 | .nilsl => .nilsl
 | .bool b => .bool b
 | .int k n => .int k n
 | .str s => .str s
 | .nilp => .nilp
 | _ => .top
def frA (H:List AObj):PV→PV
 | .agg cs => .agg (cs.map (frL H))
 | p=>frL H p
def frS (H:List AObj):PV→PV
 | .tup vs => .tup (vs.map (frA H))
 | p=>frA H p
section
variable {S S':Nat→Nat→Prop} {w:World} {C C':Conc}
theorem zxR {p:PV} {v:Value} (h:zed p=true) (hp:RepP S w p v):RepP S' w p v:=by
 cases hp <;> simp only [zed,Bool.false_eq_true] at h
 ·
  exact .bool _
 ·
  exact .int _ _
 ·
  exact .str _
 ·
  exact .nilp
theorem zhV {p:PV} {v:Value} (hS:∀ b o,S b o→S' b o) (ho:∀ b o,C.old b o→S' b o) (hp:RepV S w C p v):RepV S' w C (ztw p) v:=by
 cases p <;> try exact hp.mono hS (fun _ _ _=>rfl) (Nat.le_refl _) (fun _ _=>rfl) (fun _ _ => .inl ⟨rfl,rfl⟩) fun b o h=>⟨h,rfl⟩
 case oll rows =>
  cases hp with
  | pure g=>cases g
  | oll rows g=>exact .pure (g.mono ho fun _ _ _=>rfl)
 case olp rows =>
  cases hp with
  | pure g=>cases g
  | olp rows g=>exact .pure (g.mono ho fun _ _ _=>rfl)
theorem znO {p:PV} {v:Value} (hS:∀ b o,S b o→S' b o) (ho:∀ b o,C.old b o→S' b o) (hp:RepV S w C p v):RepV S' w C (unO p) v:=by
 cases p <;> try exact zhV hS ho hp
 case agg cs =>
  obtain ⟨vs,rfl,hl,h1,h2⟩:=hp.agg_inv
  refine .agg _ vs (by simpa using hl) h1 fun j p u hj hu=>?_
  obtain ⟨q,hq,rfl⟩:=zJ hj
  exact zhV hS ho (h2 j q u hq hu)
 case clo f cs =>
  obtain ⟨vs,rfl,hl,h2⟩:=hp.clo_inv
  refine .clo f _ vs (by simpa using hl) fun j p u hj hu=>?_
  obtain ⟨q,hq,rfl⟩:=zJ hj
  exact zhV hS ho (h2 j q u hq hu)
end
section
variable {x:Cx} {C C':Conc} {H:List AObj} {w:World} {S':Nat→Nat→Prop}
theorem znP (hr:HR x C H w) (hx:x.H0 = []) (hS:∀ b o,x.w0.heap.size≤b→b < w.heap.size→Unf w b→S' b o) {p:PV} {v:Value} (hp:RepV (zA x C H w) w C p v):RepV S' w C' (frL H p) v:=by
 cases p <;> simp only [frL] <;> try exact .any
 case bool b=>rw [hp.bool_inv]; exact .pure (.bool b)
 case int k n=>rw [hp.int_inv]; exact .pure (.int k n)
 case str s=>rw [hp.str_inv]; exact .pure (.str s)
 case nilp =>
  cases hp with
  | pure g=>cases g; exact .pure .nilp
 case nilsl=>rw [hp.nilsl_inv]; exact .pure .nilsl
 case list rows =>
  split
  ·
   rename_i e
   subst e
   have:=hp.list_inv
   generalize hrs:([]:List (List PV))=rows at this
   cases this with
   | list rows a c sz y hc hm hsz hz hl h =>
    subst hrs
    exact .pure (.list [] a c sz y hc hm hsz hz (fun k row j p h=>by simp at h) (fun k row j p h=>by simp at h))
  ·
   exact .any
 case arr id ver =>
  split <;> try exact .any
  rename_i v' st T sz rows hid
  split <;> try exact .any
  rename_i hv
  obtain ⟨rfl,hsc⟩:=hv
  obtain ⟨h1,h2,h3,xs,h4,h5⟩:=hr.obj id _ hid
  obtain ⟨rfl,hi⟩:=hp.arr_inv h1
  rcases h4.2 with ⟨e1,e2⟩ | ⟨g,cap,cur,e1,-,e2,e3,e4,e5,e6⟩
  ·
   have:rows = []:=List.eq_nil_of_length_eq_zero e2
   subst this
   rw [e1]
   exact .pure zfC
  ·
   have hob:(C.sv id).ownBlock=some g:=by rw [e1]; rfl
   have hlt:=hr.blk_lt hid hob
   have hge:x.w0.heap.size≤g:=by
    rcases hr.mine id _ g hid hob with h | ⟨i,ob0,h,-⟩
    ·
     exact h
    ·
     rw [hx] at h; simp at h
   rw [e1]
   have key:∀ (k:Nat) row (j:Nat) p,rows[k]? = some row→row[j]? = some p→k * sz + j < rows.length * sz∧xs[k * sz + j]? = some (xs.getD (k * sz + j) Go.undef):=by
    intro k row j p a b
    have hk:k < rows.length:=(List.getElem?_eq_some_iff.1 a).1
    have hj:j < sz:=by rw [← h3 row (List.mem_of_getElem? a)]; exact (List.getElem?_eq_some_iff.1 b).1
    have hlt:k * sz + j < rows.length * sz:=by
     have:(k + 1) * sz≤rows.length * sz:=Nat.mul_le_mul_right _ hk
     rw [Nat.add_mul] at this; omega
    exact ⟨hlt,by simp [List.getD,List.getElem?_eq_getElem (show k * sz + j < xs.length by rw [h4.1]; exact hlt)]⟩
   refine .pure (.list rows _ cap sz (fun k j=>xs.getD (k * sz + j) Go.undef) e3 e4 h2 h3 (fun k row j p a b=>⟨g,0,rfl,hS _ _ hge hlt (.of e2),?_⟩) (fun k row j p a b=>?_))
   ·
    rw [Zm e2,← Array.getElem?_toList,Nat.zero_add,← (key k row j p a b).2,← e6,List.getElem?_take,if_pos (key k row j p a b).1]
   ·
    have:=(h5 k row j p _ a b (key k row j p a b).2).2
    simp only [Bool.false_eq_true,if_false] at this
    refine zxR ?_ this
    exact List.all_eq_true.1 (List.all_eq_true.1 hsc row (List.mem_of_getElem? a)) p (List.mem_of_getElem? b)
theorem znQ (hr:HR x C H w) (hx:x.H0 = []) (hS:∀ b o,x.w0.heap.size≤b→b < w.heap.size→Unf w b→S' b o) {p:PV} {v:Value} (hp:RepV (zA x C H w) w C p v):RepV S' w C' (frA H p) v:=by
 cases p <;> try exact znP hr hx hS hp
 case agg cs =>
  obtain ⟨vs,rfl,hl,h1,h2⟩:=hp.agg_inv
  refine .agg _ vs (by simpa using hl) h1 fun j p u hj hu=>?_
  obtain ⟨q,hq,rfl⟩:=zJ hj
  exact znP hr hx hS (h2 j q u hq hu)
theorem zky (hr:HR x C H w) (hx:x.H0 = []) (hS:∀ b o,x.w0.heap.size≤b→b < w.heap.size→Unf w b→S' b o) {p:PV} {v:Value} (hp:RepV (zA x C H w) w C p v):RepV S' w C' (frS H p) v:=by
 cases p <;> try exact znQ hr hx hS hp
 case tup cs =>
  obtain ⟨vs,rfl,hl,h2⟩:=hp.tup_inv
  refine .tup _ vs (by simpa using hl) fun j p u hj hu=>?_
  obtain ⟨q,hq,rfl⟩:=zJ hj
  exact znQ hr hx hS (h2 j q u hq hu)
end
theorem zg.fresh {P:Program} {f:Nat} {args args':List PV} {r':PV} {Hs':List AObj} (h:zg P f args [] r' Hs') (he:args'.map unO=args):zg P f args' [] (frS Hs' r') []:=by
 intro x vs hx hr hp
 have hn:∀ b o,zj9 x.C0 [] b o:=fun b o i ob hi=>by simp at hi
 have h1:HR ⟨x.w0,fun b o=>zA x x.C0 [] x.w0 b o∨x.C0.old b o,x.C0,[]⟩ x.C0 [] x.w0 :=
  ⟨hr.n,fun i ob h=>by simp at h,fun i i' ob ob' b h=>by simp at h,fun i ob b h=>by simp at h,fun b o h=>⟨by
   rcases h with h | h
   ·
    exact h.2.1
   ·
    exact (hr.old b o h).1,hn b o,rfl⟩,Nat.le_refl _,rfl,rfl,rfl,fun _ _ _=>rfl,Nat.le_refl _,fun _ _=>rfl,fun _ _ => .inl ⟨rfl,rfl⟩,fun b o h=>⟨(hr.old b o h).1,fun i ob hi=>by simp at hi,h,(hr.old b o h).1,fun i ob hi=>by simp at hi⟩,fun _ _ h=>h,fun _ _ h=>h⟩
 have hp1:zk5 (zA ⟨x.w0,fun b o=>zA x x.C0 [] x.w0 b o∨x.C0.old b o,x.C0,[]⟩ x.C0 [] x.w0) x.w0 x.C0 args vs.toList:=by
  subst he
  refine ⟨by simpa using hp.1,fun j p u hj hu=>?_⟩
  obtain ⟨q,hq,rfl⟩:=zJ hj
  exact znO (fun b o h=>⟨.inl (.inl h),h.2.1,hn b o⟩) (fun b o h=>⟨.inl (.inr h),(hr.old b o h).1,hn b o⟩) (hp.2 j q u hq hu)
 refine (h _ vs rfl h1 hp1).mono fun e w' ⟨v,C1,he,hc,hv⟩=>?_
 obtain ⟨k1,-,-⟩:=hr.grow (w':=w') ⟨hc.size,hc.os,hc.tape,hc.output,fun b hb _=>hc.frame b hb fun i ob h=>by simp at h⟩
 exact ⟨v,x.C0,he,k1,zky hc rfl (fun b o a1 a2 a3=>⟨.inr ⟨.inl a1,a3⟩,a2,hn b o⟩) hv⟩
theorem zg.freshS {P:Program} {f:Nat} {args args':List PV} {r:PV} (h:zg P f args [] r []) (he:args'.map unO=args) (hr:frS [] r=r):zg P f args' [] r []:=hr ▸ h.fresh he
attribute [go_sem] unO ztw
def zw7 (x:Cx) (nt:Nat) (lrs:List LRes) (r:PV):AE→St→Prop
 | .normal,st=>∃ st',zbk x nt st st'∧(ZZ st' lrs).map (fun ps=>frS st'.heap (zdW ps))=some r
 | .ret,st=>∃ st',zbk x nt st st'∧(ZZ st' lrs).map (fun ps=>frS st'.heap (zdW ps))=some r
 | .exit _,_=>False
theorem zi8 {x:Cx} {nt:Nat} {lrs:List LRes} {r:PV} {st:St} (h:(ZZ st lrs).map (fun ps=>frS st.heap (zdW ps))=some r):zw7 x nt lrs r .ret st:=⟨st,zbk.refl x nt st,h⟩
theorem zg.of_fresh {P : Program} {f : Nat} {fn : Func} {lc : LC} {lrs : List LRes} {args' : List PV} {r : PV} {nt : Nat} (hf : P.funcs[f]? = some fn) (hnt : fn.ntmps = nt) (hlc : (fn.body.bind (zh P nt)) = some lc) (hres : zj P fn.results.toList = some lrs)
    (hargs:args'.length≤nt) (h:∀ x:Cx,x.H0 = []→zeO P x nt lc (zw7 x nt lrs r) ⟨mkE .undef (zm4 0 (args'.map unO)),[]⟩):zg P f args' [] r []:=by
  intro x vs hx hr hp
  have hn:∀ b o,zj9 x.C0 [] b o:=fun b o i ob hi=>by simp at hi
  have h1:HR ⟨x.w0,fun b o=>zA x x.C0 [] x.w0 b o∨x.C0.old b o,x.C0,[]⟩ x.C0 [] x.w0 :=
    ⟨hr.n,fun i ob h=>by simp at h,fun i i' ob ob' b h=>by simp at h,fun i ob b h=>by simp at h,fun b o h=>⟨by
      rcases h with h | h
      · exact h.2.1
      · exact (hr.old b o h).1,hn b o,rfl⟩,Nat.le_refl _,rfl,rfl,rfl,fun _ _ _=>rfl,Nat.le_refl _,fun _ _=>rfl,fun _ _ => .inl ⟨rfl,rfl⟩,fun b o h=>⟨(hr.old b o h).1,fun i ob hi=>by simp at hi,h,(hr.old b o h).1,fun i ob hi=>by simp at hi⟩,fun _ _ h=>h,fun _ _ h=>h⟩
  have hp1:zk5 (zA ⟨x.w0,fun b o=>zA x x.C0 [] x.w0 b o∨x.C0.old b o,x.C0,[]⟩ x.C0 [] x.w0) x.w0 x.C0 (args'.map unO) vs.toList:=by
    refine ⟨by simpa using hp.1,fun j p u hj hu=>?_⟩
    obtain ⟨q,hq,rfl⟩:=zJ hj
    exact znO (fun b o h=>⟨.inl (.inl h),h.2.1,hn b o⟩) (fun b o h=>⟨.inl (.inr h),(hr.old b o h).1,hn b o⟩) (hp.2 j q u hq hu)
  obtain ⟨c,hb,hlc⟩:=Option.bind_eq_some_iff.1 hlc
  have hvl:vs.size=(args'.map unO).length:=by have:=hp1.1; simpa using this
  have hal:(args'.map unO).length≤nt:=by simpa using hargs
  refine calls_of_wp hf hb ?_
  generalize args'.map unO=args at *
  generalize hx1:(⟨x.w0,fun b o=>zA x x.C0 [] x.w0 b o∨x.C0.old b o,x.C0,[]⟩:Cx)=x1 at *
  have hH0:x1.H0 = []:=by rw [← hx1]
  have hw0:x1.w0=x.w0:=by rw [← hx1]
  have hC0:x1.C0=x.C0:=by rw [← hx1]
  have hrel:Rel x1 nt (St.init args []) { tmps:=vs ++ Array.replicate (fn.ntmps - vs.size) Go.undef,defers := [] } x.w0:=by
    refine ⟨⟨x.C0,h1,fun t=>?_⟩,rfl,by simp; omega⟩
    simp only [St.init]
    by_cases ht:t < args.length
    · have e1:args[t]? = some args[t]:=List.getElem?_eq_getElem ht
      have e2:vs.toList[t]? = some vs[t]:=by simp [ht,hvl]
      have:=hp1.2 t _ _ e1 e2
      simp only [List.getD,e1,Option.getD_some]
      rw [show (vs ++ Array.replicate (fn.ntmps - vs.size) Go.undef).getD t Go.undef=vs[t] by
        simp [Array.getD,Array.getElem_append,hvl,ht]; omega]
      exact this
    · simp only [List.getD,List.getElem?_eq_none (by omega:args.length≤t),Option.getD_none]
      rw [show (vs ++ Array.replicate (fn.ntmps - vs.size) Go.undef).getD t Go.undef=Go.undef by
        simp only [Array.getD]
        split
        · rw [Array.getInternal_eq_getElem,Array.getElem_append_right (by omega)]; simp
        · rfl]
      exact .undef
  have fin:∀ st a w,(∃ st',zbk x1 nt st st'∧(ZZ st' lrs).map (fun ps=>frS st'.heap (zdW ps))=some r)→Rel x1 nt st a w→a.defers = []∧∃ v,(results fn a.tmps).run P w = .ok v w∧∃ v1 C',Ending.returned v = .returned v1∧HR x C' [] w∧RepV (zA x C' [] w) w C' r v1:=by
    intro st a w ⟨st',hwk,hq⟩ hrel
    obtain ⟨ps,g1,g2⟩:=Option.map_eq_some_iff.1 hq
    replace hrel:=hwk a w hrel
    obtain ⟨⟨C,hr1,he⟩,hdf,hsz⟩:=hrel
    obtain ⟨us,k1,k2⟩:=zaT hr1 he hres g1
    refine ⟨hdf,if h:us.toArray.size=1 then us.toArray[0] else .tuple us.toArray,?_,if h:us.toArray.size=1 then us.toArray[0] else .tuple us.toArray,x.C0,rfl,?_⟩
    · have hm:(fn.results.mapM (zcY a.tmps)).run P w = .ok us.toArray w:=by
        rw [Array.mapM_eq_mapM_toList]
        simp [k1]
      have hq:results fn a.tmps=(do let vs ← fn.results.mapM (zcY a.tmps); pure (if h:vs.size=1 then vs[0] else .tuple vs)):=rfl
      rw [hq,Sem.run_bind,hm,Result.andThen_ok,Sem.run_pure]
    · obtain ⟨q1,-,-⟩:=hr.grow (w':=w) ⟨by rw [← hw0]; exact hr1.size,by rw [← hw0]; exact hr1.os,by rw [← hw0]; exact hr1.tape,by rw [← hw0]; exact hr1.output,fun b hb _=>by
        rw [← hw0]; exact hr1.frame b (by rw [hw0]; exact hb) fun i ob h=>by rw [hH0] at h; simp at h⟩
      refine ⟨q1,?_⟩
      rw [← g2]
      exact zky hr1 hH0 (fun b o a1 a2 a3=>⟨.inr ⟨.inl (by rw [← hw0]; exact a1),a3⟩,a2,hn b o⟩) (zei k2)
  refine wp_mono (zaC (h x1 hH0) c (by rw [hnt] at *; exact hlc) _ _ (by rw [zf2] at hrel; exact hrel)) fun e a w hq=>?_
  cases e with
  | normal=>obtain ⟨st,g1,g2⟩:=hq; exact fin st a w g1 g2
  | ret=>obtain ⟨st,g1,g2⟩:=hq; exact fin st a w g1 g2
  | exit id=>obtain ⟨st,g1,g2⟩:=hq; exact g1.elim
  | goto l=>exact hq.elim
  | panic ch=>exact hq.elim
  | outgrown=>exact hq.elim
def kin:Value→Value→Prop
 | .int k _,y=>∃ b,y = .int k b
 | .string _,y=>∃ t,y = .string t
 | x,y=>y=x
theorem zep (v:Value):kin v v:=by cases v <;> first | rfl | exact ⟨_,rfl⟩
theorem znR {a b c:Value} (h:kin a b) (h2:kin b c):kin a c:=by
 cases a
 case int k n=>obtain ⟨m,rfl⟩:=h; exact h2
 case string s=>obtain ⟨m,rfl⟩:=h; exact h2
 all_goals (have h:b=_:=h; subst h; exact h2)
structure Soil (R:Nat→Nat→Prop) (w w':World):Prop where
 size:w'.heap.size=w.heap.size
 os:w'.os=w.os
 tape:w'.tape=w.tape
 output:w'.output=w.output
 blk:∀ b,(∀ o,¬ R b o)→w'.heap[b]? = w.heap[b]?
 keep:∀ b o,¬ R b o→w'.cell? ⟨b,o,none⟩=w.cell? ⟨b,o,none⟩
 cell:∀ b o v,w.cell? ⟨b,o,none⟩=some v→∃ v',w'.cell? ⟨b,o,none⟩=some v'∧kin v v'
 frz:∀ b,Unf w' b↔Unf w b
theorem Soil.refl (R:Nat→Nat→Prop) (w:World):Soil R w w:=⟨rfl,rfl,rfl,rfl,fun _ _=>rfl,fun _ _ _=>rfl,fun _ _ v h=>⟨v,h,zep v⟩,fun _=>Iff.rfl⟩
theorem Soil.trans {R:Nat→Nat→Prop} {w w1 w2:World} (h:Soil R w w1) (h2:Soil R w1 w2):Soil R w w2 :=
 ⟨h2.size.trans h.size,h2.os.trans h.os,h2.tape.trans h.tape,h2.output.trans h.output,fun b hb=>(h2.blk b hb).trans (h.blk b hb),fun b o hn=>(h2.keep b o hn).trans (h.keep b o hn),fun b o v hv=>by
  obtain ⟨v1,a1,a2⟩:=h.cell b o v hv
  obtain ⟨v2,b1,b2⟩:=h2.cell b o v1 a1
  exact ⟨v2,b1,znR a2 b2⟩,fun b=>(h2.frz b).trans (h.frz b)⟩
inductive Bl:PV→PV→Prop
  | top:Bl .top .top
  | bool (b:Bool):Bl (.bool b) (.bool b)
  | int (k:IntKind) (n m:Int):Bl (.int k n) (.int k m)
  | str (s t:ByteArray):Bl (.str s) (.str t)
  | nilp:Bl .nilp .nilp
  | nilsl:Bl .nilsl .nilsl
  | list (rows rows' : List (List PV)) (hl : rows'.length = rows.length) (hr : ∀ (k : Nat) (r r' : List PV), rows[k]? = some r → rows'[k]? = some r' → r'.length = r.length)
      (h:∀ (k:Nat) (r r':List PV) (j:Nat) (p p':PV),rows[k]? = some r→rows'[k]? = some r'→r[j]? = some p→r'[j]? = some p'→Bl p p'):Bl (.list rows) (.list rows')
  | rptr (cs cs':List PV) (hl:cs'.length=cs.length) (h:∀ (j:Nat) (p p':PV),cs[j]? = some p→cs'[j]? = some p'→Bl p p'):Bl (.rptr cs) (.rptr cs')
open Classical in
noncomputable def zqr (good:Nat→PV→PV→Prop) (j:Nat) (p:PV):PV:=if h:∃ q,good j p q then Classical.choose h else p
theorem zca {good:Nat→PV→PV→Prop} {j:Nat} {p:PV} (h:∃ q,good j p q):good j p (zqr good j p):=by
 unfold zqr
 rw [dif_pos h]
 exact Classical.choose_spec h
noncomputable def zdE (good:Nat→PV→PV→Prop) (r:List PV):List PV:=r.mapIdx (zqr good)
theorem zaE {good:Nat→PV→PV→Prop} {r:List PV} {j:Nat} {q:PV} (h:(zdE good r)[j]? = some q):∃ p,r[j]? = some p∧q=zqr good j p:=by
 rw [zdE,List.getElem?_mapIdx] at h
 obtain ⟨p,h1,h2⟩:=Option.map_eq_some_iff.1 h
 exact ⟨p,h1,h2.symm⟩
theorem zbM (good:Nat→PV→PV→Prop) (r:List PV):(zdE good r).length=r.length:=by simp [zdE]
theorem zss {S R:Nat→Nat→Prop} {w w':World} (hs:Soil R w w') {p:PV} {v:Value} (h:RepP S w p v):∀ v',kin v v'→∃ q,Bl p q∧RepP S w' q v':=by
  induction h with
  | @top v h =>
    intro v' hk
    refine ⟨.top,.top,.top ?_⟩
    cases v
    case int k n=>obtain ⟨m,rfl⟩:=hk; rfl
    case string s=>obtain ⟨m,rfl⟩:=hk; rfl
    all_goals (have hk:v'=_:=hk; subst hk; exact h)
  | bool b=>intro v' hk; have hk:v'=_:=hk; subst hk; exact ⟨_,.bool b,.bool b⟩
  | int k n=>intro v' hk; obtain ⟨m,rfl⟩:=hk; exact ⟨_,.int k n m,.int k m⟩
  | str s=>intro v' hk; obtain ⟨t,rfl⟩:=hk; exact ⟨_,.str s t,.str t⟩
  | nilp=>intro v' hk; have hk:v'=_:=hk; subst hk; exact ⟨_,.nilp,.nilp⟩
  | nilsl=>intro v' hk; have hk:v'=_:=hk; subst hk; exact ⟨_,.nilsl,.nilsl⟩
  | list rows a c sz x hc hm hsz hz hl h ih =>
    intro v' hk
    have hk:v'=_:=hk
    subst hk
    have hx:∀ k row j p,rows[k]? = some row→row[j]? = some p→∃ y,(∃ b o,a=some ⟨b,o,none⟩∧S b (o + k * sz + j)∧w'.cell? ⟨b,o + k * sz + j,none⟩=some y)∧kin (x k j) y:=by
      intro k row j p h1 h2
      obtain ⟨b,o,ha,hS,hcell⟩:=hl k row j p h1 h2
      obtain ⟨y,y1,y2⟩:=hs.cell _ _ _ hcell
      exact ⟨y,⟨b,o,ha,hS,y1⟩,y2⟩
    let good:Nat→Nat→PV→PV→Prop:=fun k j p q=>∀ y,(∃ b o,a=some ⟨b,o,none⟩∧w'.cell? ⟨b,o + k * sz + j,none⟩=some y)→Bl p q∧RepP S w' q y
    have hex:∀ k row j p,rows[k]? = some row→row[j]? = some p→∃ q,good k j p q:=by
      intro k row j p h1 h2
      obtain ⟨y,⟨b,o,ha,hS,hcell⟩,hky⟩:=hx k row j p h1 h2
      obtain ⟨q,q1,q2⟩:=ih k row j p h1 h2 y hky
      refine ⟨q,fun y2 ⟨b2,o2,ha2,hc2⟩=>?_⟩
      rw [ha] at ha2
      cases ha2
      rw [hcell] at hc2
      cases hc2
      exact ⟨q1,q2⟩
    have hget:∀ (k:Nat) r',(rows.mapIdx fun k r=>zdE (good k) r)[k]? = some r'→∃ r,rows[k]? = some r∧r'=zdE (good k) r:=by
      intro k r' h
      rw [List.getElem?_mapIdx] at h
      obtain ⟨r,h1,h2⟩:=Option.map_eq_some_iff.1 h
      exact ⟨r,h1,h2.symm⟩
    have hlen:(rows.mapIdx fun k r=>zdE (good k) r).length=rows.length:=by simp
    refine ⟨.list (rows.mapIdx fun k r=>zdE (good k) r),.list _ _ hlen (fun k r r' h1 h2=>?_) (fun k r r' j p p' h1 h2 h3 h4=>?_),?_⟩
    · obtain ⟨r2,g1,rfl⟩:=hget k r' h2
      rw [h1] at g1; cases g1
      exact zbM _ _
    · obtain ⟨r2,g1,rfl⟩:=hget k r' h2
      rw [h1] at g1; cases g1
      obtain ⟨p2,g2,rfl⟩:=zaE h4
      rw [h3] at g2; cases g2
      obtain ⟨y,⟨b,o,ha,hS,hcell⟩,-⟩:=hx k r j p h1 h3
      exact (zca (hex k r j p h1 h3) y ⟨b,o,ha,hcell⟩).1
    · have key:∀ (k:Nat) r' (j:Nat) p',(rows.mapIdx fun k r=>zdE (good k) r)[k]? = some r'→r'[j]? = some p'→∃ b o y,a=some ⟨b,o,none⟩∧S b (o + k * sz + j)∧w'.cell? ⟨b,o + k * sz + j,none⟩=some y∧RepP S w' p' y:=by
        intro k r' j p' h1 h2
        obtain ⟨r,g1,rfl⟩:=hget k r' h1
        obtain ⟨p,g2,rfl⟩:=zaE h2
        obtain ⟨y,⟨b,o,ha,hS,hcell⟩,-⟩:=hx k r j p g1 g2
        exact ⟨b,o,y,ha,hS,hcell,(zca (hex k r j p g1 g2) y ⟨b,o,ha,hcell⟩).2⟩
      have hgl := RepP.list (S := S) (w := w') (rows.mapIdx fun k r => zdE (good k) r) a c sz (fun k j => match a with | some ad => (w'.cell? ⟨ad.block, ad.off + k * sz + j, none⟩).getD Go.undef | none => Go.undef) (by rw [hlen]; exact hc) hm hsz (fun row hrow => by
          obtain ⟨k,hk,rfl⟩:=List.getElem_of_mem hrow
          obtain ⟨r,g1,g2⟩:=hget k _ (List.getElem?_eq_getElem hk)
          rw [g2,zbM]; exact hz r (List.mem_of_getElem? g1))
        (fun k row j p h1 h2=>by
          obtain ⟨b,o,y,ha,hS,hcell,-⟩:=key k row j p h1 h2
          subst ha
          exact ⟨b,o,rfl,hS,by simp [hcell]⟩)
        (fun k row j p h1 h2=>by
          obtain ⟨b,o,y,ha,hS,hcell,hr⟩:=key k row j p h1 h2
          subst ha
          simpa [hcell] using hr)
      rw [hlen] at hgl
      exact hgl
  | rptr cells b o x hl h ih =>
    intro v' hk
    have hk:v'=_:=hk
    subst hk
    have hx:∀ j p,cells[j]? = some p→∃ y,S b (o + j)∧w'.cell? ⟨b,o + j,none⟩=some y∧kin (x j) y:=by
      intro j p h1
      obtain ⟨hS,hcell⟩:=hl j p h1
      obtain ⟨y,y1,y2⟩:=hs.cell _ _ _ hcell
      exact ⟨y,hS,y1,y2⟩
    let good:Nat→PV→PV→Prop:=fun j p q=>∀ y,w'.cell? ⟨b,o + j,none⟩=some y→Bl p q∧RepP S w' q y
    have hex:∀ j p,cells[j]? = some p→∃ q,good j p q:=by
      intro j p h1
      obtain ⟨y,hS,hcell,hky⟩:=hx j p h1
      obtain ⟨q,q1,q2⟩:=ih j p h1 y hky
      refine ⟨q,fun y2 hc2=>?_⟩
      rw [hcell] at hc2; cases hc2
      exact ⟨q1,q2⟩
    refine ⟨.rptr (zdE good cells),.rptr _ _ (zbM _ _) (fun j p p' h1 h2=>?_),.rptr _ b o (fun j=>(w'.cell? ⟨b,o + j,none⟩).getD Go.undef) (fun j p' h2=>?_) fun j p' h2=>?_⟩
    · obtain ⟨p2,g2,rfl⟩:=zaE h2
      rw [h1] at g2; cases g2
      obtain ⟨y,hS,hcell,-⟩:=hx j p h1
      exact (zca (hex j p h1) y hcell).1
    · obtain ⟨p,g2,rfl⟩:=zaE h2
      obtain ⟨y,hS,hcell,-⟩:=hx j p g2
      exact ⟨hS,by simp [hcell]⟩
    · obtain ⟨p,g2,rfl⟩:=zaE h2
      obtain ⟨y,hS,hcell,-⟩:=hx j p g2
      have:=(zca (hex j p g2) y hcell).2
      simpa [hcell] using this
def zao:PV→PV→Prop
 | .list rows,q=>Bl (.list rows) q
 | .rptr _,q=>q = .top
 | .vlist _,q=>q = .top
 | .agg _,q=>q = .top
 | .tup _,q=>q = .top
 | .clo ..,q=>q = .top
 | .clob ..,q=>q = .top
 | p,q=>q=p
theorem zrv {S R:Nat→Nat→Prop} {w w':World} (hs:Soil R w w') {p:PV} {v:Value} (h:RepP S w p v):∃ q,zao p q∧RepP S w' q v:=by
 cases h with
 | top h=>exact ⟨.top,rfl,.top h⟩
 | bool b=>exact ⟨_,rfl,.bool b⟩
 | int k n=>exact ⟨_,rfl,.int k n⟩
 | str s=>exact ⟨_,rfl,.str s⟩
 | nilp=>exact ⟨_,rfl,.nilp⟩
 | nilsl=>exact ⟨_,rfl,.nilsl⟩
 | list rows a c sz x hc hm hsz hz hl h=>exact zss hs (.list rows a c sz x hc hm hsz hz hl h) _ (zep _)
 | rptr cells b o x hl h=>exact ⟨.top,rfl,.top rfl⟩
theorem znS {S R:Nat→Nat→Prop} {w w':World} {C:Conc} (hs:Soil R w w') (ho:∀ b o,C.old b o→w'.cell? ⟨b,o,none⟩=w.cell? ⟨b,o,none⟩) {p:PV} {v:Value} (h:RepV S w C p v):∃ q,zao p q∧RepV S w' C q v:=by
 cases h with
 | pure h=>obtain ⟨q,h1,h2⟩:=zrv hs h; exact ⟨q,h1,.pure h2⟩
 | any=>exact ⟨_,rfl,.any⟩
 | undef=>exact ⟨_,rfl,.undef⟩
 | vlist=>exact ⟨_,rfl,.any⟩
 | agg=>exact ⟨_,rfl,.any⟩
 | tup=>exact ⟨_,rfl,.any⟩
 | clo=>exact ⟨_,rfl,.any⟩
 | clob=>exact ⟨_,rfl,.any⟩
 | ptr id off hi=>exact ⟨_,rfl,.ptr id off hi⟩
 | aptr id sz idx off g n c hi hs=>exact ⟨_,rfl,.aptr id sz idx off g n c hi hs⟩
 | aptrOld id ver sz idx off hi hv h1=>exact ⟨_,rfl,.aptrOld id ver sz idx off hi hv h1⟩
 | arr id hi h1=>exact ⟨_,rfl,.arr id hi h1⟩
 | arrOld id ver hi hv h1=>exact ⟨_,rfl,.arrOld id ver hi hv h1⟩
 | oll rows h=>exact ⟨_,rfl,.oll rows (h.mono (fun _ _ h=>h) ho)⟩
 | olp cells h=>exact ⟨_,rfl,.olp cells (h.mono (fun _ _ h=>h) ho)⟩
def zf6:AObj→AObj→Prop
 | .box cs,ob'=>∃ cs',ob' = .box cs'∧cs'.length=cs.length∧∀ (j:Nat) (p p':PV),cs[j]? = some p→cs'[j]? = some p'→zao p p'
 | .arr v st ipu T sz rows,ob'=>∃ rows',ob' = .arr v st ipu T sz rows'∧rows'.length=rows.length∧∀ (k:Nat) (r r':List PV),rows[k]? = some r→rows'[k]? = some r'→r'.length=r.length∧∀ (j:Nat) (p p':PV),r[j]? = some p→r'[j]? = some p'→zao p p'
 | .gone,ob'=>ob' = .gone
section
variable {x:Cx} {C:Conc} {H:List AObj} {w w':World} {R:Nat→Nat→Prop}
theorem zst (hr : HR x C H w) (hs : Soil R w w') (hR : ∀ b o, R b o → zA x C H w b o) (ho : ∀ b o, C.old b o → w'.cell? ⟨b, o, none⟩ = w.cell? ⟨b, o, none⟩) {id : Nat} {ob : AObj} (hid : H[id]? = some ob)
    (hst:∀ v st ipu T sz rows,ob = .arr v st ipu T sz rows→st=true):∃ ob',zf6 ob ob'∧zlV (zA x C H w) w' C id ob':=by
  cases ob with
  | gone=>exact ⟨.gone,rfl,trivial⟩
  | box cells =>
    obtain ⟨cs,T,e1,e2,e3⟩:=hr.obj id _ hid
    have hb:w'.heap[C.blk id]? = w.heap[C.blk id]? := hs.blk _ fun o h=>((hR _ _ h).2.2 id _ hid) rfl
    let good:Nat→PV→PV→Prop:=fun j p q=>∀ v,cs[j]? = some v→zao p q∧RepV (zA x C H w) w' C q v
    have hex:∀ j p,cells[j]? = some p→∃ q,good j p q:=fun j p hj=>by
      have hlt:j < cs.size:=by rw [e2]; exact (List.getElem?_eq_some_iff.1 hj).1
      obtain ⟨q,q1,q2⟩:=znS hs ho (e3 j p _ hj (Array.getElem?_eq_getElem hlt)).2
      exact ⟨q,fun v hv=>by rw [Array.getElem?_eq_getElem hlt] at hv; cases hv; exact ⟨q1,q2⟩⟩
    refine ⟨.box (zdE good cells),⟨_,rfl,zbM _ _,fun j p p' h1 h2=>?_⟩,cs,T,hb.trans e1,by rw [zbM]; exact e2,fun j p' v h1 h2=>?_⟩
    · obtain ⟨p2,g2,rfl⟩:=zaE h2
      rw [h1] at g2; cases g2
      have hlt:j < cs.size:=by rw [e2]; exact (List.getElem?_eq_some_iff.1 h1).1
      exact (zca (hex j p h1) _ (Array.getElem?_eq_getElem hlt)).1
    · obtain ⟨p,g2,rfl⟩:=zaE h1
      exact ⟨(e3 j p v g2 h2).1,(zca (hex j p g2) v h2).2⟩
  | arr ver st ipu T sz rows =>
    obtain ⟨e1,e2,e3,xs,e4,e5⟩:=hr.obj id _ hid
    obtain rfl:=hst ver st ipu T sz rows rfl
    have hb:∀ g,(C.sv id).ownBlock=some g→w'.heap[g]? = w.heap[g]? := fun g hg=>hs.blk _ fun o h=>by
      have:=((hR _ _ h).2.2 id _ hid) hg
      cases this.1
    let good:Nat→Nat→PV→PV→Prop:=fun k j p q=>∀ v,xs[k * sz + j]? = some v→zao p q∧(if ipu then RepV (zA x C H w) w' C q v else RepP (zA x C H w) w' q v)
    have hxs:∀ k row j p,rows[k]? = some row→row[j]? = some p→∃ v,xs[k * sz + j]? = some v:=by
      intro k row j p a b
      have hk:k < rows.length:=(List.getElem?_eq_some_iff.1 a).1
      have hj:j < sz:=by rw [← e3 row (List.mem_of_getElem? a)]; exact (List.getElem?_eq_some_iff.1 b).1
      have hlt:k * sz + j < rows.length * sz:=by
        have:(k + 1) * sz≤rows.length * sz:=Nat.mul_le_mul_right _ hk
        rw [Nat.add_mul] at this; omega
      exact ⟨_,List.getElem?_eq_getElem (show k * sz + j < xs.length by rw [e4.1]; exact hlt)⟩
    have hex:∀ k row j p,rows[k]? = some row→row[j]? = some p→∃ q,good k j p q:=fun k row j p h1 h2=>by
      obtain ⟨v,hv⟩:=hxs k row j p h1 h2
      have h5:=(e5 k row j p v h1 h2 hv).2
      cases ipu with
      | true =>
        simp only [if_true] at h5
        obtain ⟨q,q1,q2⟩:=znS hs ho h5
        exact ⟨q,fun v2 hv2=>by rw [hv] at hv2; cases hv2; exact ⟨q1,by simpa using q2⟩⟩
      | false =>
        simp only [Bool.false_eq_true,if_false] at h5
        obtain ⟨q,q1,q2⟩:=zrv hs h5
        exact ⟨q,fun v2 hv2=>by rw [hv] at hv2; cases hv2; exact ⟨q1,by simpa using q2⟩⟩
    have hget:∀ (k:Nat) r',(rows.mapIdx fun k r=>zdE (good k) r)[k]? = some r'→∃ r,rows[k]? = some r∧r'=zdE (good k) r:=by
      intro k r' h
      rw [List.getElem?_mapIdx] at h
      obtain ⟨r,h1,h2⟩:=Option.map_eq_some_iff.1 h
      exact ⟨r,h1,h2.symm⟩
    have hlen:(rows.mapIdx fun k r=>zdE (good k) r).length=rows.length:=by simp
    refine ⟨.arr ver true ipu T sz (rows.mapIdx fun k r=>zdE (good k) r),⟨_,rfl,hlen,fun k r r' h1 h2=>?_⟩,e1,e2,fun row hrow=>?_,xs,?_,fun k row j p v a b c=>?_⟩
    · obtain ⟨r2,g1,rfl⟩:=hget k r' h2
      rw [h1] at g1; cases g1
      refine ⟨zbM _ _,fun j p p' h3 h4=>?_⟩
      obtain ⟨p2,g2,rfl⟩:=zaE h4
      rw [h3] at g2; cases g2
      obtain ⟨v,hv⟩:=hxs k r j p h1 h3
      exact (zca (hex k r j p h1 h3) v hv).1
    · obtain ⟨k,hk,rfl⟩:=List.getElem_of_mem hrow
      obtain ⟨r,g1,g2⟩:=hget k _ (List.getElem?_eq_getElem hk)
      rw [g2,zbM]; exact e3 r (List.mem_of_getElem? g1)
    · rw [hlen]
      refine ⟨e4.1,?_⟩
      rcases e4.2 with g | ⟨g,cap,cur,g1,g2,g3,g4⟩
      · exact .inl g
      · exact .inr ⟨g,cap,cur,g1,g2,(hb g (by show (C.sv id).ownBlock=some g; rw [g1]; rfl)).trans g3,g4⟩
    · obtain ⟨r,g1,rfl⟩:=hget k row a
      obtain ⟨p0,g2,rfl⟩:=zaE b
      exact ⟨(e5 k r j p0 v g1 g2 c).1,(zca (hex k r j p0 g1 g2) v c).2⟩
theorem zhg {id:Nat} {ob ob':AObj} (h:zf6 ob ob') (b o:Nat):ob'.free C id b o↔ob.free C id b o:=by
 cases ob with
 | gone=>have h:ob'=_:=h; subst h; exact Iff.rfl
 | box cs=>obtain ⟨cs',rfl,-,-⟩:=h; exact Iff.rfl
 | arr v st ipu T sz rows=>obtain ⟨rows',rfl,h1,-⟩:=h; simp only [AObj.free,h1]
theorem zcB {id:Nat} {ob ob':AObj} (h:zf6 ob ob') (b:Nat):ob'.holds C id b↔ob.holds C id b:=by
 cases ob with
 | gone=>have h:ob'=_:=h; subst h; exact Iff.rfl
 | box cs=>obtain ⟨cs',rfl,-,-⟩:=h; exact Iff.rfl
 | arr v st ipu T sz rows=>obtain ⟨rows',rfl,h1,-⟩:=h; exact Iff.rfl
theorem HR.soil (hr : HR x C H w) (hs : Soil R w w') (hR : ∀ b o, R b o → zA x C H w b o) (hst : ∀ (id : Nat) v st ipu T sz rows, H[id]? = some (.arr v st ipu T sz rows) → st = true) (hS0 : ∀ b o, ¬ x.S0 b o) (hod : ∀ b o, C.old b o → ¬ R b o) :
    ∃ H':List AObj,H'.length=H.length∧(∀ (id:Nat) ob ob',H[id]? = some ob→H'[id]? = some ob'→zf6 ob ob')∧HR x C H' w'∧zA x C H' w'=zA x C H w:=by
  have ho:∀ b o,C.old b o→w'.cell? ⟨b,o,none⟩=w.cell? ⟨b,o,none⟩:=fun b o h=>hs.keep b o (hod b o h)
  have hex:∀ (id:Nat) ob,H[id]? = some ob→∃ ob',zf6 ob ob'∧zlV (zA x C H w) w' C id ob':=fun id ob h=>zst hr hs hR ho h fun v st ipu T sz rows e=>hst id v st ipu T sz rows (e ▸ h)
  have hpick:∃ H':List AObj,H'.length=H.length∧∀ (id:Nat) ob ob',H[id]? = some ob→H'[id]? = some ob'→zf6 ob ob'∧zlV (zA x C H w) w' C id ob':=by
    have key:∀ (H1:List AObj) (k:Nat),(∀ (i:Nat) ob,H1[i]? = some ob→∃ ob',zf6 ob ob'∧zlV (zA x C H w) w' C (k + i) ob')→∃ H':List AObj,H'.length=H1.length∧∀ (i:Nat) ob ob',H1[i]? = some ob→H'[i]? = some ob'→zf6 ob ob'∧zlV (zA x C H w) w' C (k + i) ob':=by
      intro H1
      induction H1 with
      | nil=>intro k _; exact ⟨[],rfl,fun i ob ob' h=>by simp at h⟩
      | cons a l ih =>
        intro k h
        obtain ⟨a',g1,g2⟩:=h 0 a rfl
        obtain ⟨l',g3,g4⟩:=ih (k + 1) fun i ob hi=>by
          have:=h (i + 1) ob (by simpa using hi)
          rwa [show k + (i + 1)=k + 1 + i by omega] at this
        refine ⟨a' :: l',by simp [g3],fun i ob ob' h1 h2=>?_⟩
        cases i with
        | zero=>simp at h1 h2; subst h1; subst h2; exact ⟨g1,g2⟩
        | succ i =>
          have:=g4 i ob ob' (by simpa using h1) (by simpa using h2)
          rwa [show k + (i + 1)=k + 1 + i by omega]
    obtain ⟨H',h1,h2⟩:=key H 0 fun i ob h=>by rw [Nat.zero_add]; exact hex i ob h
    exact ⟨H',h1,fun i ob ob' a b=>by have:=h2 i ob ob' a b; rwa [Nat.zero_add] at this⟩
  obtain ⟨H',hlen,hall⟩:=hpick
  have hback:∀ (id:Nat) ob',H'[id]? = some ob'→∃ ob,H[id]? = some ob:=fun id ob' h=>by
    have:=(List.getElem?_eq_some_iff.1 h).1
    exact ⟨_,List.getElem?_eq_getElem (by omega:id < H.length)⟩
  have hforth:∀ (id:Nat) ob,H[id]? = some ob→∃ ob',H'[id]? = some ob':=fun id ob h=>by
    have:=(List.getElem?_eq_some_iff.1 h).1
    exact ⟨_,List.getElem?_eq_getElem (by omega:id < H'.length)⟩
  have hfree:∀ b o,zj9 C H' b o↔zj9 C H b o:=fun b o=>by
    constructor
    · intro h id ob hid
      obtain ⟨ob',h'⟩:=hforth id ob hid
      exact (zhg (hall id ob ob' hid h').1 b o).1 (h id ob' h')
    · intro h id ob' h'
      obtain ⟨ob,hid⟩:=hback id ob' h'
      exact (zhg (hall id ob ob' hid h').1 b o).2 (h id ob hid)
  have hStab:zA x C H' w'=zA x C H w:=by
    funext b o
    simp only [zA,hs.size,hfree,hs.frz]
  refine ⟨H',hlen,fun id ob ob' a b=>(hall id ob ob' a b).1,⟨by rw [hlen]; exact hr.n,fun id ob' h'=>?_,fun id id' ob1 ob2 b h1 h2 h3 h4=>?_,fun id ob' b h1 h2=>?_,fun b o h=>(hS0 b o h).elim,by rw [hs.size]; exact hr.size,hs.os.trans hr.os,hs.tape.trans hr.tape,hs.output.trans hr.output,fun b hb h=>?_,by rw [hlen]; exact hr.len,hr.ids,hr.vers,fun b o h=>?_,hr.old0,fun b hb h=>(hs.frz b).2 (hr.unf b hb h)⟩,hStab⟩
  · obtain ⟨ob,hid⟩:=hback id ob' h'
    rw [hStab]
    exact (hall id ob ob' hid h').2
  · obtain ⟨q1,hi1⟩:=hback id ob1 h1
    obtain ⟨q2,hi2⟩:=hback id' ob2 h2
    exact hr.apart id id' q1 q2 b hi1 hi2 ((zcB (hall id q1 ob1 hi1 h1).1 b).1 h3) ((zcB (hall id' q2 ob2 hi2 h2).1 b).1 h4)
  · obtain ⟨q1,hi1⟩:=hback id ob' h1
    exact hr.mine id q1 b hi1 ((zcB (hall id q1 ob' hi1 h1).1 b).1 h2)
  · refine (hs.blk b fun o ho=>?_).trans (hr.frame b hb h)
    rcases (hR b o ho).1 with q | ⟨q | ⟨i,ob0,q1,q2⟩,-⟩
    · exact hS0 b o q
    · omega
    · exact h i ob0 q1 q2
  · obtain ⟨h1,h2,h3⟩:=hr.old b o h
    refine ⟨by rw [hs.size]; exact h1,fun id ob' hid hb=>?_,h3⟩
    obtain ⟨q1,hi1⟩:=hback id ob' hid
    exact h2 id q1 hi1 ((zcB (hall id q1 ob' hi1 hid).1 b).1 hb)
theorem HR.old_apart (hr:HR x C H w) (hS0:∀ b o,¬ x.S0 b o) {b o:Nat} (h:C.old b o):¬ zA x C H w b o:=by
 obtain ⟨-,-,-,h1,h2⟩:=hr.old b o h
 rintro ⟨q | ⟨q | ⟨i,ob0,q1,q2⟩,-⟩,-⟩
 ·
  exact hS0 b o q
 ·
  omega
 ·
  exact h2 i ob0 q1 q2
def znT (st st':St):Prop:=st'.heap.length=st.heap.length∧(∀ (id:Nat) ob ob',st.heap[id]? = some ob→st'.heap[id]? = some ob'→zf6 ob ob')∧∀ t,zao (st.env t) (st'.env t)
theorem Rel.soil {nt : Nat} {st : St} {a : Act} {C : Conc} (hr : HR x C st.heap w) (he : ∀ t, RepV (zA x C st.heap w) w C (st.env t) (a.tmps.getD t Go.undef)) (hdf : a.defers = []) (hsz : a.tmps.size = nt) (hs : Soil R w w') (hR : ∀ b o, R b o → zA x C st.heap w b o)
    (hst:∀ (id:Nat) v sto ipu T sz rows,st.heap[id]? = some (.arr v sto ipu T sz rows)→sto=true) (hS0:∀ b o,¬ x.S0 b o) (hod:∀ b o,C.old b o→¬ R b o):∃ st',znT st st'∧Rel x nt st' a w':=by
  obtain ⟨H',h1,h2,h3,h4⟩:=hr.soil hs hR hst hS0 hod
  have hex:∀ t,∃ q,zao (st.env t) q∧RepV (zA x C H' w') w' C q (a.tmps.getD t Go.undef):=fun t=>by
    obtain ⟨q,q1,q2⟩:=znS hs (fun b o h=>hs.keep b o (hod b o h)) (he t)
    exact ⟨q,q1,by rw [h4]; exact q2⟩
  exact ⟨⟨fun t=>Classical.choose (hex t),H'⟩,⟨h1,h2,fun t=>(Classical.choose_spec (hex t)).1⟩,⟨⟨C,h3,fun t=>(Classical.choose_spec (hex t)).2⟩,hdf,hsz⟩⟩
end
def LOper.q (d:Nat) (o:LOp):LOper:=⟨some d,o,none,true⟩
def LOper.z (d:Nat) (o:LOp):LOper:=⟨some d,o,none,false⟩
def LOper.s (o:LOp):LOper:=⟨none,o,none,true⟩
def LOper.g (d:Nat) (o:LOp) (t:Nat) (b:Bool):LOper:=⟨some d,o,some (t,b),true⟩
def LOper.y (d:Nat) (o:LOp) (t:Nat) (b:Bool):LOper:=⟨some d,o,some (t,b),false⟩
attribute [go_sem] LOper.q LOper.z LOper.s LOper.g LOper.y eq_self
def LOper.m (d t : Nat) : LOper := ⟨some d, .mv (.tmp t), none, true⟩
def LOper.a (d o t : Nat) : LOper := ⟨some d, .addr o (.tmp t), none, true⟩
def LOper.l (d n t : Nat) : LOper := ⟨some d, .load n false (.tmp t), none, true⟩
def LOper.k (d n t : Nat) : LOper := ⟨some d, .load n true (.tmp t), none, true⟩
def LOper.e (d n t : Nat) : LOper := ⟨some d, .ext n (.tmp t), none, true⟩
def LOper.n (d t : Nat) : LOper := ⟨some d, .len false (.tmp t), none, true⟩
def LOper.i (d n t u : Nat) : LOper := ⟨some d, .iaddrS n (.tmp t) (.tmp u), none, true⟩
def LOper.b (d : Nat) (o : BinOp) (t u : Nat) : LOper := ⟨some d, .bin o (.tmp t) (.tmp u), none, true⟩
def PV.w (n : Int) : PV := .int .i64 n
def LOpd.t (n : Nat) : LOpd := .tmp n
attribute [go_sem] LOper.m LOper.a LOper.l LOper.k LOper.e LOper.n LOper.i LOper.b PV.w LOpd.t
def L3:LC:=(.seq (.reg none [.q 3 (.box (.t 0)),.q 4 (.box (.t 1)),.q 5 (.box (.t 2)),.q 6 (.mv (.val (.bool false)))]) (.seq (.seq (.reg none [.q 32 (.call 5 [] 0),.q 33 (.not (.t 32)),.m 34 33,.g 35 (.call 6 [] 0) 34 false,.g 36 (.not (.t 35)) 34 false,.q 37 (.pick (.t 34) (.val (.bool true)) (.t 36)),.m 38 37,.g 39 (.call 7 [] 0) 38 false,.g 40 (.not (.t 39)) 38 false,.q 41 (.pick (.t 38) (.val (.bool true)) (.t 40))]) (.cond (.t 41) (.seq (.reg none [.q 6 (.mv (.val (.bool false)))]) .ret) .skip)) (.seq (.reg none [.q 7 (.alloc [.nilsl,.nilsl])]) (.seq (.seq (.reg none [.q 8 (.mv (.val (.w 0)))]) (.block 0 (.loop (.seq (.seq (.reg none [.m 42 8,.a 43 0 3,.l 44 1 43,.n 45 44,.b 46 .lss 42 45]) (.cond (.t 46) .skip (.exit 0))) (.seq (.block 1 (.reg (some []) [.z 49 (.addr 0 (.t 7)),.z 50 (.load 1 false (.t 49)),.z 51 (.addr 0 (.t 3)),.z 52 (.load 1 false (.t 51)),.m 53 8,.z 54 (.iaddrS 3 (.t 52) (.t 53)),.z 55 (.addr 0 (.t 54)),.z 56 (.load 1 false (.t 55)),.z 57 (.addr 0 (.t 3)),.z 58 (.load 1 false (.t 57)),.m 59 8,.z 60 (.iaddrS 3 (.t 58) (.t 59)),.z 61 (.addr 1 (.t 60)),.z 62 (.load 1 false (.t 61)),.z 63 (.call 8 [.t 62] 0),.z 64 (.addr 0 (.t 3)),.z 65 (.load 1 false (.t 64)),.m 66 8,.z 67 (.iaddrS 3 (.t 65) (.t 66)),.z 68 (.addr 2 (.t 67)),.z 69 (.load 1 false (.t 68)),.z 70 (.call 8 [.t 69] 0),.q 71 (.build [.int .i64 0,.nilsl,.nilsl] [(0,(1,(.t 56))),(1,(1,(.t 63))),(2,(1,(.t 70)))]),.q 72 (.mks 3 [.int .i64 0,.nilsl,.nilsl] 1 [(0,(.t 71))]),.q 73 (.append 36 3 56 (.t 50) (.t 72)),.a 74 0 7,.s (.store 1 (.t 74) (.t 73))])) (.reg none [.m 47 8,.q 48 (.bin .add (.t 47) (.val (.w 1))),.m 8 48])))))) (.seq (.seq (.reg none [.q 9 (.mv (.val (.w 0)))]) (.block 2 (.loop (.seq (.seq (.reg none [.m 75 9,.a 76 1 3,.l 77 1 76,.n 78 77,.b 79 .lss 75 78]) (.cond (.t 79) .skip (.exit 2))) (.seq (.block 3 (.reg (some []) [.z 82 (.addr 1 (.t 7)),.z 83 (.load 1 false (.t 82)),.z 84 (.addr 1 (.t 3)),.z 85 (.load 1 false (.t 84)),.m 86 9,.z 87 (.iaddrS 1 (.t 85) (.t 86)),.z 88 (.load 1 false (.t 87)),.z 89 (.call 8 [.t 88] 0),.q 90 (.mks 1 [.nilsl] 1 [(0,(.t 89))]),.q 91 (.append 34 1 24 (.t 83) (.t 90)),.a 92 1 7,.s (.store 1 (.t 92) (.t 91))])) (.reg none [.m 80 9,.q 81 (.bin .add (.t 80) (.val (.w 1))),.m 9 81])))))) (.seq (.reg none [.k 93 5 5,.q 94 (.mks 5 [.int .i64 0,.int .i64 0,.int .i64 0,.str ⟨#[]⟩,.nilsl] 1 [(0,(.t 93))]),.q 95 (.call 8 [.t 94] 0),.q 96 (.iaddrS 5 (.t 95) (.val (.w 0))),.k 97 5 96,.q 10 (.alloc [.int .i64 0,.int .i64 0,.int .i64 0,.str ⟨#[]⟩,.nilsl]),.s (.store 5 (.t 10) (.t 97))]) (.seq (.reg none [.k 98 2 3,.q 99 (.call 9 [.t 98] 0),.m 11 99]) (.seq (.reg none [.q 12 (.alloc [.nilsl,.nilsl])]) (.seq (.seq (.reg none [.m 100 11,.q 101 (.bin .eql (.t 100) (.val (.w 0)))]) (.cond (.t 101) (.reg none [.k 103 2 3,.k 104 5 4,.q 105 (.call 10 [.t 103,.t 104] 0),.m 102 105,.e 106 0 102,.e 107 1 102,.s (.store 2 (.t 12) (.t 106)),.m 11 107]) .skip)) (.seq (.seq (.reg none [.q 13 (.mv (.val (.w 0)))]) (.block 4 (.loop (.seq (.seq (.reg none [.m 108 13,.q 109 (.bin .lss (.t 108) (.val (.w 2)))]) (.cond (.t 109) .skip (.exit 4))) (.seq (.block 5 (.seq (.reg none [.k 113 2 7,.k 114 5 4,.q 115 (.call 11 [.t 113,.t 114] 0),.m 112 115,.e 116 0 112,.e 117 1 112,.q 14 (.alloc [.nilsl,.nilsl]),.s (.store 2 (.t 14) (.t 116)),.m 15 117]) (.seq (.seq (.reg none [.k 118 2 14,.m 119 15,.m 120 11,.k 121 2 12,.q 122 (.call 12 [.t 118,.t 119,.t 120,.t 121] 0),.q 123 (.not (.t 122))]) (.cond (.t 123) (.seq (.reg none [.q 6 (.mv (.val (.bool false)))]) .ret) .skip)) (.seq (.reg none [.k 125 2 7,.q 126 (.call 13 [.t 125] 0),.m 124 126,.e 127 0 124,.e 128 1 124,.q 16 (.alloc [.nilsl,.nilsl]),.s (.store 2 (.t 16) (.t 127)),.m 17 128]) (.seq (.reg none [.k 130 5 4,.q 131 (.mks 5 [.int .i64 0,.int .i64 0,.int .i64 0,.int .i64 0,.str ⟨#[]⟩] 1 [(0,(.t 130))]),.q 132 (.call 14 [.t 131] 0),.m 129 132,.e 133 0 129,.e 134 1 129,.e 135 2 129,.q 18 (.alloc [.nilsl,.nilsl]),.s (.store 2 (.t 18) (.t 133)),.m 19 134,.m 20 135]) (.seq (.reg none [.k 136 2 14,.k 137 2 16,.k 138 2 18,.q 139 (.mks 2 [.nilsl,.nilsl] 3 [(0,(.t 136)),(1,(.t 137)),(2,(.t 138))]),.m 21 139]) (.seq (.reg none [.q 22 (.mv (.val .nilsl))]) (.seq (.seq (.reg none [.q 23 (.mv (.val (.w 0)))]) (.block 6 (.loop (.seq (.seq (.reg none [.m 140 23,.a 141 0 7,.l 142 1 141,.n 143 142,.b 144 .lss 140 143]) (.cond (.t 144) .skip (.exit 6))) (.seq (.block 7 (.seq (.reg (some [(0,10),(1,10),(3,10),(4,10),(5,10),(6,10)]) [.z 148 (.addr 0 (.t 7)),.z 149 (.load 1 false (.t 148)),.m 150 23,.z 151 (.iaddrS 3 (.t 149) (.t 150)),.z 152 (.load 3 true (.t 151)),.z 153 (.load 5 true (.t 10)),.z 154 (.call 15 [.t 152,.t 153] 0),.m 147 154,.e 155 0 147,.e 156 1 147,.z 24 (.alloc [.int .i64 0,.nilsl,.nilsl]),.s (.store 3 (.t 24) (.t 155)),.m 25 156]) (.seq (.reg none [.a 158 0 7,.l 159 1 158,.m 160 23,.i 161 3 159 160,.k 162 3 161,.q 163 (.call 16 [.t 162,.val (.w 7),.val (.str ⟨#[116]⟩)] 0),.m 157 163,.e 164 0 157,.e 165 1 157,.e 166 2 157,.q 26 (.alloc [.int .i64 0,.nilsl,.nilsl]),.q 27 (.alloc [.int .i64 0,.int .i64 0,.int .i64 0,.str ⟨#[]⟩,.nilsl]),.s (.store 3 (.t 26) (.t 164)),.s (.store 5 (.t 27) (.t 165)),.m 28 166]) (.seq (.reg none [.k 167 5 27,.q 168 (.mks 5 [.int .i64 0,.int .i64 0,.int .i64 0,.str ⟨#[]⟩,.nilsl] 1 [(0,(.t 167))]),.q 169 (.call 17 [.t 168] 0)]) (.reg none [.m 170 22,.k 171 3 24,.k 172 3 26,.q 173 (.mks 3 [.int .i64 0,.nilsl,.nilsl] 2 [(0,(.t 171)),(1,(.t 172))]),.q 174 (.append 36 3 56 (.t 170) (.t 173)),.m 22 174]))))) (.reg none [.m 145 23,.q 146 (.bin .add (.t 145) (.val (.w 1))),.m 23 146])))))) (.seq (.seq (.reg none [.k 175 2 7,.k 176 2 3,.q 177 (.call 18 [.t 175,.t 176] 0),.q 178 (.not (.t 177)),.m 179 178,.g 180 (.load 5 true (.t 10)) 179 false,.g 181 (.load 5 true (.t 5)) 179 false,.g 182 (.call 19 [.t 180,.t 181] 0) 179 false,.g 183 (.not (.t 182)) 179 false,.q 184 (.pick (.t 179) (.val (.bool true)) (.t 183))]) (.cond (.t 184) (.seq (.reg none [.q 6 (.mv (.val (.bool false)))]) .ret) .skip)) (.seq (.seq (.reg none [.q 29 (.mv (.val (.w 0)))]) (.block 8 (.loop (.seq (.seq (.reg none [.m 185 29,.m 186 21,.n 187 186,.b 188 .lss 185 187]) (.cond (.t 188) .skip (.exit 8))) (.seq (.block 9 (.seq (.reg none [.m 191 22,.m 192 21,.m 193 29,.i 194 2 192 193,.a 195 0 194,.l 196 1 195,.q 197 (.append 36 3 56 (.t 191) (.t 196)),.m 22 197]) (.seq (.reg none [.q 30 (.mv (.val (.w 0)))]) (.block 10 (.loop (.seq (.seq (.reg none [.m 198 30,.m 199 21,.m 200 29,.i 201 2 199 200,.a 202 1 201,.l 203 1 202,.n 204 203,.b 205 .lss 198 204]) (.cond (.t 205) .skip (.exit 10))) (.seq (.block 11 (.reg none [.m 208 21,.m 209 29,.i 210 2 208 209,.a 211 1 210,.l 212 1 211,.m 213 30,.i 214 1 212 213,.l 215 1 214,.q 216 (.call 17 [.t 215] 0)])) (.reg none [.m 206 30,.q 207 (.bin .add (.t 206) (.val (.w 1))),.m 30 207])))))))) (.reg none [.m 189 29,.q 190 (.bin .add (.t 189) (.val (.w 1))),.m 29 190])))))) (.seq (.reg none [.q 31 (.mv (.val (.w 0)))]) (.block 12 (.loop (.seq (.seq (.reg none [.m 217 31,.m 218 22,.n 219 218,.b 220 .lss 217 219]) (.cond (.t 220) .skip (.exit 12))) (.seq (.block 13 (.seq (.reg none [.m 223 22,.m 224 31,.i 225 3 223 224,.a 226 1 225,.l 227 1 226,.q 228 (.call 17 [.t 227] 0)]) (.reg none [.m 229 22,.m 230 31,.i 231 3 229 230,.a 232 2 231,.l 233 1 232,.q 234 (.call 17 [.t 233] 0)]))) (.reg none [.m 221 31,.q 222 (.bin .add (.t 221) (.val (.w 1))),.m 31 222])))))))))))))))) (.reg none [.m 110 13,.q 111 (.bin .add (.t 110) (.val (.w 1))),.m 13 111])))))) (.seq (.reg none [.q 6 (.mv (.val (.bool true)))]) .ret)))))))))))
def R3:List LRes := [.tmp 6]
theorem zAo:Tryz.f3.body.bind (zh Tryz.prog 235)=some L3:=by kernel_rfl
theorem zAp:zj Tryz.prog Tryz.f3.results.toList=some R3:=by kernel_rfl
def L5:LC:=(.seq (.reg none [.q 0 (.mv (.val (.bool false)))]) (.seq (.reg none [.q 7 (.call 50 [] 0),.q 1 (.alloc [.nilsl,.nilsl]),.s (.store 2 (.t 1) (.t 7))]) (.seq (.seq (.reg none [.q 2 (.mv (.val (.w 0)))]) (.block 0 (.loop (.seq (.seq (.reg none [.m 8 2,.q 9 (.call 51 [] 0),.n 10 9,.b 11 .lss 8 10]) (.cond (.t 11) .skip (.exit 0))) (.seq (.block 1 (.seq (.reg (some [(0,9),(1,9),(3,9),(4,9),(5,9)]) [.z 15 (.load 2 true (.t 1)),.z 16 (.call 51 [] 0),.m 17 2,.z 18 (.iaddrS 5 (.t 16) (.t 17)),.z 19 (.load 5 true (.t 18)),.z 20 (.call 11 [.t 15,.t 19] 0),.m 14 20,.e 21 0 14,.e 22 1 14,.z 3 (.alloc [.nilsl,.nilsl]),.s (.store 2 (.t 3) (.t 21)),.m 4 22]) (.seq (.seq (.reg none [.m 23 4,.q 24 (.bin .neq (.t 23) (.val (.w 0)))]) (.cond (.t 24) (.seq (.reg none [.q 0 (.mv (.val (.bool false)))]) .ret) .skip)) (.reg none [.k 25 2 3,.s (.store 2 (.t 1) (.t 25))])))) (.reg none [.m 12 2,.q 13 (.bin .add (.t 12) (.val (.w 1))),.m 2 13])))))) (.seq (.reg none [.k 27 2 1,.q 28 (.call 13 [.t 27] 0),.m 26 28,.e 29 0 26,.e 30 1 26,.q 5 (.alloc [.nilsl,.nilsl]),.s (.store 2 (.t 5) (.t 29)),.m 6 30]) (.seq (.reg none [.m 31 6,.q 32 (.bin .eql (.t 31) (.val (.w 0))),.m 33 32,.g 34 (.load 2 true (.t 1)) 33 true,.g 35 (.call 52 [.t 34] 0) 33 true,.g 36 (.bin .eql (.t 35) (.val (.w 0))) 33 true,.q 37 (.pick (.t 33) (.t 36) (.val (.bool false))),.m 38 37,.g 39 (.addr 0 (.t 1)) 38 true,.g 40 (.load 1 false (.t 39)) 38 true,.g 41 (.len false (.t 40)) 38 true,.g 42 (.bin .eql (.t 41) (.val (.w 2))) 38 true,.q 43 (.pick (.t 38) (.t 42) (.val (.bool false))),.m 44 43,.g 45 (.addr 0 (.t 5)) 44 true,.g 46 (.load 1 false (.t 45)) 44 true,.g 47 (.len false (.t 46)) 44 true,.g 48 (.bin .eql (.t 47) (.val (.w 2))) 44 true,.q 49 (.pick (.t 44) (.t 48) (.val (.bool false))),.m 50 49,.g 51 (.addr 0 (.t 1)) 50 true,.g 52 (.load 1 false (.t 51)) 50 true,.g 53 (.iaddrS 3 (.t 52) (.val (.w 0))) 50 true,.g 54 (.addr 1 (.t 53)) 50 true,.g 55 (.load 1 false (.t 54)) 50 true,.g 56 (.len false (.t 55)) 50 true,.g 57 (.bin .eql (.t 56) (.val (.w 1))) 50 true,.q 58 (.pick (.t 50) (.t 57) (.val (.bool false))),.m 59 58,.g 60 (.addr 0 (.t 1)) 59 true,.g 61 (.load 1 false (.t 60)) 59 true,.g 62 (.iaddrS 3 (.t 61) (.val (.w 0))) 59 true,.g 63 (.addr 2 (.t 62)) 59 true,.g 64 (.load 1 false (.t 63)) 59 true,.g 65 (.len false (.t 64)) 59 true,.g 66 (.bin .eql (.t 65) (.val (.w 1))) 59 true,.q 67 (.pick (.t 59) (.t 66) (.val (.bool false))),.m 68 67,.g 69 (.addr 0 (.t 5)) 68 true,.g 70 (.load 1 false (.t 69)) 68 true,.g 71 (.iaddrS 3 (.t 70) (.val (.w 0))) 68 true,.g 72 (.addr 1 (.t 71)) 68 true,.g 73 (.load 1 false (.t 72)) 68 true,.g 74 (.len false (.t 73)) 68 true,.g 75 (.bin .eql (.t 74) (.val (.w 3))) 68 true,.q 76 (.pick (.t 68) (.t 75) (.val (.bool false))),.m 77 76,.g 78 (.addr 0 (.t 5)) 77 true,.g 79 (.load 1 false (.t 78)) 77 true,.g 80 (.iaddrS 3 (.t 79) (.val (.w 1))) 77 true,.g 81 (.addr 1 (.t 80)) 77 true,.g 82 (.load 1 false (.t 81)) 77 true,.g 83 (.len false (.t 82)) 77 true,.g 84 (.bin .eql (.t 83) (.val (.w 3))) 77 true,.q 85 (.pick (.t 77) (.t 84) (.val (.bool false))),.m 0 85]) .ret)))))
def R5:List LRes := [.tmp 0]
theorem zAq:Tryz.f5.body.bind (zh Tryz.prog 86)=some L5:=by kernel_rfl
theorem zAr:zj Tryz.prog Tryz.f5.results.toList=some R5:=by kernel_rfl
def L6:LC:=(.seq (.reg none [.q 0 (.mv (.val (.bool false)))]) (.seq (.reg none [.q 14 (.call 53 [.val (.w 1)] 0),.m 13 14,.e 15 0 13,.e 16 1 13,.q 1 (.alloc [.int .i64 0,.nilsl,.nilsl]),.s (.store 3 (.t 1) (.t 15)),.m 2 16]) (.seq (.reg (some [(0,8),(1,8),(2,8),(3,8),(4,8)]) [.z 18 (.load 3 true (.t 1)),.z 19 (.call 43 [] 0),.z 20 (.iaddrS 5 (.t 19) (.val (.w 2))),.z 21 (.load 5 true (.t 20)),.z 22 (.call 15 [.t 18,.t 21] 0),.m 17 22,.e 23 0 17,.e 24 1 17,.z 3 (.alloc [.int .i64 0,.nilsl,.nilsl]),.s (.store 3 (.t 3) (.t 23)),.m 4 24]) (.seq (.reg (some [(0,8),(1,8),(2,8),(3,8),(4,8)]) [.z 26 (.load 3 true (.t 3)),.z 27 (.call 43 [] 0),.z 28 (.iaddrS 5 (.t 27) (.val (.w 0))),.z 29 (.load 5 true (.t 28)),.z 30 (.call 15 [.t 26,.t 29] 0),.m 25 30,.e 31 0 25,.e 32 1 25,.z 5 (.alloc [.int .i64 0,.nilsl,.nilsl]),.s (.store 3 (.t 5) (.t 31)),.m 6 32]) (.seq (.reg none [.k 34 3 5,.q 35 (.call 16 [.t 34,.val (.w 4),.val (.str ⟨#[116]⟩)] 0),.m 33 35,.e 36 0 33,.e 37 1 33,.e 38 2 33,.q 7 (.alloc [.int .i64 0,.nilsl,.nilsl]),.q 8 (.alloc [.int .i64 0,.int .i64 0,.int .i64 0,.str ⟨#[]⟩,.nilsl]),.s (.store 3 (.t 7) (.t 36)),.s (.store 5 (.t 8) (.t 37)),.m 9 38]) (.seq (.reg none [.k 40 3 7,.q 41 (.call 16 [.t 40,.val (.w 1),.val (.str ⟨#[117]⟩)] 0),.m 39 41,.e 42 0 39,.e 43 1 39,.e 44 2 39,.q 10 (.alloc [.int .i64 0,.nilsl,.nilsl]),.q 11 (.alloc [.int .i64 0,.int .i64 0,.int .i64 0,.str ⟨#[]⟩,.nilsl]),.s (.store 3 (.t 10) (.t 42)),.s (.store 5 (.t 11) (.t 43)),.m 12 44]) (.seq (.reg (some []) [.m 45 2,.q 46 (.bin .eql (.t 45) (.val (.w 0))),.m 47 46,.g 48 (.mv (.t 4)) 47 true,.g 49 (.bin .eql (.t 48) (.val (.w 0))) 47 true,.q 50 (.pick (.t 47) (.t 49) (.val (.bool false))),.m 51 50,.g 52 (.mv (.t 6)) 51 true,.g 53 (.bin .eql (.t 52) (.val (.w 0))) 51 true,.q 54 (.pick (.t 51) (.t 53) (.val (.bool false))),.m 55 54,.g 56 (.mv (.t 9)) 55 true,.g 57 (.bin .eql (.t 56) (.val (.w 0))) 55 true,.q 58 (.pick (.t 55) (.t 57) (.val (.bool false))),.m 59 58,.g 60 (.mv (.t 12)) 59 true,.g 61 (.bin .eql (.t 60) (.val (.w 0))) 59 true,.q 62 (.pick (.t 59) (.t 61) (.val (.bool false))),.m 63 62,.g 64 (.load 3 true (.t 10)) 63 true,.g 65 (.call 54 [.t 64] 0) 63 true,.g 66 (.bin .eql (.t 65) (.val (.w 0))) 63 true,.q 67 (.pick (.t 63) (.t 66) (.val (.bool false))),.m 68 67,.g 69 (.addr 1 (.t 3)) 68 true,.g 70 (.load 1 false (.t 69)) 68 true,.g 71 (.len false (.t 70)) 68 true,.g 72 (.bin .eql (.t 71) (.val (.w 0))) 68 true,.q 73 (.pick (.t 68) (.t 72) (.val (.bool false))),.m 74 73,.g 75 (.addr 2 (.t 3)) 74 true,.g 76 (.load 1 false (.t 75)) 74 true,.g 77 (.len false (.t 76)) 74 true,.g 78 (.bin .eql (.t 77) (.val (.w 1))) 74 true,.q 79 (.pick (.t 74) (.t 78) (.val (.bool false))),.m 80 79,.g 81 (.addr 1 (.t 5)) 80 true,.g 82 (.load 1 false (.t 81)) 80 true,.g 83 (.len false (.t 82)) 80 true,.g 84 (.bin .eql (.t 83) (.val (.w 2))) 80 true,.q 85 (.pick (.t 80) (.t 84) (.val (.bool false))),.m 86 85,.g 87 (.addr 2 (.t 5)) 86 true,.g 88 (.load 1 false (.t 87)) 86 true,.g 89 (.len false (.t 88)) 86 true,.g 90 (.bin .eql (.t 89) (.val (.w 0))) 86 true,.q 91 (.pick (.t 86) (.t 90) (.val (.bool false))),.m 92 91,.g 93 (.addr 4 (.t 8)) 92 true,.g 94 (.load 1 false (.t 93)) 92 true,.g 95 (.len false (.t 94)) 92 true,.g 96 (.bin .eql (.t 95) (.val (.w 0))) 92 true,.q 97 (.pick (.t 92) (.t 96) (.val (.bool false))),.m 98 97,.y 99 (.addr 4 (.t 11)) 98 true,.y 100 (.load 1 false (.t 99)) 98 true,.y 101 (.call 34 [.val (.w 0),.val (.w 2)] 0) 98 true,.g 102 (.mks 2 [.int .i64 0,.int .i64 0] 1 [(0,(.t 101))]) 98 true,.g 103 (.call 46 [.t 100,.t 102] 0) 98 true,.q 104 (.pick (.t 98) (.t 103) (.val (.bool false))),.m 105 104,.y 106 (.addr 0 (.t 11)) 105 true,.y 107 (.load 2 true (.t 106)) 105 true,.y 108 (.call 34 [.val (.w 1),.val (.w 2)] 0) 105 true,.g 109 (.eqag false [.i,.i] (.t 107) (.t 108)) 105 true,.q 110 (.pick (.t 105) (.t 109) (.val (.bool false))),.m 0 110]) .ret)))))))
def R6:List LRes := [.tmp 0]
theorem zAs:Tryz.f6.body.bind (zh Tryz.prog 111)=some L6:=by kernel_rfl
theorem zAt:zj Tryz.prog Tryz.f6.results.toList=some R6:=by kernel_rfl
def L7:LC:=(.seq (.reg none [.q 0 (.mv (.val (.bool false)))]) (.seq (.reg none [.q 13 (.call 51 [] 0),.q 14 (.call 14 [.t 13] 0),.m 12 14,.e 15 0 12,.e 16 1 12,.e 17 2 12,.q 1 (.alloc [.nilsl,.nilsl]),.s (.store 2 (.t 1) (.t 15)),.m 2 16,.m 3 17]) (.seq (.reg none [.q 19 (.call 43 [] 0),.q 20 (.call 55 [.t 19,.val (.w 3)] 0),.m 18 20,.e 21 0 18,.e 22 1 18,.m 4 21,.m 5 22]) (.seq (.reg none [.k 24 2 1,.q 25 (.call 56 [.t 24,.val (.w 1)] 0),.m 23 25,.e 26 0 23,.e 27 1 23,.m 6 26,.m 7 27]) (.seq (.reg none [.k 29 2 1,.q 30 (.call 13 [.t 29] 0),.m 28 30,.e 31 0 28,.e 32 1 28,.q 8 (.alloc [.nilsl,.nilsl]),.s (.store 2 (.t 8) (.t 31)),.m 9 32]) (.seq (.reg none [.k 34 2 8,.q 35 (.call 56 [.t 34,.val (.w 1)] 0),.m 33 35,.e 36 0 33,.e 37 1 33,.m 10 36,.m 11 37]) (.seq (.reg none [.m 38 3,.q 39 (.bin .eql (.t 38) (.val (.w 0))),.m 40 39,.g 41 (.mv (.t 5)) 40 true,.g 42 (.bin .eql (.t 41) (.val (.w 0))) 40 true,.q 43 (.pick (.t 40) (.t 42) (.val (.bool false))),.m 44 43,.g 45 (.mv (.t 7)) 44 true,.g 46 (.bin .eql (.t 45) (.val (.w 0))) 44 true,.q 47 (.pick (.t 44) (.t 46) (.val (.bool false))),.m 48 47,.g 49 (.mv (.t 9)) 48 true,.g 50 (.bin .eql (.t 49) (.val (.w 0))) 48 true,.q 51 (.pick (.t 48) (.t 50) (.val (.bool false))),.m 52 51,.g 53 (.mv (.t 11)) 52 true,.g 54 (.bin .eql (.t 53) (.val (.w 0))) 52 true,.q 55 (.pick (.t 52) (.t 54) (.val (.bool false))),.m 56 55,.g 57 (.mv (.t 2)) 56 true,.g 58 (.len false (.t 57)) 56 true,.g 59 (.bin .eql (.t 58) (.val (.w 6))) 56 true,.q 60 (.pick (.t 56) (.t 59) (.val (.bool false))),.m 61 60,.g 62 (.mv (.t 4)) 61 true,.g 63 (.bin .eql (.t 62) (.val (.str ⟨#[97,61,121,59,98,61,122,59]⟩))) 61 true,.q 64 (.pick (.t 61) (.t 63) (.val (.bool false))),.m 65 64,.g 66 (.mv (.t 6)) 65 true,.g 67 (.not (.t 66)) 65 true,.q 68 (.pick (.t 65) (.t 67) (.val (.bool false))),.m 69 68,.g 70 (.mv (.t 10)) 69 true,.q 71 (.pick (.t 69) (.t 70) (.val (.bool false))),.m 0 71]) .ret)))))))
def R7:List LRes := [.tmp 0]
theorem zAu:Tryz.f7.body.bind (zh Tryz.prog 72)=some L7:=by kernel_rfl
theorem zAv:zj Tryz.prog Tryz.f7.results.toList=some R7:=by kernel_rfl
def L8:LC:=(.seq (.reg none [.q 2 (.mv (.val .nilsl))]) (.seq (.reg none [.q 3 (.mv (.val .nilsl))]) (.seq (.seq (.reg none [.q 4 (.mv (.val (.w 0)))]) (.block 0 (.loop (.seq (.seq (.reg none [.m 6 4,.m 7 0,.n 8 7,.b 9 .lss 6 8]) (.cond (.t 9) .skip (.exit 0))) (.seq (.block 1 (.seq (.reg none [.m 12 0,.m 13 4,.i 14 5 12 13,.k 15 5 14,.q 5 (.alloc [.int .i64 0,.int .i64 0,.int .i64 0,.str ⟨#[]⟩,.nilsl]),.s (.store 5 (.t 5) (.t 15))]) (.seq (.reg none [.q 16 (.mk0 29 2),.a 17 4 5,.l 18 1 17,.q 19 (.append 29 2 16 (.t 16) (.t 18)),.a 20 4 5,.s (.store 1 (.t 20) (.t 19))]) (.reg none [.m 21 3,.k 22 5 5,.q 23 (.mks 5 [.int .i64 0,.int .i64 0,.int .i64 0,.str ⟨#[]⟩,.nilsl] 1 [(0,(.t 22))]),.q 24 (.append 32 5 64 (.t 21) (.t 23)),.m 3 24])))) (.reg none [.m 10 4,.q 11 (.bin .add (.t 10) (.val (.w 1))),.m 4 11])))))) (.seq (.reg none [.m 25 3,.m 2 25]) .ret))))
def R8:List LRes := [.tmp 2]
theorem zAw:Tryz.f8.body.bind (zh Tryz.prog 26)=some L8:=by kernel_rfl
theorem zAx:zj Tryz.prog Tryz.f8.results.toList=some R8:=by kernel_rfl
def L9:LC:=(.seq (.reg none [.q 1 (.box (.t 0)),.q 2 (.mv (.val (.w 0)))]) (.seq (.seq (.reg none [.a 11 0 1,.l 12 1 11,.n 13 12,.q 14 (.bin .neq (.t 13) (.val (.w 2))),.m 15 14,.g 16 (.addr 1 (.t 1)) 15 false,.g 17 (.load 1 false (.t 16)) 15 false,.g 18 (.len false (.t 17)) 15 false,.g 19 (.bin .neq (.t 18) (.val (.w 2))) 15 false,.q 20 (.pick (.t 15) (.val (.bool true)) (.t 19))]) (.cond (.t 20) (.seq (.reg none [.q 2 (.mv (.val (.w 1)))]) .ret) .skip)) (.seq (.seq (.reg none [.q 3 (.mv (.val (.w 0)))]) (.block 0 (.loop (.seq (.seq (.reg none [.m 21 3,.q 22 (.bin .lss (.t 21) (.val (.w 2)))]) (.cond (.t 22) .skip (.exit 0))) (.seq (.block 1 (.seq (.reg none [.a 25 0 1,.l 26 1 25,.m 27 3,.i 28 3 26 27,.k 29 3 28,.q 30 (.call 57 [.t 29] 0),.m 4 30]) (.seq (.seq (.reg none [.m 31 4,.q 32 (.bin .neq (.t 31) (.val (.w 0)))]) (.cond (.t 32) (.seq (.reg none [.m 33 4,.m 2 33]) .ret) .skip)) (.seq (.reg none [.a 34 0 1,.l 35 1 34,.m 36 3,.i 37 3 35 36,.a 38 0 37,.l 39 1 38,.m 40 3,.b 41 .neq 39 40]) (.cond (.t 41) (.seq (.reg none [.q 2 (.mv (.val (.w 4)))]) .ret) .skip))))) (.reg none [.m 23 3,.q 24 (.bin .add (.t 23) (.val (.w 1))),.m 3 24])))))) (.seq (.seq (.reg none [.q 5 (.mv (.val (.w 0)))]) (.block 2 (.loop (.seq (.seq (.reg none [.m 42 5,.q 43 (.bin .lss (.t 42) (.val (.w 2)))]) (.cond (.t 43) .skip (.exit 2))) (.seq (.block 3 (.seq (.seq (.reg none [.a 46 1 1,.l 47 1 46,.m 48 5,.i 49 1 47 48,.l 50 1 49,.n 51 50,.q 52 (.bin .gtr (.t 51) (.val (.w 30)))]) (.cond (.t 52) (.seq (.reg none [.q 2 (.mv (.val (.w 2)))]) .ret) .skip)) (.seq (.reg none [.q 6 (.mv (.val (.w 0)))]) (.block 4 (.loop (.seq (.seq (.reg none [.m 53 6,.a 54 1 1,.l 55 1 54,.m 56 5,.i 57 1 55 56,.l 58 1 57,.n 59 58,.b 60 .lss 53 59]) (.cond (.t 60) .skip (.exit 4))) (.seq (.block 5 (.seq (.reg none [.a 63 1 1,.l 64 1 63,.m 65 5,.i 66 1 64 65,.l 67 1 66,.m 68 6,.i 69 5 67 68,.k 70 5 69,.q 71 (.call 58 [.t 70] 0),.m 7 71]) (.seq (.seq (.reg none [.m 72 7,.q 73 (.bin .neq (.t 72) (.val (.w 0)))]) (.cond (.t 73) (.seq (.reg none [.m 74 7,.m 2 74]) .ret) .skip)) (.seq (.reg (some []) [.z 75 (.load 2 true (.t 1)),.z 76 (.addr 1 (.t 1)),.z 77 (.load 1 false (.t 76)),.m 78 5,.z 79 (.iaddrS 1 (.t 77) (.t 78)),.z 80 (.load 1 false (.t 79)),.m 81 6,.z 82 (.iaddrS 5 (.t 80) (.t 81)),.z 83 (.load 5 true (.t 82)),.q 84 (.call 59 [.t 75,.t 83] 0),.q 85 (.not (.t 84))]) (.cond (.t 85) (.seq (.reg none [.q 2 (.mv (.val (.w 4)))]) .ret) .skip))))) (.reg none [.m 61 6,.q 62 (.bin .add (.t 61) (.val (.w 1))),.m 6 62])))))))) (.reg none [.m 44 5,.q 45 (.bin .add (.t 44) (.val (.w 1))),.m 5 45])))))) (.seq (.seq (.reg none [.q 8 (.mv (.val (.w 0)))]) (.block 6 (.loop (.seq (.seq (.reg none [.m 86 8,.q 87 (.bin .lss (.t 86) (.val (.w 2)))]) (.cond (.t 87) .skip (.exit 6))) (.seq (.block 7 (.seq (.reg (some [(0,1),(0,2),(0,4),(0,5),(0,6),(0,8),(7,8),(0,9),(7,9),(0,11),(7,11),(0,12),(7,12),(0,13),(7,13)]) [.z 90 (.mk0 32 5),.z 91 (.addr 0 (.t 1)),.z 92 (.load 1 false (.t 91)),.m 93 8,.z 94 (.iaddrS 3 (.t 92) (.t 93)),.z 95 (.addr 1 (.t 94)),.z 96 (.load 1 false (.t 95)),.z 97 (.append 32 5 64 (.t 90) (.t 96)),.z 98 (.addr 0 (.t 1)),.z 99 (.load 1 false (.t 98)),.m 100 8,.z 101 (.iaddrS 3 (.t 99) (.t 100)),.z 102 (.addr 2 (.t 101)),.z 103 (.load 1 false (.t 102)),.q 104 (.append 32 5 64 (.t 97) (.t 103)),.m 9 104]) (.seq (.reg none [.q 10 (.mv (.val (.w 0)))]) (.block 8 (.loop (.seq (.seq (.reg none [.m 105 10,.m 106 9,.n 107 106,.b 108 .lss 105 107]) (.cond (.t 108) .skip (.exit 8))) (.seq (.block 9 (.seq (.reg (some []) [.z 111 (.load 2 true (.t 1)),.m 112 9,.m 113 10,.z 114 (.iaddrS 5 (.t 112) (.t 113)),.z 115 (.load 5 true (.t 114)),.q 116 (.call 59 [.t 111,.t 115] 0),.q 117 (.not (.t 116))]) (.cond (.t 117) (.seq (.reg none [.q 2 (.mv (.val (.w 4)))]) .ret) .skip))) (.reg none [.m 109 10,.q 110 (.bin .add (.t 109) (.val (.w 1))),.m 10 110])))))))) (.reg none [.m 88 8,.q 89 (.bin .add (.t 88) (.val (.w 1))),.m 8 89])))))) (.seq (.reg none [.q 2 (.mv (.val (.w 0)))]) .ret))))))
def R9:List LRes := [.tmp 2]
theorem zAy:Tryz.f9.body.bind (zh Tryz.prog 118)=some L9:=by kernel_rfl
theorem zAz:zj Tryz.prog Tryz.f9.results.toList=some R9:=by kernel_rfl
def L10:LC:=(.seq (.reg none [.q 2 (.box (.t 0)),.q 3 (.box (.t 1)),.q 4 (.alloc [.nilsl,.nilsl]),.q 5 (.mv (.val (.w 0)))]) (.seq (.seq (.reg none [.a 13 0 3,.l 14 1 13,.q 15 (.call 60 [.t 14,.val (.w 1),.val (.w 5)] 0),.q 16 (.not (.t 15))]) (.cond (.t 16) (.seq (.reg none [.q 17 (.build [.nilsl,.nilsl] []),.s (.store 2 (.t 4) (.t 17)),.q 5 (.mv (.val (.w 7)))]) .ret) .skip)) (.seq (.seq (.reg none [.a 18 0 3,.l 19 1 18,.q 20 (.bin .neq (.t 19) (.val (.w 1))),.m 21 20,.g 22 (.addr 3 (.t 3)) 21 true,.g 23 (.load 1 false (.t 22)) 21 true,.g 24 (.bin .neq (.t 23) (.val (.w 0))) 21 true,.g 25 (.mv (.t 24)) 21 true,.g 26 (.addr 4 (.t 3)) 25 false,.g 27 (.load 1 false (.t 26)) 25 false,.g 28 (.bin .neq (.t 27) (.val (.str ⟨#[]⟩))) 25 false,.g 29 (.pick (.t 25) (.val (.bool true)) (.t 28)) 21 true,.q 30 (.pick (.t 21) (.t 29) (.val (.bool false))),.m 31 30,.g 32 (.addr 0 (.t 3)) 31 false,.g 33 (.load 1 false (.t 32)) 31 false,.g 34 (.bin .eql (.t 33) (.val (.w 1))) 31 false,.g 35 (.mv (.t 34)) 31 false,.g 36 (.addr 0 (.t 3)) 35 false,.g 37 (.load 1 false (.t 36)) 35 false,.g 38 (.bin .eql (.t 37) (.val (.w 5))) 35 false,.g 39 (.pick (.t 35) (.val (.bool true)) (.t 38)) 31 false,.g 40 (.mv (.t 39)) 31 false,.g 41 (.addr 2 (.t 3)) 40 true,.g 42 (.load 1 false (.t 41)) 40 true,.g 43 (.bin .neq (.t 42) (.val (.w 0))) 40 true,.g 44 (.pick (.t 40) (.t 43) (.val (.bool false))) 31 false,.q 45 (.pick (.t 31) (.val (.bool true)) (.t 44))]) (.cond (.t 45) (.seq (.reg none [.q 46 (.build [.nilsl,.nilsl] []),.s (.store 2 (.t 4) (.t 46)),.q 5 (.mv (.val (.w 1)))]) .ret) .skip)) (.seq (.seq (.reg none [.a 47 1 3,.l 48 1 47,.q 49 (.call 60 [.t 48,.val (.w 0),.val (.w 1)] 0),.q 50 (.not (.t 49))]) (.cond (.t 50) (.seq (.reg none [.q 51 (.build [.nilsl,.nilsl] []),.s (.store 2 (.t 4) (.t 51)),.q 5 (.mv (.val (.w 3)))]) .ret) .skip)) (.seq (.seq (.reg none [.a 52 0 3,.l 53 1 52,.q 54 (.bin .eql (.t 53) (.val (.w 5)))]) (.cond (.t 54) (.seq (.reg none [.k 55 2 2,.a 56 1 3,.l 57 1 56,.q 58 (.call 61 [.t 55,.t 57] 0),.e 59 0 58,.e 60 1 58,.s (.store 2 (.t 4) (.t 59)),.m 5 60]) .ret) .skip)) (.seq (.reg none [.k 61 2 2,.q 62 (.call 62 [.t 61] 0),.q 6 (.alloc [.nilsl,.nilsl]),.s (.store 2 (.t 6) (.t 62))]) (.seq (.seq (.reg none [.a 63 0 3,.l 64 1 63,.q 65 (.bin .eql (.t 64) (.val (.w 1)))]) (.cond (.t 65) (.seq (.regS [(36,(3,true)),(32,(5,true))] [(0,15),(1,15),(2,15),(3,15),(4,15),(5,15),(6,15),(7,15),(8,15),(9,15),(10,15),(0,16),(1,16),(2,16),(3,16),(4,16),(5,16),(6,16),(7,16),(8,16),(9,16),(10,16),(15,16)] [.z 67 (.addr 0 (.t 2)),.z 68 (.load 1 false (.t 67)),.z 69 (.addr 1 (.t 3)),.z 70 (.load 1 false (.t 69)),.z 71 (.iaddrS 3 (.t 68) (.t 70)),.z 72 (.load 3 true (.t 71)),.z 73 (.addr 3 (.t 3)),.z 74 (.load 1 false (.t 73)),.z 75 (.addr 4 (.t 3)),.z 76 (.load 1 false (.t 75)),.z 77 (.call 63 [.t 72,.t 74,.t 76] 0),.m 66 77,.e 78 0 66,.e 79 1 66,.e 80 2 66,.z 7 (.alloci 36 0 [.int .i64 0,.nilsl,.nilsl]),.z 8 (.alloci 32 1 [.int .i64 0,.int .i64 0,.int .i64 0,.str ⟨#[]⟩,.nilsl]),.s (.store 3 (.t 7) (.t 78)),.s (.store 5 (.t 8) (.t 79)),.m 9 80]) (.seq (.seq (.reg none [.m 81 9,.q 82 (.bin .neq (.t 81) (.val (.w 0)))]) (.cond (.t 82) (.seq (.reg none [.q 83 (.build [.nilsl,.nilsl] []),.m 84 9,.s (.store 2 (.t 4) (.t 83)),.m 5 84]) .ret) .skip)) (.seq (.reg none [.a 85 0 6,.l 86 1 85,.a 87 1 3,.l 88 1 87,.k 89 3 7,.i 90 3 86 88,.s (.store 3 (.t 90) (.t 89))]) (.seq (.seq (.reg none [.a 91 1 2,.l 92 1 91,.a 93 1 3,.l 94 1 93,.q 95 (.bin .sub (.val (.w 1)) (.t 94)),.i 96 1 92 95,.l 97 1 96,.n 98 97,.q 99 (.bin .lss (.t 98) (.val (.w 30)))]) (.cond (.t 99) (.reg (some [(0,5),(1,5),(2,5),(3,5),(5,6),(5,7),(5,8),(5,9),(5,11),(5,12),(0,13),(1,13),(2,13),(3,13),(5,14),(13,14),(0,16),(1,16),(2,16),(3,16)]) [.z 100 (.addr 1 (.t 6)),.z 101 (.load 1 false (.t 100)),.z 102 (.addr 1 (.t 3)),.z 103 (.load 1 false (.t 102)),.q 104 (.bin .sub (.val (.w 1)) (.t 103)),.z 105 (.mk0 32 5),.z 106 (.addr 1 (.t 2)),.z 107 (.load 1 false (.t 106)),.z 108 (.addr 1 (.t 3)),.z 109 (.load 1 false (.t 108)),.q 110 (.bin .sub (.val (.w 1)) (.t 109)),.z 111 (.iaddrS 1 (.t 107) (.t 110)),.z 112 (.load 1 false (.t 111)),.z 113 (.append 32 5 64 (.t 105) (.t 112)),.z 114 (.load 5 true (.t 8)),.q 115 (.mks 5 [.int .i64 0,.int .i64 0,.int .i64 0,.str ⟨#[]⟩,.nilsl] 1 [(0,(.t 114))]),.z 116 (.append 32 5 64 (.t 113) (.t 115)),.i 117 1 101 104,.s (.store 1 (.t 117) (.t 116))]) .skip)) (.seq (.reg none [.k 118 2 6,.s (.store 2 (.t 4) (.t 118)),.q 5 (.mv (.val (.w 0)))]) .ret))))) .skip)) (.seq (.reg none [.a 119 1 2,.l 120 1 119,.a 121 1 3,.l 122 1 121,.i 123 1 120 122,.l 124 1 123,.m 10 124]) (.seq (.seq (.reg none [.a 125 2 3,.l 126 1 125,.m 127 10,.n 128 127,.q 129 (.bin .sub (.t 128) (.val (.w 1))),.q 130 (.call 60 [.t 126,.val (.w 0),.t 129] 0),.q 131 (.not (.t 130))]) (.cond (.t 131) (.seq (.reg none [.q 132 (.build [.nilsl,.nilsl] []),.s (.store 2 (.t 4) (.t 132)),.q 5 (.mv (.val (.w 5)))]) .ret) .skip)) (.seq (.seq (.reg none [.a 133 0 3,.l 134 1 133]) (.block 0 (.seq (.reg none [.q 136 (.bin .eql (.t 134) (.val (.w 2))),.m 135 136]) (.cond (.t 135) (.seq (.reg (some [(0,15),(1,15),(2,15),(3,15),(4,15),(5,15),(7,15),(8,15),(9,15),(10,15),(11,15)]) [.z 138 (.addr 0 (.t 2)),.z 139 (.load 1 false (.t 138)),.z 140 (.addr 1 (.t 3)),.z 141 (.load 1 false (.t 140)),.z 142 (.iaddrS 3 (.t 139) (.t 141)),.z 143 (.load 3 true (.t 142)),.m 144 10,.z 145 (.addr 2 (.t 3)),.z 146 (.load 1 false (.t 145)),.z 147 (.iaddrS 5 (.t 144) (.t 146)),.z 148 (.load 5 true (.t 147)),.z 149 (.call 64 [.t 143,.t 148] 0),.m 137 149,.e 150 0 137,.e 151 1 137,.z 11 (.alloc [.int .i64 0,.nilsl,.nilsl]),.s (.store 3 (.t 11) (.t 150)),.m 12 151]) (.seq (.seq (.reg none [.m 152 12,.q 153 (.bin .neq (.t 152) (.val (.w 0)))]) (.cond (.t 153) (.seq (.reg none [.q 154 (.build [.nilsl,.nilsl] []),.m 155 12,.s (.store 2 (.t 4) (.t 154)),.m 5 155]) .ret) .skip)) (.seq (.reg none [.a 156 0 6,.l 157 1 156,.a 158 1 3,.l 159 1 158,.k 160 3 11,.i 161 3 157 159,.s (.store 3 (.t 161) (.t 160))]) (.reg (some []) [.z 162 (.addr 1 (.t 6)),.z 163 (.load 1 false (.t 162)),.z 164 (.addr 1 (.t 3)),.z 165 (.load 1 false (.t 164)),.m 166 10,.z 167 (.addr 2 (.t 3)),.z 168 (.load 1 false (.t 167)),.z 169 (.call 65 [.t 166,.t 168] 0),.i 170 1 163 165,.s (.store 1 (.t 170) (.t 169))])))) (.seq (.reg none [.q 172 (.bin .eql (.t 134) (.val (.w 3))),.m 171 172]) (.cond (.t 171) (.reg (some []) [.z 173 (.addr 1 (.t 6)),.z 174 (.load 1 false (.t 173)),.z 175 (.addr 1 (.t 3)),.z 176 (.load 1 false (.t 175)),.m 177 10,.z 178 (.addr 2 (.t 3)),.z 179 (.load 1 false (.t 178)),.z 180 (.call 65 [.t 177,.t 179] 0),.i 181 1 174 176,.s (.store 1 (.t 181) (.t 180))]) (.seq (.reg none [.q 183 (.bin .eql (.t 134) (.val (.w 4))),.m 182 183]) (.cond (.t 182) (.seq (.seq (.reg none [.m 184 10,.n 185 184,.q 186 (.bin .eql (.t 185) (.val (.w 30)))]) (.cond (.t 186) (.seq (.reg none [.q 187 (.build [.nilsl,.nilsl] []),.s (.store 2 (.t 4) (.t 187)),.q 5 (.mv (.val (.w 2)))]) .ret) .skip)) (.reg (some [(0,4),(1,4),(2,4),(3,4),(0,6),(1,6),(2,6),(3,6),(4,8),(6,8),(4,9),(6,9),(4,10),(6,10),(4,11),(6,11),(0,13),(1,13),(2,13),(3,13)]) [.z 188 (.addr 1 (.t 6)),.z 189 (.load 1 false (.t 188)),.z 190 (.addr 1 (.t 3)),.z 191 (.load 1 false (.t 190)),.z 192 (.mk0 32 5),.m 193 10,.z 194 (.append 32 5 64 (.t 192) (.t 193)),.m 195 10,.z 196 (.addr 2 (.t 3)),.z 197 (.load 1 false (.t 196)),.z 198 (.iaddrS 5 (.t 195) (.t 197)),.z 199 (.load 5 true (.t 198)),.q 200 (.mks 5 [.int .i64 0,.int .i64 0,.int .i64 0,.str ⟨#[]⟩,.nilsl] 1 [(0,(.t 199))]),.z 201 (.append 32 5 64 (.t 194) (.t 200)),.i 202 1 189 191,.s (.store 1 (.t 202) (.t 201))])) .skip)))))))) (.seq (.reg none [.k 203 2 6,.s (.store 2 (.t 4) (.t 203)),.q 5 (.mv (.val (.w 0)))]) .ret)))))))))))
def R10:List LRes := [(.cell 4 2 true),.tmp 5]
theorem zdF:Tryz.f10.body.bind (zh Tryz.prog 204)=some L10:=by kernel_rfl
theorem zdG:zj Tryz.prog Tryz.f10.results.toList=some R10:=by kernel_rfl
def L11:LC:=(.seq (.reg none [.q 2 (.box (.t 0)),.q 3 (.box (.t 1)),.q 4 (.alloc [.nilsl,.nilsl]),.q 5 (.mv (.val (.w 0)))]) (.seq (.seq (.reg none [.k 7 2 2,.q 8 (.call 52 [.t 7] 0),.m 6 8]) (.seq (.reg none [.m 9 6,.q 10 (.bin .neq (.t 9) (.val (.w 0)))]) (.cond (.t 10) (.seq (.reg none [.q 11 (.build [.nilsl,.nilsl] []),.m 12 6,.s (.store 2 (.t 4) (.t 11)),.m 5 12]) .ret) .skip))) (.seq (.reg none [.k 13 2 2,.k 14 5 3,.q 15 (.call 66 [.t 13,.t 14] 0),.e 16 0 15,.e 17 1 15,.s (.store 2 (.t 4) (.t 16)),.m 5 17]) .ret)))
def R11:List LRes := [(.cell 4 2 true),.tmp 5]
theorem zsu:Tryz.f11.body.bind (zh Tryz.prog 18)=some L11:=by kernel_rfl
theorem zsv:zj Tryz.prog Tryz.f11.results.toList=some R11:=by kernel_rfl
def L12:LC:=(.seq (.reg none [.q 4 (.box (.t 0)),.q 7 (.box (.t 3)),.q 8 (.mv (.val (.bool false)))]) (.seq (.seq (.reg none [.m 9 2,.q 10 (.bin .neq (.t 9) (.val (.w 0)))]) (.cond (.t 10) (.reg none [.q 11 (.build [.nilsl,.nilsl] []),.s (.store 2 (.t 7) (.t 11))]) .skip)) (.seq (.reg none [.m 12 1,.m 13 2,.b 14 .eql 12 13,.m 15 14,.g 16 (.load 2 true (.t 4)) 15 true,.g 17 (.load 2 true (.t 7)) 15 true,.g 18 (.call 18 [.t 16,.t 17] 0) 15 true,.q 19 (.pick (.t 15) (.t 18) (.val (.bool false))),.m 8 19]) .ret)))
def R12:List LRes := [.tmp 8]
theorem zxS:Tryz.f12.body.bind (zh Tryz.prog 20)=some L12:=by kernel_rfl
theorem zxT:zj Tryz.prog Tryz.f12.results.toList=some R12:=by kernel_rfl
def L13:LC:=(.seq (.reg none [.q 1 (.box (.t 0)),.q 2 (.alloc [.nilsl,.nilsl]),.q 3 (.mv (.val (.w 0)))]) (.seq (.seq (.reg none [.k 8 2 1,.q 9 (.call 52 [.t 8] 0),.m 4 9]) (.seq (.reg none [.m 10 4,.q 11 (.bin .neq (.t 10) (.val (.w 0)))]) (.cond (.t 11) (.seq (.reg none [.q 12 (.build [.nilsl,.nilsl] []),.m 13 4,.s (.store 2 (.t 2) (.t 12)),.m 3 13]) .ret) .skip))) (.seq (.reg none [.k 14 2 1,.q 15 (.call 67 [.t 14] 0),.m 5 15]) (.seq (.seq (.reg none [.q 16 (.mv (.val (.w 0)))]) (.block 0 (.loop (.seq (.reg none [.q 17 (.bin .lss (.t 16) (.val (.w 2)))]) (.seq (.cond (.t 17) .skip (.exit 0)) (.seq (.block 1 (.seq (.reg none [.m 18 16,.m 6 18]) (.seq (.reg none [.m 19 5,.m 20 6,.q 21 (.call 68 [.t 19,.t 20] 0),.m 7 21]) (.seq (.reg none [.m 22 7,.q 23 (.bin .neq (.t 22) (.val (.w 0)))]) (.cond (.t 23) (.seq (.reg none [.q 24 (.build [.nilsl,.nilsl] []),.m 25 7,.s (.store 2 (.t 2) (.t 24)),.m 3 25]) .ret) .skip))))) (.reg none [.q 26 (.bin .add (.t 16) (.val (.w 1))),.m 16 26]))))))) (.seq (.reg none [.m 27 5,.q 28 (.nilchk (.t 27)),.a 29 0 28,.k 30 2 29,.s (.store 2 (.t 2) (.t 30)),.q 3 (.mv (.val (.w 0)))]) .ret)))))
def R13:List LRes := [(.cell 2 2 true),.tmp 3]
theorem zsw:Tryz.f13.body.bind (zh Tryz.prog 31)=some L13:=by kernel_rfl
theorem zsx:zj Tryz.prog Tryz.f13.results.toList=some R13:=by kernel_rfl
def L14:LC:=(.seq (.reg none [.q 2 (.alloc [.nilsl,.nilsl]),.q 3 (.mv (.val .nilsl)),.q 4 (.mv (.val (.w 0)))]) (.seq (.seq (.reg none [.m 8 0,.n 9 8,.q 10 (.bin .gtr (.t 9) (.val (.w 40)))]) (.cond (.t 10) (.seq (.reg none [.q 11 (.build [.nilsl,.nilsl] []),.s (.store 2 (.t 2) (.t 11)),.q 3 (.mv (.val .nilsl)),.q 4 (.mv (.val (.w 2)))]) .ret) .skip)) (.seq (.reg none [.q 12 (.call 50 [] 0),.q 13 (.build [.nilsl,.nilsl,.nilsl] [(0,(2,(.t 12)))]),.q 14 (.box (.t 13)),.m 5 14]) (.seq (.seq (.reg none [.m 15 0,.n 16 15,.q 17 (.mv (.val (.w 0)))]) (.block 0 (.loop (.seq (.reg none [.b 18 .lss 17 16]) (.seq (.cond (.t 18) .skip (.exit 0)) (.seq (.block 1 (.seq (.reg none [.i 19 5 15 17,.k 20 5 19,.q 7 (.alloc [.int .i64 0,.int .i64 0,.int .i64 0,.int .i64 0,.str ⟨#[]⟩]),.s (.store 5 (.t 7) (.t 20))]) (.reg none [.m 21 5,.k 22 5 7,.q 23 (.call 69 [.t 21,.t 22] 0)]))) (.reg none [.q 24 (.bin .add (.t 17) (.val (.w 1))),.m 17 24]))))))) (.seq (.reg (some [(5,8),(6,8),(7,8)]) [.m 25 5,.z 26 (.nilchk (.t 25)),.z 27 (.addr 0 (.t 26)),.z 28 (.load 2 true (.t 27)),.m 29 5,.z 30 (.nilchk (.t 29)),.z 31 (.addr 2 (.t 30)),.z 32 (.load 1 false (.t 31)),⟨none,(.store 2 (.t 2) (.t 28)),none,false⟩,.m 3 32,.q 4 (.mv (.val (.w 0)))]) .ret)))))
def R14:List LRes := [(.cell 2 2 true),.tmp 3,.tmp 4]
theorem zxU:Tryz.f14.body.bind (zh Tryz.prog 33)=some L14:=by kernel_rfl
theorem zxV:zj Tryz.prog Tryz.f14.results.toList=some R14:=by kernel_rfl
def L15:LC:=(.seq (.reg none [.q 2 (.box (.t 0)),.q 3 (.box (.t 1)),.q 4 (.alloc [.int .i64 0,.nilsl,.nilsl]),.q 5 (.mv (.val (.w 0)))]) (.seq (.reg none [.k 7 3 2,.q 8 (.call 54 [.t 7] 0),.m 6 8]) (.seq (.seq (.reg none [.m 9 6,.q 10 (.bin .eql (.t 9) (.val (.w 0)))]) (.cond (.t 10) (.reg none [.k 11 5 3,.q 12 (.call 70 [.t 11] 0),.m 6 12]) .skip)) (.seq (.seq (.reg none [.m 13 6,.q 14 (.bin .neq (.t 13) (.val (.w 0)))]) (.cond (.t 14) (.seq (.reg none [.q 15 (.build [.int .i64 0,.nilsl,.nilsl] []),.m 16 6,.s (.store 3 (.t 4) (.t 15)),.m 5 16]) .ret) .skip)) (.seq (.reg none [.k 17 3 2,.k 18 5 3,.q 19 (.call 71 [.t 17,.t 18] 0),.e 20 0 19,.e 21 1 19,.s (.store 3 (.t 4) (.t 20)),.m 5 21]) .ret)))))
def R15:List LRes := [(.cell 4 3 true),.tmp 5]
theorem ztY:Tryz.f15.body.bind (zh Tryz.prog 22)=some L15:=by kernel_rfl
theorem ztZ:zj Tryz.prog Tryz.f15.results.toList=some R15:=by kernel_rfl
def L16:LC:=(.seq (.reg none [.q 3 (.box (.t 0)),.q 6 (.alloc [.int .i64 0,.nilsl,.nilsl]),.q 7 (.alloc [.int .i64 0,.int .i64 0,.int .i64 0,.str ⟨#[]⟩,.nilsl]),.q 8 (.mv (.val (.w 0)))]) (.seq (.seq (.reg none [.k 10 3 3,.q 11 (.call 54 [.t 10] 0),.m 9 11]) (.seq (.reg none [.m 12 9,.q 13 (.bin .neq (.t 12) (.val (.w 0)))]) (.cond (.t 13) (.seq (.reg none [.q 14 (.build [.int .i64 0,.nilsl,.nilsl] []),.q 15 (.build [.int .i64 0,.int .i64 0,.int .i64 0,.str ⟨#[]⟩,.nilsl] []),.m 16 9,.s (.store 3 (.t 6) (.t 14)),.s (.store 5 (.t 7) (.t 15)),.m 8 16]) .ret) .skip))) (.seq (.reg none [.k 17 3 3,.m 18 1,.m 19 2,.q 20 (.call 72 [.t 17,.t 18,.t 19] 0),.e 21 0 20,.e 22 1 20,.e 23 2 20,.s (.store 3 (.t 6) (.t 21)),.s (.store 5 (.t 7) (.t 22)),.m 8 23]) .ret)))
def R16:List LRes := [(.cell 6 3 true),(.cell 7 5 true),.tmp 8]
theorem zt0:Tryz.f16.body.bind (zh Tryz.prog 24)=some L16:=by kernel_rfl
theorem zt1:zj Tryz.prog Tryz.f16.results.toList=some R16:=by kernel_rfl
def L18:LC:=(.seq (.reg none [.q 2 (.box (.t 0)),.q 3 (.box (.t 1)),.q 4 (.mv (.val (.bool false)))]) (.seq (.seq (.reg none [.a 7 0 2,.l 8 1 7,.n 9 8,.a 10 0 3,.l 11 1 10,.n 12 11,.b 13 .neq 9 12,.m 14 13,.g 15 (.addr 1 (.t 2)) 14 false,.g 16 (.load 1 false (.t 15)) 14 false,.g 17 (.len false (.t 16)) 14 false,.g 18 (.addr 1 (.t 3)) 14 false,.g 19 (.load 1 false (.t 18)) 14 false,.g 20 (.len false (.t 19)) 14 false,.g 21 (.bin .neq (.t 17) (.t 20)) 14 false,.q 22 (.pick (.t 14) (.val (.bool true)) (.t 21))]) (.cond (.t 22) (.seq (.reg none [.q 4 (.mv (.val (.bool false)))]) .ret) .skip)) (.seq (.seq (.reg none [.q 5 (.mv (.val (.w 0)))]) (.block 0 (.loop (.seq (.seq (.reg none [.m 23 5,.a 24 0 2,.l 25 1 24,.n 26 25,.b 27 .lss 23 26]) (.cond (.t 27) .skip (.exit 0))) (.seq (.block 1 (.seq (.reg (some []) [.z 30 (.addr 0 (.t 2)),.z 31 (.load 1 false (.t 30)),.m 32 5,.z 33 (.iaddrS 3 (.t 31) (.t 32)),.z 34 (.load 3 true (.t 33)),.z 35 (.addr 0 (.t 3)),.z 36 (.load 1 false (.t 35)),.m 37 5,.z 38 (.iaddrS 3 (.t 36) (.t 37)),.z 39 (.load 3 true (.t 38)),.q 40 (.call 73 [.t 34,.t 39] 0),.q 41 (.not (.t 40))]) (.cond (.t 41) (.seq (.reg none [.q 4 (.mv (.val (.bool false)))]) .ret) .skip))) (.reg none [.m 28 5,.q 29 (.bin .add (.t 28) (.val (.w 1))),.m 5 29])))))) (.seq (.seq (.reg none [.q 6 (.mv (.val (.w 0)))]) (.block 2 (.loop (.seq (.seq (.reg none [.m 42 6,.a 43 1 2,.l 44 1 43,.n 45 44,.b 46 .lss 42 45]) (.cond (.t 46) .skip (.exit 2))) (.seq (.block 3 (.seq (.reg (some []) [.z 49 (.addr 1 (.t 2)),.z 50 (.load 1 false (.t 49)),.m 51 6,.z 52 (.iaddrS 1 (.t 50) (.t 51)),.z 53 (.load 1 false (.t 52)),.z 54 (.addr 1 (.t 3)),.z 55 (.load 1 false (.t 54)),.m 56 6,.z 57 (.iaddrS 1 (.t 55) (.t 56)),.z 58 (.load 1 false (.t 57)),.q 59 (.call 45 [.t 53,.t 58] 0),.q 60 (.not (.t 59))]) (.cond (.t 60) (.seq (.reg none [.q 4 (.mv (.val (.bool false)))]) .ret) .skip))) (.reg none [.m 47 6,.q 48 (.bin .add (.t 47) (.val (.w 1))),.m 6 48])))))) (.seq (.reg none [.q 4 (.mv (.val (.bool true)))]) .ret)))))
def R18:List LRes := [.tmp 4]
theorem zxW:Tryz.f18.body.bind (zh Tryz.prog 61)=some L18:=by kernel_rfl
theorem zxX:zj Tryz.prog Tryz.f18.results.toList=some R18:=by kernel_rfl
def L19:LC:=(.seq (.reg none [.q 2 (.box (.t 0)),.q 3 (.box (.t 1)),.q 4 (.mv (.val (.bool false)))]) (.seq (.reg none [.a 5 0 2,.k 6 2 5,.a 7 0 3,.k 8 2 7,.q 9 (.eqag false [.i,.i] (.t 6) (.t 8)),.m 10 9,.g 11 (.addr 2 (.t 2)) 10 true,.g 12 (.load 1 false (.t 11)) 10 true,.g 13 (.addr 2 (.t 3)) 10 true,.g 14 (.load 1 false (.t 13)) 10 true,.g 15 (.bin .eql (.t 12) (.t 14)) 10 true,.q 16 (.pick (.t 10) (.t 15) (.val (.bool false))),.m 17 16,.g 18 (.addr 3 (.t 2)) 17 true,.g 19 (.load 1 false (.t 18)) 17 true,.g 20 (.addr 3 (.t 3)) 17 true,.g 21 (.load 1 false (.t 20)) 17 true,.g 22 (.bin .eql (.t 19) (.t 21)) 17 true,.q 23 (.pick (.t 17) (.t 22) (.val (.bool false))),.m 24 23,.g 25 (.addr 4 (.t 2)) 24 true,.g 26 (.load 1 false (.t 25)) 24 true,.g 27 (.addr 4 (.t 3)) 24 true,.g 28 (.load 1 false (.t 27)) 24 true,.g 29 (.call 46 [.t 26,.t 28] 0) 24 true,.q 30 (.pick (.t 24) (.t 29) (.val (.bool false))),.m 4 30]) .ret))
def R19:List LRes := [.tmp 4]
theorem zxY:Tryz.f19.body.bind (zh Tryz.prog 31)=some L19:=by kernel_rfl
theorem zxZ:zj Tryz.prog Tryz.f19.results.toList=some R19:=by kernel_rfl
def L34:LC:=(.seq (.reg none [.q 4 (.alloc [.int .i64 0,.int .i64 0])]) (.seq (.reg none [.m 5 0,.m 6 1,.q 7 (.build [.int .i64 0,.int .i64 0] [(0,(1,(.t 5))),(1,(1,(.t 6)))]),.s (.store 2 (.t 4) (.t 7))]) .ret))
def R34:List LRes := [(.cell 4 2 true)]
theorem zx0:Tryz.f34.body.bind (zh Tryz.prog 8)=some L34:=by kernel_rfl
theorem zx1:zj Tryz.prog Tryz.f34.results.toList=some R34:=by kernel_rfl
def L35:LC:=(.seq (.reg none [.q 4 (.mv (.val .nilsl)),.q 5 (.mv (.val (.w 0)))]) (.seq (.reg none [.m 7 0,.q 8 (.call 75 [.t 7] 0),.m 6 8]) (.seq (.seq (.reg none [.m 9 6,.q 10 (.bin .eql (.t 9) (.val (.w 0))),.m 11 10,.g 12 (.mv (.t 1)) 11 true,.g 13 (.call 103 [.t 12] 0) 11 true,.g 14 (.not (.t 13)) 11 true,.q 15 (.pick (.t 11) (.t 14) (.val (.bool false)))]) (.cond (.t 15) (.reg none [.q 6 (.mv (.val (.w 3)))]) .skip)) (.seq (.seq (.reg none [.m 16 6,.q 17 (.bin .neq (.t 16) (.val (.w 0)))]) (.cond (.t 17) (.seq (.reg none [.m 18 6,.q 4 (.mv (.val .nilsl)),.m 5 18]) .ret) .skip)) (.seq (.reg none [.m 19 0,.m 20 1,.q 21 (.call 108 [.t 19,.t 20] 0),.m 4 21,.q 5 (.mv (.val (.w 0)))]) .ret)))))
def R35:List LRes := [.tmp 4,.tmp 5]
theorem zx2:Tryz.f35.body.bind (zh Tryz.prog 22)=some L35:=by kernel_rfl
theorem zx3:zj Tryz.prog Tryz.f35.results.toList=some R35:=by kernel_rfl
def L43:LC:=(.seq (.reg none [.q 0 (.mv (.val .nilsl))]) (.seq (.reg none [.q 1 (.call 34 [.val (.w 0),.val (.w 1)] 0),.q 2 (.build [.int .i64 0,.int .i64 0,.int .i64 0,.str ⟨#[]⟩,.nilsl] [(0,(2,(.t 1))),(2,(1,(.val (.w 1)))),(3,(1,(.val (.str ⟨#[112,117,116,32,97,32,120]⟩))))]),.q 3 (.call 34 [.val (.w 1),.val (.w 1)] 0),.q 4 (.build [.int .i64 0,.int .i64 0,.int .i64 0,.str ⟨#[]⟩,.nilsl] [(0,(2,(.t 3))),(2,(1,(.val (.w 3)))),(3,(1,(.val (.str ⟨#[112,117,116,32,97,32,121]⟩))))]),.q 5 (.call 34 [.val (.w 0),.val (.w 2)] 0),.q 6 (.call 34 [.val (.w 0),.val (.w 1)] 0),.q 7 (.mks 2 [.int .i64 0,.int .i64 0] 1 [(0,(.t 6))]),.q 8 (.build [.int .i64 0,.int .i64 0,.int .i64 0,.str ⟨#[]⟩,.nilsl] [(0,(2,(.t 5))),(2,(1,(.val (.w 3)))),(3,(1,(.val (.str ⟨#[100,114,111,112,32,97]⟩)))),(4,(1,(.t 7)))]),.q 9 (.call 34 [.val (.w 1),.val (.w 2)] 0),.q 10 (.call 34 [.val (.w 0),.val (.w 2)] 0),.q 11 (.call 34 [.val (.w 1),.val (.w 1)] 0),.q 12 (.mks 2 [.int .i64 0,.int .i64 0] 2 [(0,(.t 10)),(1,(.t 11))]),.q 13 (.build [.int .i64 0,.int .i64 0,.int .i64 0,.str ⟨#[]⟩,.nilsl] [(0,(2,(.t 9))),(2,(1,(.val (.w 2)))),(3,(1,(.val (.str ⟨#[112,117,116,32,98,32,122]⟩)))),(4,(1,(.t 12)))]),.q 14 (.mks 5 [.int .i64 0,.int .i64 0,.int .i64 0,.str ⟨#[]⟩,.nilsl] 4 [(0,(.t 2)),(1,(.t 4)),(2,(.t 8)),(3,(.t 13))]),.m 0 14]) .ret))
def R43:List LRes := [.tmp 0]
theorem zx4:Tryz.f43.body.bind (zh Tryz.prog 15)=some L43:=by kernel_rfl
theorem zx5:zj Tryz.prog Tryz.f43.results.toList=some R43:=by kernel_rfl
def L45:LC:=(.seq (.reg none [.q 4 (.mv (.val (.bool false)))]) (.seq (.seq (.reg none [.m 6 0,.n 7 6,.m 8 1,.n 9 8,.b 10 .neq 7 9]) (.cond (.t 10) (.seq (.reg none [.q 4 (.mv (.val (.bool false)))]) .ret) .skip)) (.seq (.seq (.reg none [.q 5 (.mv (.val (.w 0)))]) (.block 0 (.loop (.seq (.seq (.reg none [.m 11 5,.m 12 0,.n 13 12,.b 14 .lss 11 13]) (.cond (.t 14) .skip (.exit 0))) (.seq (.block 1 (.seq (.reg (some []) [.m 17 0,.m 18 5,.z 19 (.iaddrS 5 (.t 17) (.t 18)),.z 20 (.load 5 true (.t 19)),.m 21 1,.m 22 5,.z 23 (.iaddrS 5 (.t 21) (.t 22)),.z 24 (.load 5 true (.t 23)),.q 25 (.call 19 [.t 20,.t 24] 0),.q 26 (.not (.t 25))]) (.cond (.t 26) (.seq (.reg none [.q 4 (.mv (.val (.bool false)))]) .ret) .skip))) (.reg none [.m 15 5,.q 16 (.bin .add (.t 15) (.val (.w 1))),.m 5 16])))))) (.seq (.reg none [.q 4 (.mv (.val (.bool true)))]) .ret))))
def R45:List LRes := [.tmp 4]
theorem zx6:Tryz.f45.body.bind (zh Tryz.prog 27)=some L45:=by kernel_rfl
theorem zx7:zj Tryz.prog Tryz.f45.results.toList=some R45:=by kernel_rfl
def L46:LC:=(.seq (.reg none [.q 4 (.mv (.val (.bool false)))]) (.seq (.seq (.reg none [.m 6 0,.n 7 6,.m 8 1,.n 9 8,.b 10 .neq 7 9]) (.cond (.t 10) (.seq (.reg none [.q 4 (.mv (.val (.bool false)))]) .ret) .skip)) (.seq (.seq (.reg none [.q 5 (.mv (.val (.w 0)))]) (.block 0 (.loop (.seq (.seq (.reg none [.m 11 5,.m 12 0,.n 13 12,.b 14 .lss 11 13]) (.cond (.t 14) .skip (.exit 0))) (.seq (.block 1 (.seq (.reg (some []) [.m 17 0,.m 18 5,.z 19 (.iaddrS 2 (.t 17) (.t 18)),.z 20 (.load 2 true (.t 19)),.m 21 1,.m 22 5,.z 23 (.iaddrS 2 (.t 21) (.t 22)),.z 24 (.load 2 true (.t 23)),.q 25 (.eqag true [.i,.i] (.t 20) (.t 24))]) (.cond (.t 25) (.seq (.reg none [.q 4 (.mv (.val (.bool false)))]) .ret) .skip))) (.reg none [.m 15 5,.q 16 (.bin .add (.t 15) (.val (.w 1))),.m 5 16])))))) (.seq (.reg none [.q 4 (.mv (.val (.bool true)))]) .ret))))
def R46:List LRes := [.tmp 4]
theorem zx8:Tryz.f46.body.bind (zh Tryz.prog 26)=some L46:=by kernel_rfl
theorem zx9:zj Tryz.prog Tryz.f46.results.toList=some R46:=by kernel_rfl
def L50:LC:=(.seq (.reg none [.q 0 (.alloc [.nilsl,.nilsl])]) (.seq (.reg none [.q 1 (.build [.int .i64 0,.nilsl,.nilsl] []),.q 2 (.build [.int .i64 0,.nilsl,.nilsl] [(0,(1,(.val (.w 1))))]),.q 3 (.mks 3 [.int .i64 0,.nilsl,.nilsl] 2 [(0,(.t 1)),(1,(.t 2))]),.q 4 (.mkn 34 1 24 [.nilsl] (.val (.w 2)) (.val (.w 2))),.q 5 (.build [.nilsl,.nilsl] [(0,(1,(.t 3))),(1,(1,(.t 4)))]),.s (.store 2 (.t 0) (.t 5))]) .ret))
def R50:List LRes := [(.cell 0 2 true)]
theorem zya:Tryz.f50.body.bind (zh Tryz.prog 6)=some L50:=by kernel_rfl
theorem zyb:zj Tryz.prog Tryz.f50.results.toList=some R50:=by kernel_rfl
def L51:LC:=(.seq (.reg none [.q 0 (.mv (.val .nilsl))]) (.seq (.reg none [.q 1 (.build [.int .i64 0,.int .i64 0,.int .i64 0,.int .i64 0,.str ⟨#[]⟩] [(0,(1,(.val (.w 1)))),(3,(1,(.val (.w 1)))),(4,(1,(.val (.str ⟨#[112,117,116,32,97,32,120]⟩))))]),.q 2 (.build [.int .i64 0,.int .i64 0,.int .i64 0,.int .i64 0,.str ⟨#[]⟩] [(0,(1,(.val (.w 1)))),(1,(1,(.val (.w 1)))),(3,(1,(.val (.w 1)))),(4,(1,(.val (.str ⟨#[112,117,116,32,97,32,121]⟩))))]),.q 3 (.build [.int .i64 0,.int .i64 0,.int .i64 0,.int .i64 0,.str ⟨#[]⟩] [(0,(1,(.val (.w 2)))),(1,(1,(.val (.w 1))))]),.q 4 (.build [.int .i64 0,.int .i64 0,.int .i64 0,.int .i64 0,.str ⟨#[]⟩] [(0,(1,(.val (.w 3))))]),.q 5 (.build [.int .i64 0,.int .i64 0,.int .i64 0,.int .i64 0,.str ⟨#[]⟩] [(0,(1,(.val (.w 1)))),(1,(1,(.val (.w 1)))),(3,(1,(.val (.w 1)))),(4,(1,(.val (.str ⟨#[112,117,116,32,98,32,122]⟩))))]),.q 6 (.build [.int .i64 0,.int .i64 0,.int .i64 0,.int .i64 0,.str ⟨#[]⟩] [(0,(1,(.val (.w 2))))]),.q 7 (.mks 5 [.int .i64 0,.int .i64 0,.int .i64 0,.int .i64 0,.str ⟨#[]⟩] 6 [(0,(.t 1)),(1,(.t 2)),(2,(.t 3)),(3,(.t 4)),(4,(.t 5)),(5,(.t 6))]),.m 0 7]) .ret))
def R51:List LRes := [.tmp 0]
theorem zyc:Tryz.f51.body.bind (zh Tryz.prog 8)=some L51:=by kernel_rfl
theorem zyd:zj Tryz.prog Tryz.f51.results.toList=some R51:=by kernel_rfl
def L52:LC:=(.seq (.reg none [.q 1 (.box (.t 0)),.q 2 (.mv (.val (.w 0)))]) (.seq (.seq (.reg none [.a 12 0 1,.l 13 1 12,.n 14 13,.q 15 (.bin .neq (.t 14) (.val (.w 2))),.m 16 15,.g 17 (.addr 1 (.t 1)) 16 false,.g 18 (.load 1 false (.t 17)) 16 false,.g 19 (.len false (.t 18)) 16 false,.g 20 (.bin .neq (.t 19) (.val (.w 2))) 16 false,.q 21 (.pick (.t 16) (.val (.bool true)) (.t 20))]) (.cond (.t 21) (.seq (.reg none [.q 2 (.mv (.val (.w 1)))]) .ret) .skip)) (.seq (.seq (.reg none [.a 22 0 1,.l 23 1 22,.n 24 23,.q 25 (.mv (.val (.w 0)))]) (.block 0 (.loop (.seq (.reg none [.b 26 .lss 25 24]) (.seq (.cond (.t 26) .skip (.exit 0)) (.seq (.block 1 (.seq (.reg none [.m 27 25,.i 28 3 23 25,.k 29 3 28,.q 4 (.alloc [.int .i64 0,.nilsl,.nilsl]),.m 3 27,.s (.store 3 (.t 4) (.t 29))]) (.seq (.seq (.reg none [.k 30 3 4,.q 31 (.call 54 [.t 30] 0),.m 5 31]) (.seq (.reg none [.m 32 5,.q 33 (.bin .neq (.t 32) (.val (.w 0)))]) (.cond (.t 33) (.seq (.reg none [.m 34 5,.m 2 34]) .ret) .skip))) (.seq (.reg none [.a 35 0 4,.l 36 1 35,.m 37 3,.b 38 .neq 36 37]) (.cond (.t 38) (.seq (.reg none [.q 2 (.mv (.val (.w 4)))]) .ret) .skip))))) (.reg none [.q 39 (.bin .add (.t 25) (.val (.w 1))),.m 25 39]))))))) (.seq (.seq (.reg none [.a 40 1 1,.l 41 1 40,.n 42 41,.q 43 (.mv (.val (.w 0)))]) (.block 2 (.loop (.seq (.reg none [.b 44 .lss 43 42]) (.seq (.cond (.t 44) .skip (.exit 2)) (.seq (.block 3 (.seq (.reg none [.i 45 1 41 43,.l 46 1 45,.m 7 46]) (.seq (.reg none [.k 47 2 1,.m 48 7,.q 49 (.call 125 [.t 47,.t 48] 0),.m 8 49]) (.seq (.reg none [.m 50 8,.q 51 (.bin .neq (.t 50) (.val (.w 0)))]) (.cond (.t 51) (.seq (.reg none [.m 52 8,.m 2 52]) .ret) .skip))))) (.reg none [.q 53 (.bin .add (.t 43) (.val (.w 1))),.m 43 53]))))))) (.seq (.reg none [.q 54 (.clo 126 [.t 1]),.m 9 54]) (.seq (.seq (.reg none [.a 55 0 1,.l 56 1 55,.n 57 56,.q 58 (.mv (.val (.w 0)))]) (.block 4 (.loop (.seq (.reg none [.b 59 .lss 58 57]) (.seq (.cond (.t 59) .skip (.exit 4)) (.seq (.block 5 (.seq (.reg none [.i 60 3 56 58,.k 61 3 60,.q 11 (.alloc [.int .i64 0,.nilsl,.nilsl]),.s (.store 3 (.t 11) (.t 61))]) (.seq (.reg none [.a 62 1 11,.l 63 1 62,.m 64 9,.q 65 (.call 128 [.t 63,.t 64] 0),.m 66 65,.g 67 (.addr 2 (.t 11)) 66 false,.g 68 (.load 1 false (.t 67)) 66 false,.g 69 (.mv (.t 9)) 66 false,.g 70 (.call 128 [.t 68,.t 69] 0) 66 false,.q 71 (.pick (.t 66) (.val (.bool true)) (.t 70))]) (.cond (.t 71) (.seq (.reg none [.q 2 (.mv (.val (.w 4)))]) .ret) .skip)))) (.reg none [.q 72 (.bin .add (.t 58) (.val (.w 1))),.m 58 72]))))))) (.seq (.reg none [.q 2 (.mv (.val (.w 0)))]) .ret)))))))
def R52:List LRes := [.tmp 2]
theorem zye:Tryz.f52.body.bind (zh Tryz.prog 73)=some L52:=by kernel_rfl
theorem zyf:zj Tryz.prog Tryz.f52.results.toList=some R52:=by kernel_rfl
def L53:LC:=(.seq (.reg none [.q 2 (.alloc [.int .i64 0,.nilsl,.nilsl]),.q 3 (.mv (.val (.w 0)))]) (.seq (.seq (.reg none [.m 4 0,.q 5 (.bin .neq (.t 4) (.val (.w 0))),.m 6 5,.g 7 (.mv (.t 0)) 6 true,.g 8 (.bin .neq (.t 7) (.val (.w 1))) 6 true,.q 9 (.pick (.t 6) (.t 8) (.val (.bool false)))]) (.cond (.t 9) (.seq (.reg none [.q 10 (.build [.int .i64 0,.nilsl,.nilsl] []),.s (.store 3 (.t 2) (.t 10)),.q 3 (.mv (.val (.w 3)))]) .ret) .skip)) (.seq (.reg none [.m 11 0,.q 12 (.build [.int .i64 0,.nilsl,.nilsl] [(0,(1,(.t 11)))]),.s (.store 3 (.t 2) (.t 12)),.q 3 (.mv (.val (.w 0)))]) .ret)))
def R53:List LRes := [(.cell 2 3 true),.tmp 3]
theorem zyg:Tryz.f53.body.bind (zh Tryz.prog 13)=some L53:=by kernel_rfl
theorem zyh:zj Tryz.prog Tryz.f53.results.toList=some R53:=by kernel_rfl
def L54:LC:=(.seq (.reg none [.q 1 (.box (.t 0)),.q 2 (.mv (.val (.w 0)))]) (.seq (.seq (.reg none [.a 7 0 1,.l 8 1 7,.q 9 (.bin .neq (.t 8) (.val (.w 0))),.m 10 9,.g 11 (.addr 0 (.t 1)) 10 true,.g 12 (.load 1 false (.t 11)) 10 true,.g 13 (.bin .neq (.t 12) (.val (.w 1))) 10 true,.q 14 (.pick (.t 10) (.t 13) (.val (.bool false)))]) (.cond (.t 14) (.seq (.reg none [.q 2 (.mv (.val (.w 3)))]) .ret) .skip)) (.seq (.seq (.reg none [.a 15 1 1,.l 16 1 15,.q 17 (.call 75 [.t 16] 0),.m 3 17]) (.seq (.reg none [.m 18 3,.q 19 (.bin .neq (.t 18) (.val (.w 0)))]) (.cond (.t 19) (.seq (.reg none [.m 20 3,.m 2 20]) .ret) .skip))) (.seq (.seq (.reg none [.a 21 2 1,.l 22 1 21,.n 23 22,.q 24 (.bin .gtr (.t 23) (.val (.w 20)))]) (.cond (.t 24) (.seq (.reg none [.q 2 (.mv (.val (.w 2)))]) .ret) .skip)) (.seq (.seq (.reg none [.a 25 2 1,.l 26 1 25,.n 27 26,.q 28 (.mv (.val (.w 0)))]) (.block 0 (.loop (.seq (.reg none [.b 29 .lss 28 27]) (.seq (.cond (.t 29) .skip (.exit 0)) (.seq (.block 1 (.seq (.reg none [.m 30 28,.i 31 5 26 28,.k 32 5 31,.q 5 (.alloc [.int .i64 0,.int .i64 0,.int .i64 0,.str ⟨#[]⟩,.nilsl]),.m 4 30,.s (.store 5 (.t 5) (.t 32))]) (.seq (.seq (.reg none [.k 33 5 5,.q 34 (.call 70 [.t 33] 0),.m 6 34]) (.seq (.reg none [.m 35 6,.q 36 (.bin .neq (.t 35) (.val (.w 0)))]) (.cond (.t 36) (.seq (.reg none [.m 37 6,.m 2 37]) .ret) .skip))) (.seq (.reg (some []) [.m 38 4,.q 39 (.bin .gtr (.t 38) (.val (.w 0))),.m 40 39,.y 41 (.addr 2 (.t 1)) 40 true,.y 42 (.load 1 false (.t 41)) 40 true,.g 43 (.mv (.t 4)) 40 true,.g 44 (.bin .sub (.t 43) (.val (.w 1))) 40 true,.y 45 (.iaddrS 5 (.t 42) (.t 44)) 40 true,.y 46 (.addr 0 (.t 45)) 40 true,.y 47 (.load 2 true (.t 46)) 40 true,.y 48 (.addr 0 (.t 5)) 40 true,.y 49 (.load 2 true (.t 48)) 40 true,.g 50 (.call 93 [.t 47,.t 49] 0) 40 true,.g 51 (.not (.t 50)) 40 true,.q 52 (.pick (.t 40) (.t 51) (.val (.bool false))),.m 53 52,.y 54 (.addr 0 (.t 5)) 53 false,.y 55 (.addr 0 (.t 54)) 53 false,.y 56 (.load 1 false (.t 55)) 53 false,.y 57 (.addr 0 (.t 1)) 53 false,.y 58 (.load 1 false (.t 57)) 53 false,.g 59 (.bin .eql (.t 56) (.t 58)) 53 false,.q 60 (.pick (.t 53) (.val (.bool true)) (.t 59)),.m 61 60,.y 62 (.addr 1 (.t 1)) 61 false,.y 63 (.load 1 false (.t 62)) 61 false,.y 64 (.addr 0 (.t 5)) 61 false,.y 65 (.load 2 true (.t 64)) 61 false,.g 66 (.call 105 [.t 63,.t 65] 0) 61 false,.g 67 (.bin .geq (.t 66) (.val (.w 0))) 61 false,.q 68 (.pick (.t 61) (.val (.bool true)) (.t 67)),.m 69 68,.y 70 (.addr 1 (.t 1)) 69 false,.y 71 (.load 1 false (.t 70)) 69 false,.y 72 (.load 5 true (.t 5)) 69 false,.g 73 (.call 129 [.t 71,.t 72] 0) 69 false,.q 74 (.pick (.t 69) (.val (.bool true)) (.t 73))]) (.cond (.t 74) (.seq (.reg none [.q 2 (.mv (.val (.w 4)))]) .ret) .skip))))) (.reg none [.q 75 (.bin .add (.t 28) (.val (.w 1))),.m 28 75]))))))) (.seq (.reg none [.q 2 (.mv (.val (.w 0)))]) .ret))))))
def R54:List LRes := [.tmp 2]
theorem zyi:Tryz.f54.body.bind (zh Tryz.prog 76)=some L54:=by kernel_rfl
theorem zyj:zj Tryz.prog Tryz.f54.results.toList=some R54:=by kernel_rfl
def L55:LC:=(.seq (.reg none [.q 4 (.mv (.val (.str ⟨#[]⟩))),.q 5 (.mv (.val (.w 0)))]) (.seq (.reg none [.m 9 0,.m 10 1,.q 11 (.call 35 [.t 9,.t 10] 0),.m 8 11,.e 12 0 8,.e 13 1 8,.m 6 12,.m 7 13]) (.seq (.seq (.reg none [.m 14 7,.q 15 (.bin .neq (.t 14) (.val (.w 0)))]) (.cond (.t 15) (.seq (.reg none [.m 16 7,.q 4 (.mv (.val (.str ⟨#[]⟩))),.m 5 16]) .ret) .skip)) (.seq (.reg none [.m 17 6,.q 18 (.call 130 [.t 17] 0),.m 4 18,.q 5 (.mv (.val (.w 0)))]) .ret))))
def R55:List LRes := [.tmp 4,.tmp 5]
theorem zyk:Tryz.f55.body.bind (zh Tryz.prog 19)=some L55:=by kernel_rfl
theorem zyl:zj Tryz.prog Tryz.f55.results.toList=some R55:=by kernel_rfl
def L56:LC:=(.seq (.reg none [.q 2 (.box (.t 0)),.q 4 (.mv (.val (.bool false))),.q 5 (.mv (.val (.w 0)))]) (.seq (.reg none [.k 7 2 2,.q 8 (.call 52 [.t 7] 0),.m 6 8]) (.seq (.seq (.reg none [.m 9 6,.q 10 (.bin .eql (.t 9) (.val (.w 0))),.m 11 10,.g 12 (.mv (.t 1)) 11 true,.g 13 (.call 103 [.t 12] 0) 11 true,.g 14 (.not (.t 13)) 11 true,.q 15 (.pick (.t 11) (.t 14) (.val (.bool false)))]) (.cond (.t 15) (.reg none [.q 6 (.mv (.val (.w 3)))]) .skip)) (.seq (.seq (.reg none [.m 16 6,.q 17 (.bin .neq (.t 16) (.val (.w 0)))]) (.cond (.t 17) (.seq (.reg none [.m 18 6,.q 4 (.mv (.val (.bool false))),.m 5 18]) .ret) .skip)) (.seq (.reg (some []) [.z 19 (.addr 0 (.t 2)),.z 20 (.load 1 false (.t 19)),.z 21 (.iaddrS 3 (.t 20) (.val (.w 0))),.z 22 (.addr 1 (.t 21)),.z 23 (.load 1 false (.t 22)),.m 24 1,.z 25 (.call 108 [.t 23,.t 24] 0),.z 26 (.call 130 [.t 25] 0),.z 27 (.addr 0 (.t 2)),.z 28 (.load 1 false (.t 27)),.z 29 (.iaddrS 3 (.t 28) (.val (.w 1))),.z 30 (.addr 1 (.t 29)),.z 31 (.load 1 false (.t 30)),.m 32 1,.q 33 (.call 108 [.t 31,.t 32] 0),.q 34 (.call 130 [.t 33] 0),.b 35 .eql 26 34,.m 4 35,.q 5 (.mv (.val (.w 0)))]) .ret)))))
def R56:List LRes := [.tmp 4,.tmp 5]
theorem zym:Tryz.f56.body.bind (zh Tryz.prog 36)=some L56:=by kernel_rfl
theorem zyn:zj Tryz.prog Tryz.f56.results.toList=some R56:=by kernel_rfl
def L57:LC:=(.seq (.reg none [.q 1 (.box (.t 0)),.q 2 (.mv (.val (.w 0)))]) (.seq (.seq (.reg none [.a 7 0 1,.l 8 1 7,.q 9 (.call 60 [.t 8,.val (.w 0),.val (.w 1)] 0),.q 10 (.not (.t 9))]) (.cond (.t 10) (.seq (.reg none [.q 2 (.mv (.val (.w 3)))]) .ret) .skip)) (.seq (.reg none [.a 11 1 1,.l 12 1 11,.q 13 (.call 94 [.t 12] 0),.m 3 13]) (.seq (.seq (.reg none [.m 14 3,.q 15 (.bin .neq (.t 14) (.val (.w 0)))]) (.cond (.t 15) (.seq (.reg none [.m 16 3,.m 2 16]) .ret) .skip)) (.seq (.seq (.reg none [.a 17 2 1,.l 18 1 17,.n 19 18,.q 20 (.bin .gtr (.t 19) (.val (.w 20)))]) (.cond (.t 20) (.seq (.reg none [.q 2 (.mv (.val (.w 2)))]) .ret) .skip)) (.seq (.seq (.reg none [.q 4 (.mv (.val (.w 0)))]) (.block 0 (.loop (.seq (.seq (.reg none [.m 21 4,.a 22 2 1,.l 23 1 22,.n 24 23,.b 25 .lss 21 24]) (.cond (.t 25) .skip (.exit 0))) (.seq (.block 1 (.seq (.reg none [.a 28 2 1,.l 29 1 28,.m 30 4,.i 31 5 29 30,.k 32 5 31,.q 5 (.alloc [.int .i64 0,.int .i64 0,.int .i64 0,.str ⟨#[]⟩,.nilsl]),.s (.store 5 (.t 5) (.t 32))]) (.seq (.reg none [.k 33 5 5,.q 34 (.call 58 [.t 33] 0),.m 6 34]) (.seq (.seq (.reg none [.m 35 6,.q 36 (.bin .neq (.t 35) (.val (.w 0)))]) (.cond (.t 36) (.seq (.reg none [.m 37 6,.m 2 37]) .ret) .skip)) (.seq (.reg (some []) [.m 38 4,.q 39 (.bin .gtr (.t 38) (.val (.w 0))),.m 40 39,.y 41 (.addr 2 (.t 1)) 40 true,.y 42 (.load 1 false (.t 41)) 40 true,.g 43 (.mv (.t 4)) 40 true,.g 44 (.bin .sub (.t 43) (.val (.w 1))) 40 true,.y 45 (.iaddrS 5 (.t 42) (.t 44)) 40 true,.y 46 (.addr 0 (.t 45)) 40 true,.y 47 (.load 2 true (.t 46)) 40 true,.y 48 (.addr 0 (.t 5)) 40 true,.y 49 (.load 2 true (.t 48)) 40 true,.g 50 (.call 131 [.t 47,.t 49] 0) 40 true,.g 51 (.not (.t 50)) 40 true,.q 52 (.pick (.t 40) (.t 51) (.val (.bool false))),.m 53 52,.y 54 (.addr 0 (.t 5)) 53 false,.y 55 (.addr 0 (.t 54)) 53 false,.y 56 (.load 1 false (.t 55)) 53 false,.y 57 (.addr 0 (.t 1)) 53 false,.y 58 (.load 1 false (.t 57)) 53 false,.g 59 (.bin .eql (.t 56) (.t 58)) 53 false,.q 60 (.pick (.t 53) (.val (.bool true)) (.t 59)),.m 61 60,.y 62 (.addr 1 (.t 1)) 61 false,.y 63 (.load 1 false (.t 62)) 61 false,.y 64 (.addr 0 (.t 5)) 61 false,.y 65 (.load 2 true (.t 64)) 61 false,.g 66 (.call 96 [.t 63,.t 65] 0) 61 false,.g 67 (.bin .geq (.t 66) (.val (.w 0))) 61 false,.q 68 (.pick (.t 61) (.val (.bool true)) (.t 67)),.m 69 68,.y 70 (.addr 1 (.t 1)) 69 false,.y 71 (.load 1 false (.t 70)) 69 false,.y 72 (.load 5 true (.t 5)) 69 false,.g 73 (.call 132 [.t 71,.t 72] 0) 69 false,.q 74 (.pick (.t 69) (.val (.bool true)) (.t 73))]) (.cond (.t 74) (.seq (.reg none [.q 2 (.mv (.val (.w 4)))]) .ret) .skip)))))) (.reg none [.m 26 4,.q 27 (.bin .add (.t 26) (.val (.w 1))),.m 4 27])))))) (.seq (.reg none [.q 2 (.mv (.val (.w 0)))]) .ret)))))))
def R57:List LRes := [.tmp 2]
theorem zyo:Tryz.f57.body.bind (zh Tryz.prog 75)=some L57:=by kernel_rfl
theorem zyp:zj Tryz.prog Tryz.f57.results.toList=some R57:=by kernel_rfl
def L58:LC:=(.seq (.reg none [.q 1 (.box (.t 0)),.q 2 (.mv (.val (.w 0)))]) (.seq (.seq (.reg none [.a 4 0 1,.k 5 2 4,.q 6 (.call 133 [.t 5] 0),.q 7 (.not (.t 6)),.m 8 7,.g 9 (.addr 2 (.t 1)) 8 false,.g 10 (.load 1 false (.t 9)) 8 false,.g 11 (.call 60 [.t 10,.val (.w 1),.val (.w 7)] 0) 8 false,.g 12 (.not (.t 11)) 8 false,.q 13 (.pick (.t 8) (.val (.bool true)) (.t 12))]) (.cond (.t 13) (.seq (.reg none [.q 2 (.mv (.val (.w 3)))]) .ret) .skip)) (.seq (.seq (.reg none [.a 14 3 1,.l 15 1 14,.q 16 (.len true (.t 15)),.q 17 (.bin .gtr (.t 16) (.val (.w 12))),.m 18 17,.g 19 (.addr 4 (.t 1)) 18 false,.g 20 (.load 1 false (.t 19)) 18 false,.g 21 (.len false (.t 20)) 18 false,.g 22 (.bin .gtr (.t 21) (.val (.w 6))) 18 false,.q 23 (.pick (.t 18) (.val (.bool true)) (.t 22))]) (.cond (.t 23) (.seq (.reg none [.q 2 (.mv (.val (.w 2)))]) .ret) .skip)) (.seq (.seq (.reg none [.q 3 (.mv (.val (.w 0)))]) (.block 0 (.loop (.seq (.seq (.reg none [.m 24 3,.a 25 4 1,.l 26 1 25,.n 27 26,.b 28 .lss 24 27]) (.cond (.t 28) .skip (.exit 0))) (.seq (.block 1 (.seq (.seq (.reg none [.a 31 4 1,.l 32 1 31,.m 33 3,.i 34 2 32 33,.k 35 2 34,.q 36 (.call 133 [.t 35] 0),.q 37 (.not (.t 36))]) (.cond (.t 37) (.seq (.reg none [.q 2 (.mv (.val (.w 3)))]) .ret) .skip)) (.seq (.reg (some []) [.m 38 3,.q 39 (.bin .gtr (.t 38) (.val (.w 0))),.m 40 39,.y 41 (.addr 4 (.t 1)) 40 true,.y 42 (.load 1 false (.t 41)) 40 true,.g 43 (.mv (.t 3)) 40 true,.g 44 (.bin .sub (.t 43) (.val (.w 1))) 40 true,.y 45 (.iaddrS 2 (.t 42) (.t 44)) 40 true,.y 46 (.load 2 true (.t 45)) 40 true,.y 47 (.addr 4 (.t 1)) 40 true,.y 48 (.load 1 false (.t 47)) 40 true,.g 49 (.mv (.t 3)) 40 true,.y 50 (.iaddrS 2 (.t 48) (.t 49)) 40 true,.y 51 (.load 2 true (.t 50)) 40 true,.g 52 (.call 131 [.t 46,.t 51] 0) 40 true,.g 53 (.not (.t 52)) 40 true,.q 54 (.pick (.t 40) (.t 53) (.val (.bool false))),.m 55 54,.y 56 (.addr 4 (.t 1)) 55 false,.y 57 (.load 1 false (.t 56)) 55 false,.g 58 (.mv (.t 3)) 55 false,.y 59 (.iaddrS 2 (.t 57) (.t 58)) 55 false,.y 60 (.addr 0 (.t 59)) 55 false,.y 61 (.load 1 false (.t 60)) 55 false,.y 62 (.addr 0 (.t 1)) 55 false,.y 63 (.addr 0 (.t 62)) 55 false,.y 64 (.load 1 false (.t 63)) 55 false,.g 65 (.bin .eql (.t 61) (.t 64)) 55 false,.g 66 (.mv (.t 65)) 55 false,.y 67 (.addr 4 (.t 1)) 66 true,.y 68 (.load 1 false (.t 67)) 66 true,.g 69 (.mv (.t 3)) 66 true,.y 70 (.iaddrS 2 (.t 68) (.t 69)) 66 true,.y 71 (.addr 1 (.t 70)) 66 true,.y 72 (.load 1 false (.t 71)) 66 true,.y 73 (.addr 0 (.t 1)) 66 true,.y 74 (.addr 1 (.t 73)) 66 true,.y 75 (.load 1 false (.t 74)) 66 true,.g 76 (.bin .geq (.t 72) (.t 75)) 66 true,.g 77 (.pick (.t 66) (.t 76) (.val (.bool false))) 55 false,.q 78 (.pick (.t 55) (.val (.bool true)) (.t 77))]) (.cond (.t 78) (.seq (.reg none [.q 2 (.mv (.val (.w 4)))]) .ret) .skip)))) (.reg none [.m 29 3,.q 30 (.bin .add (.t 29) (.val (.w 1))),.m 3 30])))))) (.seq (.reg none [.q 2 (.mv (.val (.w 0)))]) .ret)))))
def R58:List LRes := [.tmp 2]
theorem zyq:Tryz.f58.body.bind (zh Tryz.prog 79)=some L58:=by kernel_rfl
theorem zyr:zj Tryz.prog Tryz.f58.results.toList=some R58:=by kernel_rfl
def L59:LC:=(.seq (.reg none [.q 2 (.box (.t 0)),.q 3 (.box (.t 1)),.q 4 (.mv (.val (.bool false)))]) (.seq (.reg none [.a 7 0 2,.l 8 1 7,.a 9 0 3,.a 10 0 9,.l 11 1 10,.i 12 3 8 11,.a 13 1 12,.l 14 1 13,.m 5 14]) (.seq (.reg none [.m 15 5,.a 16 0 3,.k 17 2 16,.q 18 (.call 96 [.t 15,.t 17] 0),.m 6 18]) (.seq (.reg (some []) [.m 19 6,.q 20 (.bin .geq (.t 19) (.val (.w 0))),.m 21 20,.g 22 (.mv (.t 5)) 21 true,.g 23 (.mv (.t 6)) 21 true,.y 24 (.iaddrS 5 (.t 22) (.t 23)) 21 true,.y 25 (.load 5 true (.t 24)) 21 true,.y 26 (.load 5 true (.t 3)) 21 true,.g 27 (.call 19 [.t 25,.t 26] 0) 21 true,.q 28 (.pick (.t 21) (.t 27) (.val (.bool false))),.m 4 28]) .ret))))
def R59:List LRes := [.tmp 4]
theorem zys:Tryz.f59.body.bind (zh Tryz.prog 29)=some L59:=by kernel_rfl
theorem zyt:zj Tryz.prog Tryz.f59.results.toList=some R59:=by kernel_rfl
def L60:LC:=(.seq (.reg none [.q 6 (.mv (.val (.bool false)))]) (.seq (.reg none [.m 7 0,.m 8 1,.b 9 .geq 7 8,.m 10 9,.g 11 (.mv (.t 0)) 10 true,.g 12 (.mv (.t 2)) 10 true,.g 13 (.bin .leq (.t 11) (.t 12)) 10 true,.q 14 (.pick (.t 10) (.t 13) (.val (.bool false))),.m 6 14]) .ret))
def R60:List LRes := [.tmp 6]
theorem zyu:Tryz.f60.body.bind (zh Tryz.prog 15)=some L60:=by kernel_rfl
theorem zyv:zj Tryz.prog Tryz.f60.results.toList=some R60:=by kernel_rfl
def L61:LC:=(.seq (.reg none [.q 2 (.box (.t 0)),.q 4 (.alloc [.nilsl,.nilsl]),.q 5 (.mv (.val (.w 0)))]) (.seq (.reg none [.k 11 2 2,.q 12 (.call 62 [.t 11] 0),.q 6 (.alloc [.nilsl,.nilsl]),.s (.store 2 (.t 6) (.t 12))]) (.seq (.reg none [.a 13 0 2,.l 14 1 13,.m 15 1,.q 16 (.bin .sub (.val (.w 1)) (.t 15)),.i 17 3 14 16,.a 18 1 17,.l 19 1 18,.m 7 19]) (.seq (.seq (.reg none [.q 8 (.mv (.val (.w 0)))]) (.block 0 (.loop (.seq (.seq (.reg none [.m 20 8,.m 21 7,.n 22 21,.b 23 .lss 20 22]) (.cond (.t 23) .skip (.exit 0))) (.seq (.block 1 (.seq (.reg none [.m 26 7,.m 27 8,.i 28 5 26 27,.a 29 0 28,.a 30 0 29,.l 31 1 30,.m 32 1,.b 33 .neq 31 32]) (.cond (.t 33) (.seq (.reg (some [(0,13),(1,13),(3,13),(4,13),(7,13),(8,13),(9,13)]) [.z 35 (.addr 0 (.t 6)),.z 36 (.load 1 false (.t 35)),.m 37 1,.z 38 (.iaddrS 3 (.t 36) (.t 37)),.z 39 (.load 3 true (.t 38)),.m 40 7,.m 41 8,.z 42 (.iaddrS 5 (.t 40) (.t 41)),.z 43 (.load 5 true (.t 42)),.z 44 (.call 64 [.t 39,.t 43] 0),.m 34 44,.e 45 0 34,.e 46 1 34,.z 9 (.alloc [.int .i64 0,.nilsl,.nilsl]),.s (.store 3 (.t 9) (.t 45)),.m 10 46]) (.seq (.seq (.reg none [.m 47 10,.q 48 (.bin .neq (.t 47) (.val (.w 0)))]) (.cond (.t 48) (.seq (.reg none [.q 49 (.build [.nilsl,.nilsl] []),.m 50 10,.s (.store 2 (.t 4) (.t 49)),.m 5 50]) .ret) .skip)) (.reg none [.a 51 0 6,.l 52 1 51,.m 53 1,.k 54 3 9,.i 55 3 52 53,.s (.store 3 (.t 55) (.t 54))]))) .skip))) (.reg none [.m 24 8,.q 25 (.bin .add (.t 24) (.val (.w 1))),.m 8 25])))))) (.seq (.reg none [.k 56 2 6,.s (.store 2 (.t 4) (.t 56)),.q 5 (.mv (.val (.w 0)))]) .ret)))))
def R61:List LRes := [(.cell 4 2 true),.tmp 5]
theorem zt2:Tryz.f61.body.bind (zh Tryz.prog 57)=some L61:=by kernel_rfl
theorem zt3:zj Tryz.prog Tryz.f61.results.toList=some R61:=by kernel_rfl
def L62:LC:=(.seq (.reg none [.q 1 (.box (.t 0)),.q 2 (.alloc [.nilsl,.nilsl])]) (.seq (.regS [(36,(3,false)),(34,(1,false))] [(0,1),(0,2),(0,4),(1,4),(2,4),(3,4),(0,5),(3,5),(4,5),(0,6),(3,6),(4,6)] [.z 3 (.mk0i 36 3 0),.z 4 (.addr 0 (.t 1)),.z 5 (.load 1 false (.t 4)),.z 6 (.append 36 3 56 (.t 3) (.t 5)),.z 7 (.mk0i 34 1 1),.z 8 (.addr 1 (.t 1)),.z 9 (.load 1 false (.t 8)),.q 10 (.append 34 1 24 (.t 7) (.t 9)),.q 11 (.build [.nilsl,.nilsl] [(0,(1,(.t 6))),(1,(1,(.t 10)))]),.s (.store 2 (.t 2) (.t 11))]) .ret))
def R62:List LRes := [(.cell 2 2 true)]
theorem zyw:Tryz.f62.body.bind (zh Tryz.prog 12)=some L62:=by kernel_rfl
theorem zyx:zj Tryz.prog Tryz.f62.results.toList=some R62:=by kernel_rfl
def L63:LC:=(.seq (.reg none [.q 3 (.box (.t 0)),.q 6 (.alloc [.int .i64 0,.nilsl,.nilsl]),.q 7 (.alloc [.int .i64 0,.int .i64 0,.int .i64 0,.str ⟨#[]⟩,.nilsl]),.q 8 (.mv (.val (.w 0)))]) (.seq (.seq (.reg none [.m 11 1,.q 12 (.call 60 [.t 11,.val (.w 1),.val (.w 7)] 0),.q 13 (.not (.t 12))]) (.cond (.t 13) (.seq (.reg none [.q 14 (.build [.int .i64 0,.nilsl,.nilsl] []),.q 15 (.build [.int .i64 0,.int .i64 0,.int .i64 0,.str ⟨#[]⟩,.nilsl] []),.s (.store 3 (.t 6) (.t 14)),.s (.store 5 (.t 7) (.t 15)),.q 8 (.mv (.val (.w 3)))]) .ret) .skip)) (.seq (.reg (some [(0,17),(1,17),(2,17),(3,17),(4,17),(5,17),(6,17),(12,17),(13,17),(15,17)]) [.z 16 (.addr 0 (.t 3)),.z 17 (.load 1 false (.t 16)),.z 18 (.addr 1 (.t 3)),.z 19 (.load 1 false (.t 18)),.z 20 (.call 134 [.t 19] 0),.z 21 (.addr 0 (.t 3)),.z 22 (.load 1 false (.t 21)),.q 23 (.idxA 1 2 false (.t 20) (.t 22)),.q 24 (.bin .add (.t 23) (.val (.w 1))),.q 25 (.build [.int .i64 0,.int .i64 0] [(0,(1,(.t 17))),(1,(1,(.t 24)))]),.m 26 1,.m 27 2,.z 28 (.addr 1 (.t 3)),.z 29 (.load 1 false (.t 28)),.m 30 1,.z 31 (.call 135 [.t 29,.t 30] 0),.q 32 (.build [.int .i64 0,.int .i64 0,.int .i64 0,.str ⟨#[]⟩,.nilsl] [(0,(2,(.t 25))),(2,(1,(.t 26))),(3,(1,(.t 27))),(4,(1,(.t 31)))]),.z 9 (.alloc [.int .i64 0,.int .i64 0,.int .i64 0,.str ⟨#[]⟩,.nilsl]),.s (.store 5 (.t 9) (.t 32))]) (.seq (.seq (.reg none [.m 33 2,.q 34 (.len true (.t 33)),.q 35 (.bin .gtr (.t 34) (.val (.w 12))),.m 36 35,.g 37 (.addr 0 (.t 9)) 36 false,.g 38 (.addr 1 (.t 37)) 36 false,.g 39 (.load 1 false (.t 38)) 36 false,.g 40 (.bin .gtr (.t 39) (.val (.w 20))) 36 false,.q 41 (.pick (.t 36) (.val (.bool true)) (.t 40)),.m 42 41,.g 43 (.addr 1 (.t 3)) 42 false,.g 44 (.load 1 false (.t 43)) 42 false,.g 45 (.len false (.t 44)) 42 false,.g 46 (.bin .eql (.t 45) (.val (.w 40))) 42 false,.q 47 (.pick (.t 42) (.val (.bool true)) (.t 46)),.m 48 47,.g 49 (.addr 4 (.t 9)) 48 false,.g 50 (.load 1 false (.t 49)) 48 false,.g 51 (.len false (.t 50)) 48 false,.g 52 (.bin .gtr (.t 51) (.val (.w 6))) 48 false,.q 53 (.pick (.t 48) (.val (.bool true)) (.t 52))]) (.cond (.t 53) (.seq (.reg none [.q 54 (.build [.int .i64 0,.nilsl,.nilsl] []),.q 55 (.build [.int .i64 0,.int .i64 0,.int .i64 0,.str ⟨#[]⟩,.nilsl] []),.s (.store 3 (.t 6) (.t 54)),.s (.store 5 (.t 7) (.t 55)),.q 8 (.mv (.val (.w 2)))]) .ret) .skip)) (.seq (.regS [(32,(5,false))] [(0,2),(1,2),(2,3),(2,4),(0,5),(1,5),(2,6),(5,6),(0,8),(1,8),(2,9),(5,9),(8,9),(2,10),(5,10),(8,10),(0,12),(1,12),(2,12),(3,12),(4,12),(5,12),(6,12),(8,12),(9,12),(10,12)] [.z 56 (.addr 0 (.t 3)),.z 57 (.load 1 false (.t 56)),.z 58 (.mk0i 32 5 0),.z 59 (.addr 1 (.t 3)),.z 60 (.load 1 false (.t 59)),.z 61 (.append 32 5 64 (.t 58) (.t 60)),.z 62 (.load 5 true (.t 9)),.q 63 (.mks 5 [.int .i64 0,.int .i64 0,.int .i64 0,.str ⟨#[]⟩,.nilsl] 1 [(0,(.t 62))]),.z 64 (.append 32 5 64 (.t 61) (.t 63)),.z 65 (.addr 2 (.t 3)),.z 66 (.load 1 false (.t 65)),.q 67 (.build [.int .i64 0,.nilsl,.nilsl] [(0,(1,(.t 57))),(1,(1,(.t 64))),(2,(1,(.t 66)))]),.z 10 (.alloc [.int .i64 0,.nilsl,.nilsl]),.s (.store 3 (.t 10) (.t 67))]) (.seq (.reg (some [(2,3)]) [.z 68 (.load 3 true (.t 10)),.z 69 (.call 136 [.t 68] 0),.z 70 (.load 5 true (.t 9)),⟨none,(.store 3 (.t 6) (.t 69)),none,false⟩,.s (.store 5 (.t 7) (.t 70)),.q 8 (.mv (.val (.w 0)))]) .ret))))))
def R63:List LRes := [(.cell 6 3 true),(.cell 7 5 true),.tmp 8]
theorem zyy:Tryz.f63.body.bind (zh Tryz.prog 71)=some L63:=by kernel_rfl
theorem zyz:zj Tryz.prog Tryz.f63.results.toList=some R63:=by kernel_rfl
def L64:LC:=(.seq (.reg none [.q 2 (.box (.t 0)),.q 3 (.box (.t 1)),.q 4 (.alloc [.int .i64 0,.nilsl,.nilsl]),.q 5 (.mv (.val (.w 0)))]) (.seq (.seq (.reg none [.a 9 1 2,.l 10 1 9,.a 11 0 3,.k 12 2 11,.q 13 (.call 96 [.t 10,.t 12] 0),.q 14 (.bin .geq (.t 13) (.val (.w 0))),.m 15 14,.g 16 (.addr 2 (.t 2)) 15 false,.g 17 (.load 1 false (.t 16)) 15 false,.g 18 (.addr 0 (.t 3)) 15 false,.g 19 (.load 2 true (.t 18)) 15 false,.g 20 (.call 96 [.t 17,.t 19] 0) 15 false,.g 21 (.bin .geq (.t 20) (.val (.w 0))) 15 false,.q 22 (.pick (.t 15) (.val (.bool true)) (.t 21))]) (.cond (.t 22) (.seq (.reg none [.k 23 3 2,.s (.store 3 (.t 4) (.t 23)),.q 5 (.mv (.val (.w 0)))]) .ret) .skip)) (.seq (.seq (.reg none [.a 24 0 3,.a 25 0 24,.l 26 1 25,.a 27 0 2,.l 28 1 27,.b 29 .eql 26 28]) (.cond (.t 29) (.seq (.reg none [.q 30 (.build [.int .i64 0,.nilsl,.nilsl] []),.s (.store 3 (.t 4) (.t 30)),.q 5 (.mv (.val (.w 4)))]) .ret) .skip)) (.seq (.reg none [.a 31 0 2,.l 32 1 31,.a 33 1 2,.l 34 1 33,.q 35 (.build [.int .i64 0,.nilsl,.nilsl] [(0,(1,(.t 32))),(1,(1,(.t 34)))]),.q 6 (.alloc [.int .i64 0,.nilsl,.nilsl]),.s (.store 3 (.t 6) (.t 35))]) (.seq (.reg none [.q 7 (.mv (.val (.bool false)))]) (.seq (.seq (.reg none [.q 8 (.mv (.val (.w 0)))]) (.block 0 (.loop (.seq (.seq (.reg none [.m 36 8,.a 37 2 2,.l 38 1 37,.n 39 38,.b 40 .lss 36 39]) (.cond (.t 40) .skip (.exit 0))) (.seq (.block 1 (.seq (.seq (.reg (some []) [.m 43 7,.q 44 (.not (.t 43)),.m 45 44,.y 46 (.addr 0 (.t 3)) 45 true,.y 47 (.load 2 true (.t 46)) 45 true,.y 48 (.addr 2 (.t 2)) 45 true,.y 49 (.load 1 false (.t 48)) 45 true,.g 50 (.mv (.t 8)) 45 true,.y 51 (.iaddrS 5 (.t 49) (.t 50)) 45 true,.y 52 (.addr 0 (.t 51)) 45 true,.y 53 (.load 2 true (.t 52)) 45 true,.g 54 (.call 131 [.t 47,.t 53] 0) 45 true,.q 55 (.pick (.t 45) (.t 54) (.val (.bool false)))]) (.cond (.t 55) (.seq (.reg none [.a 56 2 6,.l 57 1 56,.k 58 5 3,.q 59 (.mks 5 [.int .i64 0,.int .i64 0,.int .i64 0,.str ⟨#[]⟩,.nilsl] 1 [(0,(.t 58))]),.q 60 (.append 32 5 64 (.t 57) (.t 59)),.a 61 2 6,.s (.store 1 (.t 61) (.t 60))]) (.reg none [.q 7 (.mv (.val (.bool true)))])) .skip)) (.reg (some []) [.z 62 (.addr 2 (.t 6)),.z 63 (.load 1 false (.t 62)),.z 64 (.addr 2 (.t 2)),.z 65 (.load 1 false (.t 64)),.m 66 8,.z 67 (.iaddrS 5 (.t 65) (.t 66)),.z 68 (.load 5 true (.t 67)),.q 69 (.mks 5 [.int .i64 0,.int .i64 0,.int .i64 0,.str ⟨#[]⟩,.nilsl] 1 [(0,(.t 68))]),.q 70 (.append 32 5 64 (.t 63) (.t 69)),.a 71 2 6,.s (.store 1 (.t 71) (.t 70))]))) (.reg none [.m 41 8,.q 42 (.bin .add (.t 41) (.val (.w 1))),.m 8 42])))))) (.seq (.seq (.reg none [.m 72 7,.q 73 (.not (.t 72))]) (.cond (.t 73) (.reg none [.a 74 2 6,.l 75 1 74,.k 76 5 3,.q 77 (.mks 5 [.int .i64 0,.int .i64 0,.int .i64 0,.str ⟨#[]⟩,.nilsl] 1 [(0,(.t 76))]),.q 78 (.append 32 5 64 (.t 75) (.t 77)),.a 79 2 6,.s (.store 1 (.t 79) (.t 78))]) .skip)) (.seq (.reg none [.k 80 3 6,.q 81 (.call 136 [.t 80] 0),.s (.store 3 (.t 6) (.t 81))]) (.seq (.seq (.reg none [.a 82 2 6,.l 83 1 82,.n 84 83,.q 85 (.bin .gtr (.t 84) (.val (.w 20))),.m 86 85,.g 87 (.addr 1 (.t 6)) 86 false,.g 88 (.load 1 false (.t 87)) 86 false,.g 89 (.len false (.t 88)) 86 false,.g 90 (.bin .gtr (.t 89) (.val (.w 40))) 86 false,.q 91 (.pick (.t 86) (.val (.bool true)) (.t 90))]) (.cond (.t 91) (.seq (.reg none [.q 92 (.build [.int .i64 0,.nilsl,.nilsl] []),.s (.store 3 (.t 4) (.t 92)),.q 5 (.mv (.val (.w 2)))]) .ret) .skip)) (.seq (.reg none [.k 93 3 6,.s (.store 3 (.t 4) (.t 93)),.q 5 (.mv (.val (.w 0)))]) .ret))))))))))
def R64:List LRes := [(.cell 4 3 true),.tmp 5]
theorem zyA:Tryz.f64.body.bind (zh Tryz.prog 94)=some L64:=by kernel_rfl
theorem zyB:zj Tryz.prog Tryz.f64.results.toList=some R64:=by kernel_rfl
def L65:LC:=(.seq (.reg none [.q 4 (.mv (.val .nilsl))]) (.seq (.reg (some [(0,3),(0,8),(4,8)]) [.z 5 (.mk0 32 5),.m 6 0,.m 7 1,.z 8 (.slc 5 (.t 6) none (some (.t 7))),.z 9 (.append 32 5 64 (.t 5) (.t 8)),.m 10 0,.m 11 1,.q 12 (.bin .add (.t 11) (.val (.w 1))),.z 13 (.slc 5 (.t 10) (some (.t 12)) none),.q 14 (.append 32 5 64 (.t 9) (.t 13)),.m 4 14]) .ret))
def R65:List LRes := [.tmp 4]
theorem zyC:Tryz.f65.body.bind (zh Tryz.prog 15)=some L65:=by kernel_rfl
theorem zyD:zj Tryz.prog Tryz.f65.results.toList=some R65:=by kernel_rfl
def L66:LC:=(.seq (.reg none [.q 2 (.box (.t 0)),.q 3 (.box (.t 1)),.q 4 (.alloc [.nilsl,.nilsl]),.q 5 (.mv (.val (.w 0)))]) (.seq (.reg none [.k 8 2 2,.q 9 (.call 67 [.t 8] 0),.m 6 9]) (.seq (.reg none [.q 7 (.mv (.val (.w 0)))]) (.seq (.block 0 (.seq (.reg none [.a 14 0 3,.l 15 1 14,.q 16 (.bin .lss (.t 15) (.val (.w 1))),.m 17 16,.g 18 (.addr 0 (.t 3)) 17 false,.g 19 (.load 1 false (.t 18)) 17 false,.g 20 (.bin .gtr (.t 19) (.val (.w 5))) 17 false,.q 21 (.pick (.t 17) (.val (.bool true)) (.t 20)),.m 13 21]) (.cond (.t 13) (.reg none [.q 7 (.mv (.val (.w 7)))]) (.seq (.reg none [.k 23 5 3,.q 24 (.call 137 [.t 23] 0),.m 22 24]) (.cond (.t 22) (.reg none [.q 7 (.mv (.val (.w 1)))]) (.seq (.reg none [.a 26 1 3,.l 27 1 26,.q 28 (.bin .neq (.t 27) (.val (.w 0))),.m 29 28,.g 30 (.addr 1 (.t 3)) 29 true,.g 31 (.load 1 false (.t 30)) 29 true,.g 32 (.bin .neq (.t 31) (.val (.w 1))) 29 true,.q 33 (.pick (.t 29) (.t 32) (.val (.bool false))),.m 25 33]) (.cond (.t 25) (.reg none [.q 7 (.mv (.val (.w 3)))]) (.reg none [.m 10 6,.k 11 5 3,.q 12 (.call 138 [.t 10,.t 11] 0),.m 7 12])))))))) (.seq (.seq (.reg none [.m 34 7,.q 35 (.bin .neq (.t 34) (.val (.w 0)))]) (.cond (.t 35) (.seq (.reg none [.q 36 (.build [.nilsl,.nilsl] []),.m 37 7,.s (.store 2 (.t 4) (.t 36)),.m 5 37]) .ret) .skip)) (.seq (.reg none [.m 38 6,.q 39 (.nilchk (.t 38)),.a 40 0 39,.k 41 2 40,.s (.store 2 (.t 4) (.t 41)),.q 5 (.mv (.val (.w 0)))]) .ret))))))
def R66:List LRes := [(.cell 4 2 true),.tmp 5]
theorem zt4:Tryz.f66.body.bind (zh Tryz.prog 42)=some L66:=by kernel_rfl
theorem zt5:zj Tryz.prog Tryz.f66.results.toList=some R66:=by kernel_rfl
def L67:LC:=(.seq (.reg none [.q 1 (.box (.t 0)),.q 2 (.mv (.val .nilp))]) (.seq (.reg none [.q 11 (.build [.nilsl,.nilsl] []),.q 12 (.box (.t 11)),.m 3 12]) (.seq (.seq (.reg none [.a 13 0 1,.l 14 1 13,.n 15 14,.q 16 (.mv (.val (.w 0)))]) (.block 0 (.loop (.seq (.reg none [.b 17 .lss 16 15]) (.seq (.cond (.t 17) .skip (.exit 0)) (.seq (.block 1 (.seq (.reg none [.i 18 3 14 16,.k 19 3 18,.q 5 (.alloc [.int .i64 0,.nilsl,.nilsl]),.s (.store 3 (.t 5) (.t 19))]) (.reg (some []) [.m 20 3,.m 21 3,.z 22 (.nilchk (.t 21)),.z 23 (.addr 0 (.t 22)),.z 24 (.addr 0 (.t 23)),.z 25 (.load 1 false (.t 24)),.z 26 (.load 3 true (.t 5)),.z 27 (.call 139 [.t 26] 0),.q 28 (.mks 3 [.int .i64 0,.nilsl,.nilsl] 1 [(0,(.t 27))]),.q 29 (.append 36 3 56 (.t 25) (.t 28)),.q 30 (.nilchk (.t 20)),.a 31 0 30,.a 32 0 31,.s (.store 1 (.t 32) (.t 29))]))) (.reg none [.q 33 (.bin .add (.t 16) (.val (.w 1))),.m 16 33]))))))) (.seq (.seq (.reg none [.a 34 1 1,.l 35 1 34,.n 36 35,.q 37 (.mv (.val (.w 0)))]) (.block 2 (.loop (.seq (.reg none [.b 38 .lss 37 36]) (.seq (.cond (.t 38) .skip (.exit 2)) (.seq (.block 3 (.seq (.reg none [.i 39 1 35 37,.l 40 1 39,.m 7 40]) (.seq (.reg none [.q 8 (.mv (.val .nilsl))]) (.seq (.seq (.reg none [.m 41 7,.n 42 41,.q 43 (.mv (.val (.w 0)))]) (.block 4 (.loop (.seq (.reg none [.b 44 .lss 43 42]) (.seq (.cond (.t 44) .skip (.exit 4)) (.seq (.block 5 (.seq (.reg none [.i 45 5 41 43,.k 46 5 45,.q 10 (.alloc [.int .i64 0,.int .i64 0,.int .i64 0,.str ⟨#[]⟩,.nilsl]),.s (.store 5 (.t 10) (.t 46))]) (.reg none [.m 47 8,.k 48 5 10,.q 49 (.call 140 [.t 48] 0),.q 50 (.mks 5 [.int .i64 0,.int .i64 0,.int .i64 0,.str ⟨#[]⟩,.nilsl] 1 [(0,(.t 49))]),.q 51 (.append 32 5 64 (.t 47) (.t 50)),.m 8 51]))) (.reg none [.q 52 (.bin .add (.t 43) (.val (.w 1))),.m 43 52]))))))) (.reg none [.m 53 3,.m 54 3,.q 55 (.nilchk (.t 54)),.a 56 0 55,.a 57 1 56,.l 58 1 57,.m 59 8,.q 60 (.mks 1 [.nilsl] 1 [(0,(.t 59))]),.q 61 (.append 34 1 24 (.t 58) (.t 60)),.q 62 (.nilchk (.t 53)),.a 63 0 62,.a 64 1 63,.s (.store 1 (.t 64) (.t 61))]))))) (.reg none [.q 65 (.bin .add (.t 37) (.val (.w 1))),.m 37 65]))))))) (.seq (.reg none [.m 66 3,.m 2 66]) .ret)))))
def R67:List LRes := [.tmp 2]
theorem zt6:Tryz.f67.body.bind (zh Tryz.prog 67)=some L67:=by kernel_rfl
theorem zt7:zj Tryz.prog Tryz.f67.results.toList=some R67:=by kernel_rfl
def L68:LC:=(.seq (.reg none [.q 4 (.mv (.val (.w 0)))]) (.seq (.seq (.reg none [.m 8 0,.q 9 (.nilchk (.t 8)),.a 10 0 9,.a 11 0 10,.l 12 1 11,.m 13 1,.q 14 (.bin .sub (.val (.w 1)) (.t 13)),.i 15 3 12 14,.a 16 1 15,.l 17 1 16,.n 18 17,.q 19 (.mv (.val (.w 0)))]) (.block 0 (.loop (.seq (.reg none [.b 20 .lss 19 18]) (.seq (.cond (.t 20) .skip (.exit 0)) (.seq (.block 1 (.seq (.reg none [.i 21 5 17 19,.k 22 5 21,.q 6 (.alloc [.int .i64 0,.int .i64 0,.int .i64 0,.str ⟨#[]⟩,.nilsl]),.s (.store 5 (.t 6) (.t 22))]) (.seq (.seq (.reg none [.a 23 0 6,.a 24 0 23,.l 25 1 24,.m 26 1,.b 27 .eql 25 26]) (.cond (.t 27) (.exit 1) .skip)) (.seq (.reg none [.m 28 0,.m 29 1,.k 30 5 6,.q 31 (.call 141 [.t 28,.t 29,.t 30] 0),.m 7 31]) (.seq (.reg none [.m 32 7,.q 33 (.bin .neq (.t 32) (.val (.w 0)))]) (.cond (.t 33) (.seq (.reg none [.m 34 7,.m 4 34]) .ret) .skip)))))) (.reg none [.q 35 (.bin .add (.t 19) (.val (.w 1))),.m 19 35]))))))) (.seq (.reg none [.q 4 (.mv (.val (.w 0)))]) .ret)))
def R68:List LRes := [.tmp 4]
theorem zt8:Tryz.f68.body.bind (zh Tryz.prog 36)=some L68:=by kernel_rfl
theorem zt9:zj Tryz.prog Tryz.f68.results.toList=some R68:=by kernel_rfl
def L69:LC:=(.seq (.reg none [.q 3 (.box (.t 1))]) (.seq (.reg (some [(1,9),(2,9),(3,9),(4,9),(5,9)]) [.m 7 0,.z 8 (.nilchk (.t 7)),.z 9 (.addr 0 (.t 8)),.z 10 (.load 2 true (.t 9)),.z 11 (.load 5 true (.t 3)),.z 12 (.call 66 [.t 10,.t 11] 0),.m 6 12,.e 13 0 6,.e 14 1 6,.z 4 (.alloc [.nilsl,.nilsl]),.s (.store 2 (.t 4) (.t 13)),.m 5 14]) (.seq (.seq (.reg none [.m 15 5,.q 16 (.bin .eql (.t 15) (.val (.w 0)))]) (.cond (.t 16) (.reg none [.m 17 0,.k 18 2 4,.q 19 (.nilchk (.t 17)),.a 20 0 19,.s (.store 2 (.t 20) (.t 18))]) .skip)) (.reg none [.m 21 0,.m 22 0,.q 23 (.nilchk (.t 22)),.a 24 2 23,.l 25 1 24,.m 26 5,.q 27 (.mks 1 [.int .i64 0] 1 [(0,(.t 26))]),.q 28 (.append 38 1 8 (.t 25) (.t 27)),.q 29 (.nilchk (.t 21)),.a 30 2 29,.s (.store 1 (.t 30) (.t 28))]))))
def R69:List LRes := []
theorem zyE:Tryz.f69.body.bind (zh Tryz.prog 31)=some L69:=by kernel_rfl
theorem zyF:zj Tryz.prog Tryz.f69.results.toList=some R69:=by kernel_rfl
def L70:LC:=(.seq (.reg none [.q 1 (.box (.t 0)),.q 2 (.mv (.val (.w 0)))]) (.seq (.block 0 (.seq (.reg none [.a 6 0 1,.k 7 2 6,.q 8 (.call 142 [.t 7] 0),.q 9 (.not (.t 8)),.m 10 9,.g 11 (.addr 2 (.t 1)) 10 false,.g 12 (.load 1 false (.t 11)) 10 false,.g 13 (.call 103 [.t 12] 0) 10 false,.g 14 (.not (.t 13)) 10 false,.q 15 (.pick (.t 10) (.val (.bool true)) (.t 14)),.m 5 15]) (.cond (.t 5) (.seq (.reg none [.q 2 (.mv (.val (.w 3)))]) .ret) (.seq (.reg none [.a 17 3 1,.l 18 1 17,.q 19 (.len true (.t 18)),.q 20 (.bin .gtr (.t 19) (.val (.w 12))),.m 21 20,.g 22 (.addr 4 (.t 1)) 21 false,.g 23 (.load 1 false (.t 22)) 21 false,.g 24 (.len false (.t 23)) 21 false,.g 25 (.bin .gtr (.t 24) (.val (.w 6))) 21 false,.q 26 (.pick (.t 21) (.val (.bool true)) (.t 25)),.m 16 26]) (.cond (.t 16) (.seq (.reg none [.q 2 (.mv (.val (.w 2)))]) .ret) .skip))))) (.seq (.seq (.reg none [.a 27 4 1,.l 28 1 27,.n 29 28,.q 30 (.mv (.val (.w 0)))]) (.block 1 (.loop (.seq (.reg none [.b 31 .lss 30 29]) (.seq (.cond (.t 31) .skip (.exit 1)) (.seq (.block 2 (.seq (.reg none [.m 32 30,.i 33 2 28 30,.k 34 2 33,.q 4 (.alloc [.int .i64 0,.int .i64 0]),.m 3 32,.s (.store 2 (.t 4) (.t 34))]) (.block 3 (.seq (.reg none [.k 36 2 4,.q 37 (.call 142 [.t 36] 0),.q 38 (.not (.t 37)),.m 35 38]) (.cond (.t 35) (.seq (.reg none [.q 2 (.mv (.val (.w 3)))]) .ret) (.seq (.seq (.reg (some []) [.m 40 3,.q 41 (.bin .gtr (.t 40) (.val (.w 0))),.m 42 41,.y 43 (.addr 4 (.t 1)) 42 true,.y 44 (.load 1 false (.t 43)) 42 true,.g 45 (.mv (.t 3)) 42 true,.g 46 (.bin .sub (.t 45) (.val (.w 1))) 42 true,.y 47 (.iaddrS 2 (.t 44) (.t 46)) 42 true,.y 48 (.load 2 true (.t 47)) 42 true,.y 49 (.load 2 true (.t 4)) 42 true,.g 50 (.call 143 [.t 48,.t 49] 0) 42 true,.g 51 (.bin .geq (.t 50) (.val (.w 0))) 42 true,.q 52 (.pick (.t 42) (.t 51) (.val (.bool false))),.m 39 52]) (.cond (.t 39) .skip (.reg none [.a 53 0 4,.l 54 1 53,.a 55 0 1,.a 56 0 55,.l 57 1 56,.b 58 .eql 54 57,.m 59 58,.g 60 (.addr 1 (.t 4)) 59 true,.g 61 (.load 1 false (.t 60)) 59 true,.g 62 (.addr 0 (.t 1)) 59 true,.g 63 (.addr 1 (.t 62)) 59 true,.g 64 (.load 1 false (.t 63)) 59 true,.g 65 (.bin .geq (.t 61) (.t 64)) 59 true,.q 66 (.pick (.t 59) (.t 65) (.val (.bool false))),.m 39 66]))) (.cond (.t 39) (.seq (.reg none [.q 2 (.mv (.val (.w 4)))]) .ret) .skip))))))) (.reg none [.q 67 (.bin .add (.t 30) (.val (.w 1))),.m 30 67]))))))) (.seq (.reg none [.q 2 (.mv (.val (.w 0)))]) .ret))))
def R70:List LRes := [.tmp 2]
theorem zyG:Tryz.f70.body.bind (zh Tryz.prog 68)=some L70:=by kernel_rfl
theorem zyH:zj Tryz.prog Tryz.f70.results.toList=some R70:=by kernel_rfl
def L71:LC:=(.seq (.reg none [.q 2 (.box (.t 0)),.q 3 (.box (.t 1)),.q 4 (.alloc [.int .i64 0,.nilsl,.nilsl]),.q 5 (.mv (.val (.w 0)))]) (.seq (.reg none [.k 9 3 2,.q 10 (.call 139 [.t 9] 0),.q 11 (.build [.int .i64 0,.nilsl,.nilsl] [(0,(3,(.t 10)))]),.q 12 (.box (.t 11)),.m 6 12]) (.seq (.seq (.reg none [.a 13 1 2,.l 14 1 13,.a 15 0 3,.k 16 2 15,.q 17 (.call 105 [.t 14,.t 16] 0),.q 18 (.bin .geq (.t 17) (.val (.w 0))),.m 19 18,.g 20 (.addr 2 (.t 2)) 19 false,.g 21 (.load 1 false (.t 20)) 19 false,.g 22 (.addr 0 (.t 3)) 19 false,.g 23 (.load 2 true (.t 22)) 19 false,.g 24 (.call 105 [.t 21,.t 23] 0) 19 false,.g 25 (.bin .geq (.t 24) (.val (.w 0))) 19 false,.q 26 (.pick (.t 19) (.val (.bool true)) (.t 25))]) (.cond (.t 26) (.seq (.reg none [.m 27 6,.q 28 (.nilchk (.t 27)),.a 29 0 28,.k 30 3 29,.s (.store 3 (.t 4) (.t 30)),.q 5 (.mv (.val (.w 0)))]) .ret) .skip)) (.seq (.seq (.reg none [.a 31 0 3,.a 32 0 31,.l 33 1 32,.a 34 0 2,.l 35 1 34,.b 36 .eql 33 35]) (.cond (.t 36) (.seq (.reg none [.q 37 (.build [.int .i64 0,.nilsl,.nilsl] []),.s (.store 3 (.t 4) (.t 37)),.q 5 (.mv (.val (.w 4)))]) .ret) .skip)) (.seq (.reg (some []) [.m 39 6,.z 40 (.nilchk (.t 39)),.z 41 (.addr 0 (.t 40)),.z 42 (.addr 2 (.t 41)),.z 43 (.load 1 false (.t 42)),.z 44 (.addr 0 (.t 3)),.z 45 (.load 2 true (.t 44)),.q 46 (.call 144 [.t 43,.t 45,.val (.clo 145 [])] 0),.m 38 46,.e 47 0 38,.e 48 1 38,.m 7 47,.m 8 48]) (.seq (.reg (some []) [.m 49 6,.m 50 6,.z 51 (.nilchk (.t 50)),.z 52 (.addr 0 (.t 51)),.z 53 (.addr 2 (.t 52)),.z 54 (.load 1 false (.t 53)),.m 55 7,.z 56 (.load 5 true (.t 3)),.z 57 (.call 140 [.t 56] 0),.q 58 (.mks 5 [.int .i64 0,.int .i64 0,.int .i64 0,.str ⟨#[]⟩,.nilsl] 1 [(0,(.t 57))]),.q 59 (.call 146 [.t 54,.t 55,.t 58] 1),.q 60 (.nilchk (.t 49)),.a 61 0 60,.a 62 2 61,.s (.store 1 (.t 62) (.t 59))]) (.seq (.reg none [.m 63 6,.q 64 (.call 147 [.t 63] 0)]) (.seq (.seq (.reg none [.m 65 6,.q 66 (.nilchk (.t 65)),.a 67 0 66,.a 68 2 67,.l 69 1 68,.n 70 69,.q 71 (.bin .gtr (.t 70) (.val (.w 20))),.m 72 71,.g 73 (.mv (.t 6)) 72 false,.g 74 (.nilchk (.t 73)) 72 false,.g 75 (.addr 0 (.t 74)) 72 false,.g 76 (.addr 1 (.t 75)) 72 false,.g 77 (.load 1 false (.t 76)) 72 false,.g 78 (.len false (.t 77)) 72 false,.g 79 (.bin .gtr (.t 78) (.val (.w 40))) 72 false,.q 80 (.pick (.t 72) (.val (.bool true)) (.t 79))]) (.cond (.t 80) (.seq (.reg none [.q 81 (.build [.int .i64 0,.nilsl,.nilsl] []),.s (.store 3 (.t 4) (.t 81)),.q 5 (.mv (.val (.w 2)))]) .ret) .skip)) (.seq (.reg none [.m 82 6,.q 83 (.nilchk (.t 82)),.a 84 0 83,.k 85 3 84,.s (.store 3 (.t 4) (.t 85)),.q 5 (.mv (.val (.w 0)))]) .ret)))))))))
def R71:List LRes := [(.cell 4 3 true),.tmp 5]
theorem zua:Tryz.f71.body.bind (zh Tryz.prog 86)=some L71:=by kernel_rfl
theorem zub:zj Tryz.prog Tryz.f71.results.toList=some R71:=by kernel_rfl
def L72:LC:=(.seq (.reg none [.q 3 (.box (.t 0)),.q 6 (.alloc [.int .i64 0,.nilsl,.nilsl]),.q 7 (.alloc [.int .i64 0,.int .i64 0,.int .i64 0,.str ⟨#[]⟩,.nilsl]),.q 8 (.mv (.val (.w 0)))]) (.seq (.seq (.reg none [.m 12 1,.q 13 (.call 103 [.t 12] 0),.q 14 (.not (.t 13))]) (.cond (.t 14) (.seq (.reg none [.q 15 (.build [.int .i64 0,.nilsl,.nilsl] []),.q 16 (.build [.int .i64 0,.int .i64 0,.int .i64 0,.str ⟨#[]⟩,.nilsl] []),.s (.store 3 (.t 6) (.t 15)),.s (.store 5 (.t 7) (.t 16)),.q 8 (.mv (.val (.w 3)))]) .ret) .skip)) (.seq (.reg (some []) [.z 17 (.addr 1 (.t 3)),.z 18 (.load 1 false (.t 17)),.z 19 (.call 113 [.t 18] 0),.z 20 (.addr 0 (.t 3)),.z 21 (.load 1 false (.t 20)),.q 22 (.idxA 1 2 false (.t 19) (.t 21)),.q 23 (.bin .add (.t 22) (.val (.w 1))),.m 9 23]) (.seq (.reg (some [(0,11),(1,11),(6,11),(7,11),(9,11)]) [.z 24 (.addr 0 (.t 3)),.z 25 (.load 1 false (.t 24)),.m 26 9,.q 27 (.build [.int .i64 0,.int .i64 0] [(0,(1,(.t 25))),(1,(1,(.t 26)))]),.m 28 1,.m 29 2,.z 30 (.addr 1 (.t 3)),.z 31 (.load 1 false (.t 30)),.m 32 1,.z 33 (.call 104 [.t 31,.t 32] 0),.q 34 (.build [.int .i64 0,.int .i64 0,.int .i64 0,.str ⟨#[]⟩,.nilsl] [(0,(2,(.t 27))),(2,(1,(.t 28))),(3,(1,(.t 29))),(4,(1,(.t 33)))]),.z 10 (.alloc [.int .i64 0,.int .i64 0,.int .i64 0,.str ⟨#[]⟩,.nilsl]),.s (.store 5 (.t 10) (.t 34))]) (.seq (.seq (.reg none [.m 35 2,.q 36 (.len true (.t 35)),.q 37 (.bin .gtr (.t 36) (.val (.w 12))),.m 38 37,.g 39 (.mv (.t 9)) 38 false,.g 40 (.bin .gtr (.t 39) (.val (.w 20))) 38 false,.q 41 (.pick (.t 38) (.val (.bool true)) (.t 40)),.m 42 41,.g 43 (.addr 1 (.t 3)) 42 false,.g 44 (.load 1 false (.t 43)) 42 false,.g 45 (.len false (.t 44)) 42 false,.g 46 (.bin .eql (.t 45) (.val (.w 40))) 42 false,.q 47 (.pick (.t 42) (.val (.bool true)) (.t 46)),.m 48 47,.g 49 (.addr 4 (.t 10)) 48 false,.g 50 (.load 1 false (.t 49)) 48 false,.g 51 (.len false (.t 50)) 48 false,.g 52 (.bin .gtr (.t 51) (.val (.w 6))) 48 false,.q 53 (.pick (.t 48) (.val (.bool true)) (.t 52))]) (.cond (.t 53) (.seq (.reg none [.q 54 (.build [.int .i64 0,.nilsl,.nilsl] []),.q 55 (.build [.int .i64 0,.int .i64 0,.int .i64 0,.str ⟨#[]⟩,.nilsl] []),.s (.store 3 (.t 6) (.t 54)),.s (.store 5 (.t 7) (.t 55)),.q 8 (.mv (.val (.w 2)))]) .ret) .skip)) (.seq (.reg none [.k 56 3 3,.q 57 (.call 139 [.t 56] 0),.q 58 (.build [.int .i64 0,.nilsl,.nilsl] [(0,(3,(.t 57)))]),.q 59 (.box (.t 58)),.m 11 59]) (.seq (.reg (some []) [.m 60 11,.m 61 11,.z 62 (.nilchk (.t 61)),.z 63 (.addr 0 (.t 62)),.z 64 (.addr 1 (.t 63)),.z 65 (.load 1 false (.t 64)),.z 66 (.load 5 true (.t 10)),.q 67 (.mks 5 [.int .i64 0,.int .i64 0,.int .i64 0,.str ⟨#[]⟩,.nilsl] 1 [(0,(.t 66))]),.q 68 (.append 32 5 64 (.t 65) (.t 67)),.q 69 (.nilchk (.t 60)),.a 70 0 69,.a 71 1 70,.s (.store 1 (.t 71) (.t 68))]) (.seq (.reg none [.m 72 11,.q 73 (.call 147 [.t 72] 0)]) (.seq (.reg (some []) [.m 74 11,.z 75 (.nilchk (.t 74)),.z 76 (.addr 0 (.t 75)),.z 77 (.load 3 true (.t 76)),.z 78 (.load 5 true (.t 10)),.z 79 (.call 140 [.t 78] 0),.s (.store 3 (.t 6) (.t 77)),.s (.store 5 (.t 7) (.t 79)),.q 8 (.mv (.val (.w 0)))]) .ret)))))))))
def R72:List LRes := [(.cell 6 3 true),(.cell 7 5 true),.tmp 8]
theorem zuc:Tryz.f72.body.bind (zh Tryz.prog 80)=some L72:=by kernel_rfl
theorem zud:zj Tryz.prog Tryz.f72.results.toList=some R72:=by kernel_rfl
def L73:LC:=(.seq (.reg none [.q 2 (.box (.t 0)),.q 3 (.box (.t 1)),.q 4 (.mv (.val (.bool false)))]) (.seq (.reg none [.a 5 0 2,.l 6 1 5,.a 7 0 3,.l 8 1 7,.b 9 .eql 6 8,.m 10 9,.g 11 (.addr 1 (.t 2)) 10 true,.g 12 (.load 1 false (.t 11)) 10 true,.g 13 (.addr 1 (.t 3)) 10 true,.g 14 (.load 1 false (.t 13)) 10 true,.g 15 (.call 45 [.t 12,.t 14] 0) 10 true,.q 16 (.pick (.t 10) (.t 15) (.val (.bool false))),.m 17 16,.g 18 (.addr 2 (.t 2)) 17 true,.g 19 (.load 1 false (.t 18)) 17 true,.g 20 (.addr 2 (.t 3)) 17 true,.g 21 (.load 1 false (.t 20)) 17 true,.g 22 (.call 45 [.t 19,.t 21] 0) 17 true,.q 23 (.pick (.t 17) (.t 22) (.val (.bool false))),.m 4 23]) .ret))
def R73:List LRes := [.tmp 4]
theorem zyI:Tryz.f73.body.bind (zh Tryz.prog 24)=some L73:=by kernel_rfl
theorem zyJ:zj Tryz.prog Tryz.f73.results.toList=some R73:=by kernel_rfl
def L75:LC:=(.seq (.reg none [.q 2 (.mv (.val (.w 0)))]) (.seq (.seq (.reg none [.m 6 0,.n 7 6,.q 8 (.bin .gtr (.t 7) (.val (.w 40)))]) (.cond (.t 8) (.seq (.reg none [.q 2 (.mv (.val (.w 2)))]) .ret) .skip)) (.seq (.seq (.reg none [.m 9 0,.n 10 9,.q 11 (.mv (.val (.w 0)))]) (.block 0 (.loop (.seq (.reg none [.b 12 .lss 11 10]) (.seq (.cond (.t 12) .skip (.exit 0)) (.seq (.block 1 (.seq (.reg none [.m 13 11,.i 14 5 9 11,.k 15 5 14,.q 4 (.alloc [.int .i64 0,.int .i64 0,.int .i64 0,.str ⟨#[]⟩,.nilsl]),.m 3 13,.s (.store 5 (.t 4) (.t 15))]) (.seq (.seq (.reg none [.k 16 5 4,.q 17 (.call 70 [.t 16] 0),.m 5 17]) (.seq (.reg none [.m 18 5,.q 19 (.bin .neq (.t 18) (.val (.w 0)))]) (.cond (.t 19) (.seq (.reg none [.m 20 5,.m 2 20]) .ret) .skip))) (.block 2 (.seq (.reg (some []) [.m 22 0,.m 23 3,.z 24 (.slc 5 (.t 22) none (some (.t 23))),.z 25 (.addr 0 (.t 4)),.z 26 (.load 2 true (.t 25)),.q 27 (.call 105 [.t 24,.t 26] 0),.q 28 (.bin .geq (.t 27) (.val (.w 0))),.m 21 28]) (.cond (.t 21) (.seq (.reg none [.q 2 (.mv (.val (.w 6)))]) .ret) (.seq (.reg (some []) [.m 30 0,.m 31 3,.z 32 (.slc 5 (.t 30) none (some (.t 31))),.z 33 (.call 113 [.t 32] 0),.z 34 (.addr 0 (.t 4)),.z 35 (.addr 0 (.t 34)),.z 36 (.load 1 false (.t 35)),.q 37 (.idxA 1 2 false (.t 33) (.t 36)),.q 38 (.bin .add (.t 37) (.val (.w 1))),.z 39 (.addr 0 (.t 4)),.z 40 (.addr 1 (.t 39)),.z 41 (.load 1 false (.t 40)),.b 42 .neq 38 41,.m 29 42]) (.cond (.t 29) (.seq (.reg none [.q 2 (.mv (.val (.w 4)))]) .ret) (.seq (.reg (some []) [.m 44 0,.m 45 3,.z 46 (.slc 5 (.t 44) none (some (.t 45))),.z 47 (.load 5 true (.t 4)),.q 48 (.call 129 [.t 46,.t 47] 0),.q 49 (.not (.t 48)),.m 43 49]) (.cond (.t 43) (.seq (.reg none [.q 2 (.mv (.val (.w 5)))]) .ret) .skip)))))))))) (.reg none [.q 50 (.bin .add (.t 11) (.val (.w 1))),.m 11 50]))))))) (.seq (.reg none [.q 2 (.mv (.val (.w 0)))]) .ret))))
def R75:List LRes := [.tmp 2]
theorem zyK:Tryz.f75.body.bind (zh Tryz.prog 51)=some L75:=by kernel_rfl
theorem zyL:zj Tryz.prog Tryz.f75.results.toList=some R75:=by kernel_rfl
def L79:LC:=(.seq (.reg none [.q 2 (.mv (.val (.w 0))),.q 3 (.mv (.val (.str ⟨#[]⟩))),.q 4 (.mv (.val (.str ⟨#[]⟩))),.q 5 (.mv (.val (.w 0)))]) (.seq (.reg none [.m 8 0,.q 9 (.call 153 [.t 8,.val (.str ⟨#[32]⟩)] 0),.m 6 9]) (.seq (.reg none [.m 10 6,.q 11 (.slc 1 (.t 10) (some (.val (.w 1))) none),.q 12 (.call 154 [.t 11,.val (.clo 155 [])] 0),.m 7 12]) (.seq (.block 0 (.seq (.reg none [.m 14 7,.m 13 14]) (.cond (.t 13) .skip (.seq (.reg none [.m 16 6,.n 17 16,.q 18 (.bin .eql (.t 17) (.val (.w 3))),.m 19 18,.g 20 (.mv (.t 6)) 19 true,.g 21 (.iaddrS 1 (.t 20) (.val (.w 0))) 19 true,.g 22 (.load 1 false (.t 21)) 19 true,.g 23 (.bin .eql (.t 22) (.val (.str ⟨#[112,117,116]⟩))) 19 true,.q 24 (.pick (.t 19) (.t 23) (.val (.bool false))),.m 15 24]) (.cond (.t 15) (.seq (.reg (some []) [.m 25 6,.z 26 (.iaddrS 1 (.t 25) (.val (.w 1))),.z 27 (.load 1 false (.t 26)),.m 28 6,.z 29 (.iaddrS 1 (.t 28) (.val (.w 2))),.z 30 (.load 1 false (.t 29)),.q 2 (.mv (.val (.w 1))),.m 3 27,.m 4 30,.q 5 (.mv (.val (.w 0)))]) .ret) (.seq (.reg none [.m 32 6,.n 33 32,.q 34 (.bin .eql (.t 33) (.val (.w 2))),.m 35 34,.g 36 (.mv (.t 6)) 35 true,.g 37 (.iaddrS 1 (.t 36) (.val (.w 0))) 35 true,.g 38 (.load 1 false (.t 37)) 35 true,.g 39 (.bin .eql (.t 38) (.val (.str ⟨#[100,114,111,112]⟩))) 35 true,.q 40 (.pick (.t 35) (.t 39) (.val (.bool false))),.m 31 40]) (.cond (.t 31) (.seq (.reg (some []) [.m 41 6,.q 42 (.iaddrS 1 (.t 41) (.val (.w 1))),.l 43 1 42,.q 2 (.mv (.val (.w 2))),.m 3 43,.q 4 (.mv (.val (.str ⟨#[]⟩))),.q 5 (.mv (.val (.w 0)))]) .ret) .skip))))))) (.seq (.reg none [.q 2 (.mv (.val (.w 0))),.q 3 (.mv (.val (.str ⟨#[]⟩))),.q 4 (.mv (.val (.str ⟨#[]⟩))),.q 5 (.mv (.val (.w 1)))]) .ret)))))
def R79:List LRes := [.tmp 2,.tmp 3,.tmp 4,.tmp 5]
theorem zyM:Tryz.f79.body.bind (zh Tryz.prog 44)=some L79:=by kernel_rfl
theorem zyN:zj Tryz.prog Tryz.f79.results.toList=some R79:=by kernel_rfl
def L93:LC:=(.seq (.reg none [.q 2 (.box (.t 0)),.q 3 (.box (.t 1)),.q 4 (.mv (.val (.bool false)))]) (.seq (.reg none [.k 5 2 2,.k 6 2 3,.q 7 (.call 143 [.t 5,.t 6] 0),.q 8 (.bin .lss (.t 7) (.val (.w 0))),.m 4 8]) .ret))
def R93:List LRes := [.tmp 4]
theorem zyO:Tryz.f93.body.bind (zh Tryz.prog 9)=some L93:=by kernel_rfl
theorem zyP:zj Tryz.prog Tryz.f93.results.toList=some R93:=by kernel_rfl
def L94:LC:=(.seq (.reg none [.q 2 (.mv (.val (.w 0)))]) (.seq (.seq (.reg none [.m 6 0,.n 7 6,.q 8 (.bin .gtr (.t 7) (.val (.w 40)))]) (.cond (.t 8) (.seq (.reg none [.q 2 (.mv (.val (.w 2)))]) .ret) .skip)) (.seq (.seq (.reg none [.q 3 (.mv (.val (.w 0)))]) (.block 0 (.loop (.seq (.seq (.reg none [.m 9 3,.m 10 0,.n 11 10,.b 12 .lss 9 11]) (.cond (.t 12) .skip (.exit 0))) (.seq (.block 1 (.seq (.reg none [.m 15 0,.m 16 3,.i 17 5 15 16,.k 18 5 17,.q 19 (.call 58 [.t 18] 0),.m 4 19]) (.seq (.seq (.reg none [.m 20 4,.q 21 (.bin .neq (.t 20) (.val (.w 0)))]) (.cond (.t 21) (.seq (.reg none [.m 22 4,.m 2 22]) .ret) .skip)) (.seq (.seq (.reg (some []) [.m 23 0,.m 24 3,.z 25 (.slc 5 (.t 23) none (some (.t 24))),.m 26 0,.m 27 3,.z 28 (.iaddrS 5 (.t 26) (.t 27)),.z 29 (.addr 0 (.t 28)),.z 30 (.load 2 true (.t 29)),.q 31 (.call 96 [.t 25,.t 30] 0),.q 32 (.bin .geq (.t 31) (.val (.w 0)))]) (.cond (.t 32) (.seq (.reg none [.q 2 (.mv (.val (.w 6)))]) .ret) .skip)) (.seq (.seq (.reg (some []) [.m 33 0,.m 34 3,.z 35 (.slc 5 (.t 33) none (some (.t 34))),.z 36 (.call 134 [.t 35] 0),.m 37 0,.m 38 3,.z 39 (.iaddrS 5 (.t 37) (.t 38)),.z 40 (.addr 0 (.t 39)),.z 41 (.addr 0 (.t 40)),.z 42 (.load 1 false (.t 41)),.q 43 (.idxA 1 2 false (.t 36) (.t 42)),.q 44 (.bin .add (.t 43) (.val (.w 1))),.m 45 0,.m 46 3,.z 47 (.iaddrS 5 (.t 45) (.t 46)),.z 48 (.addr 0 (.t 47)),.z 49 (.addr 1 (.t 48)),.z 50 (.load 1 false (.t 49)),.b 51 .neq 44 50]) (.cond (.t 51) (.seq (.reg none [.q 2 (.mv (.val (.w 4)))]) .ret) .skip)) (.seq (.reg none [.q 5 (.mv (.val (.w 0)))]) (.block 2 (.loop (.seq (.seq (.reg none [.m 52 5,.m 53 0,.m 54 3,.i 55 5 53 54,.a 56 4 55,.l 57 1 56,.n 58 57,.b 59 .lss 52 58]) (.cond (.t 59) .skip (.exit 2))) (.seq (.block 3 (.seq (.reg (some []) [.m 62 0,.m 63 3,.z 64 (.slc 5 (.t 62) none (some (.t 63))),.m 65 0,.m 66 3,.z 67 (.iaddrS 5 (.t 65) (.t 66)),.z 68 (.addr 4 (.t 67)),.z 69 (.load 1 false (.t 68)),.m 70 5,.z 71 (.iaddrS 2 (.t 69) (.t 70)),.z 72 (.load 2 true (.t 71)),.q 73 (.call 96 [.t 64,.t 72] 0),.q 74 (.bin .lss (.t 73) (.val (.w 0)))]) (.cond (.t 74) (.seq (.reg none [.q 2 (.mv (.val (.w 5)))]) .ret) .skip))) (.reg none [.m 60 5,.q 61 (.bin .add (.t 60) (.val (.w 1))),.m 5 61]))))))))))) (.reg none [.m 13 3,.q 14 (.bin .add (.t 13) (.val (.w 1))),.m 3 14])))))) (.seq (.reg none [.q 2 (.mv (.val (.w 0)))]) .ret))))
def R94:List LRes := [.tmp 2]
theorem zyQ:Tryz.f94.body.bind (zh Tryz.prog 75)=some L94:=by kernel_rfl
theorem zyR:zj Tryz.prog Tryz.f94.results.toList=some R94:=by kernel_rfl
def L96:LC:=(.seq (.reg none [.q 3 (.box (.t 1)),.q 4 (.mv (.val (.w 0)))]) (.seq (.seq (.reg none [.q 5 (.mv (.val (.w 0)))]) (.block 0 (.loop (.seq (.seq (.reg none [.m 6 5,.m 7 0,.n 8 7,.b 9 .lss 6 8]) (.cond (.t 9) .skip (.exit 0))) (.seq (.block 1 (.seq (.reg (some []) [.m 12 0,.m 13 5,.z 14 (.iaddrS 5 (.t 12) (.t 13)),.z 15 (.addr 0 (.t 14)),.z 16 (.load 2 true (.t 15)),.z 17 (.load 2 true (.t 3)),.q 18 (.eqag false [.i,.i] (.t 16) (.t 17))]) (.cond (.t 18) (.seq (.reg none [.m 19 5,.m 4 19]) .ret) .skip))) (.reg none [.m 10 5,.q 11 (.bin .add (.t 10) (.val (.w 1))),.m 5 11])))))) (.seq (.reg none [.q 4 (.mv (.val (.w (-1))))]) .ret)))
def R96:List LRes := [.tmp 4]
theorem zyS:Tryz.f96.body.bind (zh Tryz.prog 20)=some L96:=by kernel_rfl
theorem zyT:zj Tryz.prog Tryz.f96.results.toList=some R96:=by kernel_rfl
def L97:LC:=(.seq (.reg none [.q 4 (.mv (.val (.bool false)))]) (.seq (.seq (.reg none [.q 5 (.mv (.val (.w 0)))]) (.block 0 (.loop (.seq (.seq (.reg none [.m 6 5,.q 7 (.bin .lss (.t 6) (.val (.w 3)))]) (.cond (.t 7) .skip (.exit 0))) (.seq (.block 1 (.seq (.reg none [.m 10 0,.m 11 5,.q 12 (.call 166 [.t 10,.t 11] 0),.m 13 12,.g 14 (.mv (.t 1)) 13 true,.g 15 (.mv (.t 5)) 13 true,.g 16 (.call 166 [.t 14,.t 15] 0) 13 true,.q 17 (.pick (.t 13) (.t 16) (.val (.bool false)))]) (.cond (.t 17) (.seq (.reg none [.q 4 (.mv (.val (.bool true)))]) .ret) .skip))) (.reg none [.m 8 5,.q 9 (.bin .add (.t 8) (.val (.w 1))),.m 5 9])))))) (.seq (.reg none [.q 4 (.mv (.val (.bool false)))]) .ret)))
def R97:List LRes := [.tmp 4]
theorem zyU:Tryz.f97.body.bind (zh Tryz.prog 18)=some L97:=by kernel_rfl
theorem zyV:zj Tryz.prog Tryz.f97.results.toList=some R97:=by kernel_rfl
def zyW:LC:=(.seq (.reg none [.q 2 (.mv (.val (.bool false)))]) (.seq (.reg none [.m 3 0,.q 4 (.call 173 [.t 3,.val (.w 1),.val (.w 7)] 0),.m 2 4]) .ret))
def zyX:List LRes := [.tmp 2]
theorem zue:Tryz.f103.body.bind (zh Tryz.prog 5)=some zyW:=by kernel_rfl
theorem zuf:zj Tryz.prog Tryz.f103.results.toList=some zyX:=by kernel_rfl
def zug:LC:=(.seq (.reg none [.q 4 (.mv (.val .nilsl))]) (.seq (.reg none [.m 10 0,.q 11 (.call 106 [.t 10] 0),.q 5 (.alloc [.nilp]),.s (.store 1 (.t 5) (.t 11))]) (.seq (.reg none [.m 12 0,.m 13 1,.q 14 (.call 174 [.t 12,.t 13] 0),.m 6 14]) (.seq (.reg none [.q 7 (.mv (.val .nilsl))]) (.seq (.seq (.reg none [.m 15 6,.n 16 15,.q 17 (.mv (.val (.w 0)))]) (.block 0 (.loop (.seq (.reg none [.b 18 .lss 17 16]) (.seq (.cond (.t 18) .skip (.exit 0)) (.seq (.block 1 (.seq (.reg none [.i 19 5 15 17,.k 20 5 19,.q 9 (.alloc [.int .i64 0,.int .i64 0,.int .i64 0,.str ⟨#[]⟩,.nilsl]),.s (.store 5 (.t 9) (.t 20))]) (.seq (.reg none [.m 21 6,.q 22 (.clo 175 [.t 5,.t 9]),.q 23 (.call 128 [.t 21,.t 22] 0),.q 24 (.not (.t 23))]) (.cond (.t 24) (.reg none [.m 25 7,.a 26 0 9,.k 27 2 26,.q 28 (.mks 2 [.int .i64 0,.int .i64 0] 1 [(0,(.t 27))]),.q 29 (.append 29 2 16 (.t 25) (.t 28)),.m 7 29]) .skip)))) (.reg none [.q 30 (.bin .add (.t 17) (.val (.w 1))),.m 17 30]))))))) (.seq (.reg none [.m 31 7,.q 32 (.call 177 [.t 31,.val (.clo 143 [])] 1)]) (.seq (.reg none [.m 33 7,.m 4 33]) .ret)))))))
def zuh:List LRes := [.tmp 4]
theorem zrw:Tryz.f104.body.bind (zh Tryz.prog 34)=some zug:=by kernel_rfl
theorem zrx:zj Tryz.prog Tryz.f104.results.toList=some zuh:=by kernel_rfl
def zyY:LC:=(.seq (.reg none [.q 3 (.box (.t 1)),.q 4 (.mv (.val (.w 0)))]) (.seq (.reg none [.m 5 0,.q 6 (.clo 179 [.t 3]),.q 7 (.call 178 [.t 5,.t 6] 0),.m 4 7]) .ret))
def zyZ:List LRes := [.tmp 4]
theorem zui:Tryz.f105.body.bind (zh Tryz.prog 8)=some zyY:=by kernel_rfl
theorem zuj:zj Tryz.prog Tryz.f105.results.toList=some zyZ:=by kernel_rfl
def zy0:LC:=(.seq (.reg none [.q 2 (.mv (.val .nilp))]) (.seq (.reg none [.m 9 0,.q 10 (.build [.nilsl,.nilsl] [(0,(1,(.t 9)))]),.q 11 (.box (.t 10)),.m 3 11]) (.seq (.seq (.reg none [.m 12 0,.n 13 12,.q 14 (.mv (.val (.w 0)))]) (.block 0 (.loop (.seq (.reg none [.b 15 .lss 14 13]) (.seq (.cond (.t 15) .skip (.exit 0)) (.seq (.block 1 (.seq (.reg none [.i 16 5 12 14,.k 17 5 16,.q 5 (.alloc [.int .i64 0,.int .i64 0,.int .i64 0,.str ⟨#[]⟩,.nilsl]),.s (.store 5 (.t 5) (.t 17))]) (.seq (.reg none [.q 6 (.mv (.val .nilsl))]) (.seq (.seq (.reg none [.a 18 4 5,.l 19 1 18,.n 20 19,.q 21 (.mv (.val (.w 0)))]) (.block 2 (.loop (.seq (.reg none [.b 22 .lss 21 20]) (.seq (.cond (.t 22) .skip (.exit 2)) (.seq (.block 3 (.seq (.reg none [.i 23 2 19 21,.k 24 2 23,.q 8 (.alloc [.int .i64 0,.int .i64 0]),.s (.store 2 (.t 8) (.t 24))]) (.reg (some [(3,5)]) [.m 25 6,.z 26 (.load 2 true (.t 8)),.q 27 (.mks 2 [.int .i64 0,.int .i64 0] 1 [(0,(.t 26))]),.z 28 (.append 29 2 16 (.t 25) (.t 27)),.m 29 3,.z 30 (.load 2 true (.t 8)),.q 31 (.call 107 [.t 29,.t 30] 0),.q 32 (.append 29 2 16 (.t 28) (.t 31)),.m 6 32]))) (.reg none [.q 33 (.bin .add (.t 21) (.val (.w 1))),.m 21 33]))))))) (.seq (.reg none [.m 34 6,.q 35 (.call 177 [.t 34,.val (.clo 143 [])] 1)]) (.reg (some [(2,6),(3,6),(4,6)]) [.m 36 3,.m 37 3,.z 38 (.nilchk (.t 37)),.z 39 (.addr 1 (.t 38)),.z 40 (.load 1 false (.t 39)),.m 41 6,.z 42 (.call 180 [.t 41] 1),.q 43 (.mks 1 [.nilsl] 1 [(0,(.t 42))]),.q 44 (.append 30 1 24 (.t 40) (.t 43)),.q 45 (.nilchk (.t 36)),.a 46 1 45,.s (.store 1 (.t 46) (.t 44))])))))) (.reg none [.q 47 (.bin .add (.t 14) (.val (.w 1))),.m 14 47]))))))) (.seq (.reg none [.m 48 3,.m 2 48]) .ret))))
def zy1:List LRes := [.tmp 2]
theorem zuk:Tryz.f106.body.bind (zh Tryz.prog 49)=some zy0:=by kernel_rfl
theorem zul:zj Tryz.prog Tryz.f106.results.toList=some zy1:=by kernel_rfl
def zum:LC:=(.seq (.reg none [.q 3 (.box (.t 1)),.q 4 (.mv (.val .nilsl))]) (.seq (.reg (some []) [.m 5 0,.z 6 (.nilchk (.t 5)),.z 7 (.addr 1 (.t 6)),.z 8 (.load 1 false (.t 7)),.m 9 0,.z 10 (.nilchk (.t 9)),.z 11 (.addr 0 (.t 10)),.z 12 (.load 1 false (.t 11)),.z 13 (.load 2 true (.t 3)),.z 14 (.call 105 [.t 12,.t 13] 0),.i 15 1 8 14,.l 16 1 15,.m 4 16]) .ret))
def zun:List LRes := [.tmp 4]
theorem zry:Tryz.f107.body.bind (zh Tryz.prog 17)=some zum:=by kernel_rfl
theorem zrz:zj Tryz.prog Tryz.f107.results.toList=some zun:=by kernel_rfl
def ztx:LC:=(.seq (.reg none [.q 4 (.mv (.val .nilsl))]) (.seq (.reg none [.m 12 0,.q 13 (.call 106 [.t 12] 0),.q 5 (.alloc [.nilp]),.s (.store 1 (.t 5) (.t 13))]) (.seq (.reg none [.m 14 0,.m 15 1,.q 16 (.call 181 [.t 14,.t 15] 0),.q 6 (.alloc [.nilsl]),.s (.store 1 (.t 6) (.t 16))]) (.seq (.reg none [.l 17 1 6,.q 18 (.call 183 [.t 17] 0),.q 19 (.clo 184 [.t 6,.t 5]),.q 20 (.call 182 [.t 18,.t 19] 1),.m 7 20]) (.seq (.reg none [.m 21 7,.q 22 (.call 187 [.t 21,.val (.clo 188 [])] 1)]) (.seq (.reg none [.q 8 (.mv (.val .nilsl))]) (.seq (.seq (.reg none [.m 23 7,.n 24 23,.q 25 (.mv (.val (.w 0)))]) (.block 0 (.loop (.seq (.reg none [.b 26 .lss 25 24]) (.seq (.cond (.t 26) .skip (.exit 0)) (.seq (.block 1 (.seq (.reg none [.i 27 5 23 25,.k 28 5 27,.q 10 (.alloc [.int .i64 0,.int .i64 0,.str ⟨#[]⟩,.str ⟨#[]⟩,(.bool false)]),.s (.store 5 (.t 10) (.t 28))]) (.seq (.reg none [.m 29 8,.n 30 29,.q 31 (.bin .sub (.t 30) (.val (.w 1))),.m 11 31]) (.block 2 (.seq (.reg (some []) [.m 33 11,.q 34 (.bin .lss (.t 33) (.val (.w 0))),.m 35 34,.g 36 (.mv (.t 8)) 35 false,.g 37 (.mv (.t 11)) 35 false,.y 38 (.iaddrS 2 (.t 36) (.t 37)) 35 false,.y 39 (.addr 0 (.t 38)) 35 false,.y 40 (.load 1 false (.t 39)) 35 false,.y 41 (.addr 2 (.t 10)) 35 false,.y 42 (.load 1 false (.t 41)) 35 false,.g 43 (.bin .neq (.t 40) (.t 42)) 35 false,.q 44 (.pick (.t 35) (.val (.bool true)) (.t 43)),.m 32 44]) (.cond (.t 32) (.reg none [.m 45 8,.a 46 2 10,.l 47 1 46,.a 48 3 10,.l 49 1 48,.q 50 (.mksA 9 1 [.str ⟨#[]⟩] 1 [(0,(.t 49))]),.q 51 (.build [.str ⟨#[]⟩,.nilsl] [(0,(1,(.t 47))),(1,(1,(.t 50)))]),.q 52 (.mks 2 [.str ⟨#[]⟩,.nilsl] 1 [(0,(.t 51))]),.q 53 (.append 102 2 40 (.t 45) (.t 52)),.m 8 53]) (.seq (.reg (some []) [.m 55 8,.m 56 11,.z 57 (.iaddrS 2 (.t 55) (.t 56)),.z 58 (.addr 1 (.t 57)),.z 59 (.load 1 false (.t 58)),.z 60 (.addr 3 (.t 10)),.z 61 (.load 1 false (.t 60)),.q 62 (.call 190 [.t 59,.t 61] 0),.q 63 (.not (.t 62)),.m 54 63]) (.cond (.t 54) (.reg (some [(4,9),(5,9),(6,9)]) [.m 64 8,.m 65 11,.m 66 8,.m 67 11,.z 68 (.iaddrS 2 (.t 66) (.t 67)),.z 69 (.addr 1 (.t 68)),.z 70 (.load 1 false (.t 69)),.z 71 (.addr 3 (.t 10)),.z 72 (.load 1 false (.t 71)),.z 73 (.mksA 9 1 [.str ⟨#[]⟩] 1 [(0,(.t 72))]),.q 74 (.append 9 1 16 (.t 70) (.t 73)),.i 75 2 64 65,.a 76 1 75,.s (.store 1 (.t 76) (.t 74))]) .skip)))))))) (.reg none [.q 77 (.bin .add (.t 25) (.val (.w 1))),.m 25 77]))))))) (.seq (.reg none [.m 78 8,.m 4 78]) .ret))))))))
def zty:List LRes := [.tmp 4]
theorem zuo:Tryz.f108.body.bind (zh Tryz.prog 79)=some ztx:=by kernel_rfl
theorem zup:zj Tryz.prog Tryz.f108.results.toList=some zty:=by kernel_rfl
def zy2:LC:=(.seq (.reg none [.q 2 (.alloc [.int .i64 0,.int .i64 0])]) (.seq (.reg none [.q 3 (.alloc [.int .i64 0,.int .i64 0])]) (.seq (.seq (.reg none [.m 6 0,.n 7 6,.q 8 (.mv (.val (.w 0)))]) (.block 0 (.loop (.seq (.reg none [.b 9 .lss 8 7]) (.seq (.cond (.t 9) .skip (.exit 0)) (.seq (.block 1 (.seq (.reg none [.i 10 5 6 8,.k 11 5 10,.q 5 (.alloc [.int .i64 0,.int .i64 0,.int .i64 0,.str ⟨#[]⟩,.nilsl]),.s (.store 5 (.t 5) (.t 11))]) (.reg none [.a 12 0 5,.a 13 0 12,.l 14 1 13,.q 15 (.iaddrA 1 2 (.t 3) (.t 14)),.l 16 1 15,.q 17 (.bin .add (.t 16) (.val (.w 1))),.q 18 (.iaddrA 1 2 (.t 3) (.t 14)),.s (.store 1 (.t 18) (.t 17))]))) (.reg none [.q 19 (.bin .add (.t 8) (.val (.w 1))),.m 8 19]))))))) (.seq (.reg none [.k 20 2 3,.s (.store 2 (.t 2) (.t 20))]) .ret))))
def zy3:List LRes := [(.cell 2 2 true)]
theorem zuq:Tryz.f113.body.bind (zh Tryz.prog 21)=some zy2:=by kernel_rfl
theorem zur:zj Tryz.prog Tryz.f113.results.toList=some zy3:=by kernel_rfl
def zy4:LC:=(.seq (.reg none [.q 4 (.mv (.val (.bool false)))]) (.seq (.reg none [.m 5 0,.m 6 1,.q 7 (.call 193 [.t 5,.t 6] 0),.q 8 (.bin .geq (.t 7) (.val (.w 0))),.m 4 8]) .ret))
def zy5:List LRes := [.tmp 4]
theorem zus:Tryz.f114.body.bind (zh Tryz.prog 9)=some zy4:=by kernel_rfl
theorem zut:zj Tryz.prog Tryz.f114.results.toList=some zy5:=by kernel_rfl
def zsy:LC:=(.seq (.reg none [.q 2 (.box (.t 0)),.q 4 (.mv (.val (.w 0)))]) (.seq (.seq (.reg none [.m 8 1,.n 9 8,.q 10 (.bin .gtr (.t 9) (.val (.w 30)))]) (.cond (.t 10) (.seq (.reg none [.q 4 (.mv (.val (.w 2)))]) .ret) .skip)) (.seq (.seq (.reg none [.m 11 1,.n 12 11,.q 13 (.mv (.val (.w 0)))]) (.block 0 (.loop (.seq (.reg none [.b 14 .lss 13 12]) (.seq (.cond (.t 14) .skip (.exit 0)) (.seq (.block 1 (.seq (.reg none [.i 15 5 11 13,.k 16 5 15,.q 6 (.alloc [.int .i64 0,.int .i64 0,.int .i64 0,.str ⟨#[]⟩,.nilsl]),.s (.store 5 (.t 6) (.t 16))]) (.seq (.seq (.reg none [.k 17 5 6,.q 18 (.call 70 [.t 17] 0),.m 7 18]) (.seq (.reg none [.m 19 7,.q 20 (.bin .neq (.t 19) (.val (.w 0)))]) (.cond (.t 20) (.seq (.reg none [.m 21 7,.m 4 21]) .ret) .skip))) (.seq (.reg none [.k 22 2 2,.k 23 5 6,.q 24 (.call 127 [.t 22,.t 23] 0),.q 25 (.not (.t 24))]) (.cond (.t 25) (.seq (.reg none [.q 4 (.mv (.val (.w 4)))]) .ret) .skip))))) (.reg none [.q 26 (.bin .add (.t 13) (.val (.w 1))),.m 13 26]))))))) (.seq (.reg none [.q 4 (.mv (.val (.w 0)))]) .ret))))
def zsz:List LRes := [.tmp 4]
theorem zuu:Tryz.f125.body.bind (zh Tryz.prog 27)=some zsy:=by kernel_rfl
theorem zuv:zj Tryz.prog Tryz.f125.results.toList=some zsz:=by kernel_rfl
def zy6:LC:=(.seq (.reg none [.q 2 (.box (.t 0)),.q 3 (.mv (.val (.bool false)))]) (.seq (.reg none [.k 4 2 1,.k 5 5 2,.q 6 (.call 127 [.t 4,.t 5] 0),.q 7 (.not (.t 6)),.m 3 7]) .ret))
def zy7:List LRes := [.tmp 3]
theorem zuw:Tryz.f126.body.bind (zh Tryz.prog 8)=some zy6:=by kernel_rfl
theorem zux:zj Tryz.prog Tryz.f126.results.toList=some zy7:=by kernel_rfl
def zw8:LC:=(.seq (.reg none [.q 2 (.box (.t 0)),.q 3 (.box (.t 1)),.q 4 (.mv (.val (.bool false)))]) (.seq (.reg none [.a 7 0 2,.l 8 1 7,.a 9 0 3,.a 10 0 9,.l 11 1 10,.i 12 3 8 11,.a 13 1 12,.l 14 1 13,.m 5 14]) (.seq (.reg none [.m 15 5,.a 16 0 3,.k 17 2 16,.q 18 (.call 105 [.t 15,.t 17] 0),.m 6 18]) (.seq (.reg (some []) [.m 19 6,.q 20 (.bin .geq (.t 19) (.val (.w 0))),.m 21 20,.g 22 (.mv (.t 5)) 21 true,.g 23 (.mv (.t 6)) 21 true,.y 24 (.iaddrS 5 (.t 22) (.t 23)) 21 true,.y 25 (.load 5 true (.t 24)) 21 true,.y 26 (.load 5 true (.t 3)) 21 true,.g 27 (.call 205 [.t 25,.t 26] 0) 21 true,.q 28 (.pick (.t 21) (.t 27) (.val (.bool false))),.m 4 28]) .ret))))
def zw9:List LRes := [.tmp 4]
theorem zuy:Tryz.f127.body.bind (zh Tryz.prog 29)=some zw8:=by kernel_rfl
theorem zuz:zj Tryz.prog Tryz.f127.results.toList=some zw9:=by kernel_rfl
def zy8:LC:=(.seq (.reg none [.q 4 (.mv (.val (.bool false)))]) (.seq (.reg none [.m 5 0,.m 6 1,.q 7 (.call 178 [.t 5,.t 6] 0),.q 8 (.bin .geq (.t 7) (.val (.w 0))),.m 4 8]) .ret))
def zy9:List LRes := [.tmp 4]
theorem zuA:Tryz.f128.body.bind (zh Tryz.prog 9)=some zy8:=by kernel_rfl
theorem zuB:zj Tryz.prog Tryz.f128.results.toList=some zy9:=by kernel_rfl
def zxa:LC:=(.seq (.reg none [.q 2 (.box (.t 0)),.q 3 (.box (.t 1)),.q 4 (.mv (.val (.bool false)))]) (.seq (.reg (some []) [.z 5 (.load 1 false (.t 2)),.z 6 (.call 113 [.t 5] 0),.z 7 (.addr 0 (.t 3)),.z 8 (.addr 0 (.t 7)),.z 9 (.load 1 false (.t 8)),.q 10 (.idxA 1 2 false (.t 6) (.t 9)),.q 11 (.bin .add (.t 10) (.val (.w 1))),.z 12 (.addr 0 (.t 3)),.z 13 (.addr 1 (.t 12)),.z 14 (.load 1 false (.t 13)),.b 15 .eql 11 14,.m 16 15,.g 17 (.addr 4 (.t 3)) 16 true,.g 18 (.load 1 false (.t 17)) 16 true,.g 19 (.clo 206 [.t 2]) 16 true,.g 20 (.call 114 [.t 18,.t 19] 0) 16 true,.g 21 (.not (.t 20)) 16 true,.q 22 (.pick (.t 16) (.t 21) (.val (.bool false))),.m 4 22]) .ret))
def zxb:List LRes := [.tmp 4]
theorem zuC:Tryz.f129.body.bind (zh Tryz.prog 23)=some zxa:=by kernel_rfl
theorem zuD:zj Tryz.prog Tryz.f129.results.toList=some zxb:=by kernel_rfl
def zza:LC:=(.seq (.reg none [.q 2 (.mv (.val (.str ⟨#[]⟩)))]) (.seq (.reg none [.q 3 (.alloc [.str ⟨#[]⟩]),.s (.store 1 (.t 3) (.val (.str ⟨#[]⟩)))]) (.seq (.reg none [.q 7 (.clo 207 [.t 3]),.m 4 7]) (.seq (.seq (.reg none [.m 8 0,.n 9 8,.q 10 (.mv (.val (.w 0)))]) (.block 0 (.loop (.seq (.reg none [.b 11 .lss 10 9]) (.seq (.cond (.t 11) .skip (.exit 0)) (.seq (.block 1 (.seq (.reg none [.i 12 2 8 10,.k 13 2 12,.q 6 (.alloc [.str ⟨#[]⟩,.nilsl]),.s (.store 2 (.t 6) (.t 13))]) (.reg (some []) [.m 14 4,.z 15 (.addr 0 (.t 6)),.z 16 (.load 1 false (.t 15)),.z 17 (.addr 1 (.t 6)),.z 18 (.load 1 false (.t 17)),.z 19 (.call 208 [.t 18,.val (.str ⟨#[44]⟩)] 0),.q 20 (.mksA 9 1 [.str ⟨#[]⟩] 4 [(0,(.t 16)),(1,(.val (.str ⟨#[61]⟩))),(2,(.t 19)),(3,(.val (.str ⟨#[59]⟩)))]),.q 21 (.callv (.t 14) [.t 20])]))) (.reg none [.q 22 (.bin .add (.t 10) (.val (.w 1))),.m 10 22]))))))) (.seq (.reg none [.l 23 1 3,.m 2 23]) .ret)))))
def zzb:List LRes := [.tmp 2]
theorem zuE:Tryz.f130.body.bind (zh Tryz.prog 24)=some zza:=by kernel_rfl
theorem zuF:zj Tryz.prog Tryz.f130.results.toList=some zzb:=by kernel_rfl
def zsA:LC:=(.seq (.reg none [.q 2 (.box (.t 0)),.q 3 (.box (.t 1)),.q 4 (.mv (.val (.bool false)))]) (.seq (.reg none [.a 5 0 2,.l 6 1 5,.a 7 0 3,.l 8 1 7,.b 9 .lss 6 8,.m 10 9,.g 11 (.addr 0 (.t 2)) 10 false,.g 12 (.load 1 false (.t 11)) 10 false,.g 13 (.addr 0 (.t 3)) 10 false,.g 14 (.load 1 false (.t 13)) 10 false,.g 15 (.bin .eql (.t 12) (.t 14)) 10 false,.g 16 (.mv (.t 15)) 10 false,.g 17 (.addr 1 (.t 2)) 16 true,.g 18 (.load 1 false (.t 17)) 16 true,.g 19 (.addr 1 (.t 3)) 16 true,.g 20 (.load 1 false (.t 19)) 16 true,.g 21 (.bin .lss (.t 18) (.t 20)) 16 true,.g 22 (.pick (.t 16) (.t 21) (.val (.bool false))) 10 false,.q 23 (.pick (.t 10) (.val (.bool true)) (.t 22)),.m 4 23]) .ret))
def zsB:List LRes := [.tmp 4]
theorem zuG:Tryz.f131.body.bind (zh Tryz.prog 24)=some zsA:=by kernel_rfl
theorem zuH:zj Tryz.prog Tryz.f131.results.toList=some zsB:=by kernel_rfl
def zxc:LC:=(.seq (.reg none [.q 3 (.box (.t 1)),.q 4 (.mv (.val (.bool false)))]) (.seq (.seq (.reg none [.q 5 (.mv (.val (.w 0)))]) (.block 0 (.loop (.seq (.seq (.reg none [.m 6 5,.a 7 4 3,.l 8 1 7,.n 9 8,.b 10 .lss 6 9]) (.cond (.t 10) .skip (.exit 0))) (.seq (.block 1 (.seq (.reg none [.m 13 0,.a 14 4 3,.l 15 1 14,.m 16 5,.i 17 2 15 16,.k 18 2 17,.q 19 (.call 96 [.t 13,.t 18] 0),.q 20 (.bin .lss (.t 19) (.val (.w 0)))]) (.cond (.t 20) (.seq (.reg none [.q 4 (.mv (.val (.bool false)))]) .ret) .skip))) (.reg none [.m 11 5,.q 12 (.bin .add (.t 11) (.val (.w 1))),.m 5 12])))))) (.seq (.reg (some []) [.m 21 0,.z 22 (.call 134 [.t 21] 0),.z 23 (.addr 0 (.t 3)),.z 24 (.addr 0 (.t 23)),.z 25 (.load 1 false (.t 24)),.q 26 (.idxA 1 2 false (.t 22) (.t 25)),.q 27 (.bin .add (.t 26) (.val (.w 1))),.z 28 (.addr 0 (.t 3)),.z 29 (.addr 1 (.t 28)),.z 30 (.load 1 false (.t 29)),.b 31 .eql 27 30,.m 4 31]) .ret)))
def zxd:List LRes := [.tmp 4]
theorem zuI:Tryz.f132.body.bind (zh Tryz.prog 32)=some zxc:=by kernel_rfl
theorem zuJ:zj Tryz.prog Tryz.f132.results.toList=some zxd:=by kernel_rfl
def zxe:LC:=(.seq (.reg none [.q 1 (.box (.t 0)),.q 2 (.mv (.val (.bool false)))]) (.seq (.reg none [.a 3 0 1,.l 4 1 3,.q 5 (.call 60 [.t 4,.val (.w 0),.val (.w 1)] 0),.m 6 5,.g 7 (.addr 1 (.t 1)) 6 true,.g 8 (.load 1 false (.t 7)) 6 true,.g 9 (.call 60 [.t 8,.val (.w 1),.val (.w 20)] 0) 6 true,.q 10 (.pick (.t 6) (.t 9) (.val (.bool false))),.m 2 10]) .ret))
def zxf:List LRes := [.tmp 2]
theorem zuK:Tryz.f133.body.bind (zh Tryz.prog 11)=some zxe:=by kernel_rfl
theorem zuL:zj Tryz.prog Tryz.f133.results.toList=some zxf:=by kernel_rfl
def zzc:LC:=(.seq (.reg none [.q 2 (.alloc [.int .i64 0,.int .i64 0])]) (.seq (.reg none [.q 3 (.alloc [.int .i64 0,.int .i64 0])]) (.seq (.seq (.reg none [.q 4 (.mv (.val (.w 0)))]) (.block 0 (.loop (.seq (.seq (.reg none [.m 5 4,.m 6 0,.n 7 6,.b 8 .lss 5 7]) (.cond (.t 8) .skip (.exit 0))) (.seq (.block 1 (.seq (.reg none [.m 11 0,.m 12 4,.i 13 5 11 12,.a 14 0 13,.a 15 0 14,.l 16 1 15,.q 17 (.bin .eql (.t 16) (.val (.w 0)))]) (.cond (.t 17) (.reg none [.q 18 (.iaddrA 1 2 (.t 3) (.val (.w 0))),.l 19 1 18,.q 20 (.bin .add (.t 19) (.val (.w 1))),.q 21 (.iaddrA 1 2 (.t 3) (.val (.w 0))),.s (.store 1 (.t 21) (.t 20))]) (.reg none [.q 22 (.iaddrA 1 2 (.t 3) (.val (.w 1))),.l 23 1 22,.q 24 (.bin .add (.t 23) (.val (.w 1))),.q 25 (.iaddrA 1 2 (.t 3) (.val (.w 1))),.s (.store 1 (.t 25) (.t 24))])))) (.reg none [.m 9 4,.q 10 (.bin .add (.t 9) (.val (.w 1))),.m 4 10])))))) (.seq (.reg none [.k 26 2 3,.s (.store 2 (.t 2) (.t 26))]) .ret))))
def zzd:List LRes := [(.cell 2 2 true)]
theorem zuM:Tryz.f134.body.bind (zh Tryz.prog 27)=some zzc:=by kernel_rfl
theorem zuN:zj Tryz.prog Tryz.f134.results.toList=some zzd:=by kernel_rfl
def zuO:LC:=(.seq (.reg none [.q 4 (.mv (.val .nilsl))]) (.seq (.reg none [.m 10 0,.n 11 10,.q 12 (.mkn 4 1 1 [(.bool false)] (.t 11) (.t 11)),.m 5 12]) (.seq (.seq (.reg none [.q 6 (.mv (.val (.w 0)))]) (.block 0 (.loop (.seq (.seq (.reg none [.m 13 6,.m 14 0,.n 15 14,.b 16 .lss 13 15]) (.cond (.t 16) .skip (.exit 0))) (.seq (.block 1 (.reg none [.m 19 5,.m 20 6,.m 21 0,.m 22 6,.i 23 5 21 22,.a 24 2 23,.l 25 1 24,.m 26 1,.q 27 (.call 97 [.t 25,.t 26] 0),.i 28 1 19 20,.s (.store 1 (.t 28) (.t 27))])) (.reg none [.m 17 6,.q 18 (.bin .add (.t 17) (.val (.w 1))),.m 6 18])))))) (.seq (.seq (.reg none [.q 7 (.mv (.val (.w 0)))]) (.block 2 (.loop (.seq (.seq (.reg none [.m 29 7,.m 30 0,.n 31 30,.b 32 .lss 29 31]) (.cond (.t 32) .skip (.exit 2))) (.seq (.block 3 (.seq (.reg none [.m 35 0,.m 36 7,.i 37 5 35 36,.a 38 2 37,.l 39 1 38,.m 40 1,.q 41 (.call 97 [.t 39,.t 40] 0)]) (.cond (.t 41) (.seq (.reg none [.m 42 0,.m 43 7,.q 44 (.call 167 [.t 42,.t 43] 0),.m 8 44]) (.seq (.reg none [.q 9 (.mv (.val (.w 0)))]) (.block 4 (.loop (.seq (.seq (.reg none [.m 45 9,.m 46 0,.n 47 46,.b 48 .lss 45 47]) (.cond (.t 48) .skip (.exit 4))) (.seq (.block 5 (.reg none [.m 51 5,.m 52 9,.m 53 5,.m 54 9,.i 55 1 53 54,.l 56 1 55,.m 57 56,.g 58 (.mv (.t 8)) 57 true,.g 59 (.mv (.t 9)) 57 true,.g 60 (.iaddrS 1 (.t 58) (.t 59)) 57 true,.g 61 (.load 1 false (.t 60)) 57 true,.g 62 (.not (.t 61)) 57 true,.q 63 (.pick (.t 57) (.t 62) (.val (.bool false))),.i 64 1 51 52,.s (.store 1 (.t 64) (.t 63))])) (.reg none [.m 49 9,.q 50 (.bin .add (.t 49) (.val (.w 1))),.m 9 50]))))))) .skip))) (.reg none [.m 33 7,.q 34 (.bin .add (.t 33) (.val (.w 1))),.m 7 34])))))) (.seq (.reg none [.m 65 0,.m 66 5,.q 67 (.call 209 [.t 65,.t 66] 0),.m 4 67]) .ret)))))
def zuP:List LRes := [.tmp 4]
theorem zuQ:Tryz.f135.body.bind (zh Tryz.prog 68)=some zuO:=by kernel_rfl
theorem zuR:zj Tryz.prog Tryz.f135.results.toList=some zuP:=by kernel_rfl
def ztz:LC:=(.seq (.reg none [.q 1 (.box (.t 0)),.q 2 (.alloc [.int .i64 0,.nilsl,.nilsl])]) (.seq (.seq (.reg none [.q 3 (.mv (.val (.w 0)))]) (.block 0 (.loop (.seq (.seq (.reg none [.m 5 3,.a 6 2 1,.l 7 1 6,.n 8 7,.b 9 .lss 5 8]) (.cond (.t 9) .skip (.exit 0))) (.seq (.block 1 (.seq (.reg (some []) [.z 12 (.addr 1 (.t 1)),.z 13 (.load 1 false (.t 12)),.z 14 (.addr 2 (.t 1)),.z 15 (.load 1 false (.t 14)),.m 16 3,.z 17 (.iaddrS 5 (.t 15) (.t 16)),.z 18 (.load 5 true (.t 17)),.q 19 (.call 132 [.t 13,.t 18] 0)]) (.cond (.t 19) (.seq (.reg none [.a 20 0 1,.l 21 1 20,.q 22 (.build [.int .i64 0,.nilsl,.nilsl] [(0,(1,(.t 21)))]),.q 4 (.alloc [.int .i64 0,.nilsl,.nilsl]),.s (.store 3 (.t 4) (.t 22))]) (.seq (.reg (some [(0,1),(0,2),(0,4),(3,4),(0,5),(3,5),(0,7),(3,7),(0,8),(3,8)]) [.z 23 (.mk0 32 5),.z 24 (.addr 1 (.t 1)),.z 25 (.load 1 false (.t 24)),.z 26 (.append 32 5 64 (.t 23) (.t 25)),.z 27 (.addr 2 (.t 1)),.z 28 (.load 1 false (.t 27)),.m 29 3,.z 30 (.iaddrS 5 (.t 28) (.t 29)),.z 31 (.load 5 true (.t 30)),.q 32 (.mks 5 [.int .i64 0,.int .i64 0,.int .i64 0,.str ⟨#[]⟩,.nilsl] 1 [(0,(.t 31))]),.q 33 (.append 32 5 64 (.t 26) (.t 32)),.a 34 1 4,.s (.store 1 (.t 34) (.t 33))]) (.seq (.reg (some [(0,1),(0,2),(0,4),(0,6),(5,6),(0,7),(5,7),(0,10),(5,10)]) [.z 35 (.mk0 32 5),.z 36 (.addr 2 (.t 1)),.z 37 (.load 1 false (.t 36)),.m 38 3,.z 39 (.slc 5 (.t 37) none (some (.t 38))),.z 40 (.append 32 5 64 (.t 35) (.t 39)),.z 41 (.addr 2 (.t 1)),.z 42 (.load 1 false (.t 41)),.m 43 3,.q 44 (.bin .add (.t 43) (.val (.w 1))),.z 45 (.slc 5 (.t 42) (some (.t 44)) none),.q 46 (.append 32 5 64 (.t 40) (.t 45)),.a 47 2 4,.s (.store 1 (.t 47) (.t 46))]) (.seq (.reg none [.k 48 3 4,.q 49 (.call 136 [.t 48] 0),.s (.store 3 (.t 2) (.t 49))]) .ret)))) .skip))) (.reg none [.m 10 3,.q 11 (.bin .add (.t 10) (.val (.w 1))),.m 3 11])))))) (.seq (.reg none [.k 50 3 1,.s (.store 3 (.t 2) (.t 50))]) .ret)))
def ztA:List LRes := [(.cell 2 3 true)]
theorem zrA:Tryz.f136.body.bind (zh Tryz.prog 51)=some ztz:=by kernel_rfl
theorem zrB:zj Tryz.prog Tryz.f136.results.toList=some ztA:=by kernel_rfl
def zkz:LC:=(.seq (.reg none [.q 1 (.box (.t 0)),.q 2 (.mv (.val (.bool false)))]) (.seq (.reg (some []) [.z 5 (.addr 0 (.t 1)),.z 6 (.load 1 false (.t 5)),.q 7 (.bin .eql (.t 6) (.val (.w 1))),.z 8 (.addr 0 (.t 1)),.z 9 (.load 1 false (.t 8)),.q 10 (.bin .eql (.t 9) (.val (.w 5))),.m 3 7,.m 4 10]) (.seq (.reg none [.m 11 3,.q 12 (.not (.t 11)),.m 13 12,.g 14 (.addr 3 (.t 1)) 13 true,.g 15 (.load 1 false (.t 14)) 13 true,.g 16 (.bin .neq (.t 15) (.val (.w 0))) 13 true,.g 17 (.mv (.t 16)) 13 true,.g 18 (.addr 4 (.t 1)) 17 false,.g 19 (.load 1 false (.t 18)) 17 false,.g 20 (.bin .neq (.t 19) (.val (.str ⟨#[]⟩))) 17 false,.g 21 (.pick (.t 17) (.val (.bool true)) (.t 20)) 13 true,.q 22 (.pick (.t 13) (.t 21) (.val (.bool false))),.m 23 22,.g 24 (.mv (.t 3)) 23 false,.g 25 (.mv (.t 24)) 23 false,.g 26 (.mv (.t 4)) 25 false,.g 27 (.pick (.t 25) (.val (.bool true)) (.t 26)) 23 false,.g 28 (.mv (.t 27)) 23 false,.g 29 (.addr 2 (.t 1)) 28 true,.g 30 (.load 1 false (.t 29)) 28 true,.g 31 (.bin .neq (.t 30) (.val (.w 0))) 28 true,.g 32 (.pick (.t 28) (.t 31) (.val (.bool false))) 23 false,.q 33 (.pick (.t 23) (.val (.bool true)) (.t 32)),.m 2 33]) .ret)))
def zkA:List LRes := [.tmp 2]
theorem zuS:Tryz.f137.body.bind (zh Tryz.prog 34)=some zkz:=by kernel_rfl
theorem zuT:zj Tryz.prog Tryz.f137.results.toList=some zkA:=by kernel_rfl
def ZJ:LC:=(.seq (.reg none [.q 3 (.box (.t 1)),.q 4 (.mv (.val (.w 0)))]) (.seq (.seq (.reg none [.a 8 0 3,.l 9 1 8]) (.block 0 (.seq (.reg none [.q 11 (.bin .eql (.t 9) (.val (.w 1))),.m 10 11]) (.cond (.t 10) (.seq (.regS [(36,(3,true)),(32,(5,true))] [(1,18),(2,18),(3,18),(4,18),(5,18),(6,18),(7,18),(8,18),(9,18),(10,18),(11,18),(12,18),(13,18),(1,19),(2,19),(3,19),(4,19),(5,19),(6,19),(7,19),(8,19),(9,19),(10,19),(11,19),(12,19),(13,19),(18,19)] [.m 13 0,.z 14 (.nilchk (.t 13)),.z 15 (.addr 0 (.t 14)),.z 16 (.addr 0 (.t 15)),.z 17 (.load 1 false (.t 16)),.z 18 (.addr 1 (.t 3)),.z 19 (.load 1 false (.t 18)),.z 20 (.iaddrS 3 (.t 17) (.t 19)),.z 21 (.load 3 true (.t 20)),.z 22 (.addr 3 (.t 3)),.z 23 (.load 1 false (.t 22)),.z 24 (.addr 4 (.t 3)),.z 25 (.load 1 false (.t 24)),.z 26 (.call 16 [.t 21,.t 23,.t 25] 0),.m 12 26,.e 27 0 12,.e 28 1 12,.e 29 2 12,.z 5 (.alloci 36 0 [.int .i64 0,.nilsl,.nilsl]),.z 6 (.alloci 32 1 [.int .i64 0,.int .i64 0,.int .i64 0,.str ⟨#[]⟩,.nilsl]),.s (.store 3 (.t 5) (.t 27)),.s (.store 5 (.t 6) (.t 28)),.m 7 29]) (.seq (.seq (.reg none [.m 30 7,.q 31 (.bin .neq (.t 30) (.val (.w 0)))]) (.cond (.t 31) (.seq (.reg none [.m 32 7,.m 4 32]) .ret) .skip)) (.seq (.reg (some []) [.m 33 0,.z 34 (.nilchk (.t 33)),.z 35 (.addr 0 (.t 34)),.z 36 (.addr 0 (.t 35)),.z 37 (.load 1 false (.t 36)),.z 38 (.addr 1 (.t 3)),.z 39 (.load 1 false (.t 38)),.z 40 (.load 3 true (.t 5)),.i 41 3 37 39,.s (.store 3 (.t 41) (.t 40))]) (.seq (.reg none [.m 42 0,.a 43 1 3,.l 44 1 43,.q 45 (.bin .sub (.val (.w 1)) (.t 44)),.k 46 5 6,.q 47 (.call 210 [.t 42,.t 45,.t 46] 0)]) (.seq (.reg none [.q 4 (.mv (.val (.w 0)))]) .ret))))) (.seq (.reg none [.q 49 (.bin .eql (.t 9) (.val (.w 5))),.m 48 49]) (.cond (.t 48) (.seq (.reg none [.m 50 0,.a 51 1 3,.l 52 1 51,.q 53 (.call 68 [.t 50,.t 52] 0),.m 4 53]) .ret) .skip)))))) (.seq (.seq (.reg (some []) [.a 54 2 3,.l 55 1 54,.q 56 (.bin .lss (.t 55) (.val (.w 0))),.m 57 56,.y 58 (.addr 2 (.t 3)) 57 false,.y 59 (.load 1 false (.t 58)) 57 false,.g 60 (.mv (.t 0)) 57 false,.y 61 (.nilchk (.t 60)) 57 false,.y 62 (.addr 0 (.t 61)) 57 false,.y 63 (.addr 1 (.t 62)) 57 false,.y 64 (.load 1 false (.t 63)) 57 false,.y 65 (.addr 1 (.t 3)) 57 false,.y 66 (.load 1 false (.t 65)) 57 false,.y 67 (.iaddrS 1 (.t 64) (.t 66)) 57 false,.y 68 (.load 1 false (.t 67)) 57 false,.y 69 (.len false (.t 68)) 57 false,.g 70 (.bin .geq (.t 59) (.t 69)) 57 false,.q 71 (.pick (.t 57) (.val (.bool true)) (.t 70))]) (.cond (.t 71) (.seq (.reg none [.q 4 (.mv (.val (.w 5)))]) .ret) .skip)) (.seq (.seq (.reg none [.a 72 0 3,.l 73 1 72]) (.block 1 (.seq (.reg none [.q 75 (.bin .eql (.t 73) (.val (.w 2))),.m 74 75]) (.cond (.t 74) (.seq (.reg (some [(1,8),(2,8)]) [.m 76 0,.z 77 (.addr 1 (.t 3)),.z 78 (.load 1 false (.t 77)),.m 79 0,.z 80 (.addr 1 (.t 3)),.z 81 (.load 1 false (.t 80)),.z 82 (.addr 2 (.t 3)),.z 83 (.load 1 false (.t 82)),.z 84 (.call 211 [.t 79,.t 81,.t 83] 3),.q 85 (.call 141 [.t 76,.t 78,.t 84] 0),.m 4 85]) .ret) (.seq (.reg none [.q 87 (.bin .eql (.t 73) (.val (.w 3))),.m 86 87]) (.cond (.t 86) (.reg none [.m 88 0,.a 89 1 3,.l 90 1 89,.a 91 2 3,.l 92 1 91,.q 93 (.call 211 [.t 88,.t 90,.t 92] 3)]) (.seq (.reg none [.q 95 (.bin .eql (.t 73) (.val (.w 4))),.m 94 95]) (.cond (.t 94) (.seq (.reg (some []) [.m 96 0,.z 97 (.addr 1 (.t 3)),.z 98 (.load 1 false (.t 97)),.m 99 0,.z 100 (.nilchk (.t 99)),.z 101 (.addr 0 (.t 100)),.z 102 (.addr 1 (.t 101)),.z 103 (.load 1 false (.t 102)),.z 104 (.addr 1 (.t 3)),.z 105 (.load 1 false (.t 104)),.z 106 (.iaddrS 1 (.t 103) (.t 105)),.z 107 (.load 1 false (.t 106)),.z 108 (.addr 2 (.t 3)),.z 109 (.load 1 false (.t 108)),.z 110 (.iaddrS 5 (.t 107) (.t 109)),.z 111 (.load 5 true (.t 110)),.q 112 (.call 210 [.t 96,.t 98,.t 111] 0),.q 113 (.not (.t 112))]) (.cond (.t 113) (.seq (.reg none [.q 4 (.mv (.val (.w 2)))]) .ret) .skip)) .skip)))))))) (.seq (.reg none [.q 4 (.mv (.val (.w 0)))]) .ret)))))
def ZK:List LRes := [.tmp 4]
theorem Z1:Tryz.f138.body.bind (zh Tryz.prog 114)=some ZJ:=by kernel_rfl
theorem Z2:zj Tryz.prog Tryz.f138.results.toList=some ZK:=by kernel_rfl
def zqs:LC:=(.seq (.reg none [.q 1 (.box (.t 0)),.q 2 (.alloc [.int .i64 0,.nilsl,.nilsl])]) (.seq (.reg (some [(0,4),(1,4),(4,5),(4,6),(0,7),(1,7)]) [.z 3 (.addr 0 (.t 1)),.z 4 (.load 1 false (.t 3)),.z 5 (.addr 1 (.t 1)),.z 6 (.load 1 false (.t 5)),.z 7 (.call 212 [.t 6] 2),.z 8 (.addr 2 (.t 1)),.z 9 (.load 1 false (.t 8)),.z 10 (.call 212 [.t 9] 2),.q 11 (.build [.int .i64 0,.nilsl,.nilsl] [(0,(1,(.t 4))),(1,(1,(.t 7))),(2,(1,(.t 10)))]),.s (.store 3 (.t 2) (.t 11))]) .ret))
def zqt:List LRes := [(.cell 2 3 true)]
theorem zlg:Tryz.f139.body.bind (zh Tryz.prog 12)=some zqs:=by kernel_rfl
theorem zlh:zj Tryz.prog Tryz.f139.results.toList=some zqt:=by kernel_rfl
def zuU:LC:=(.seq (.reg none [.q 1 (.box (.t 0)),.q 2 (.alloc [.int .i64 0,.int .i64 0,.int .i64 0,.str ⟨#[]⟩,.nilsl])]) (.seq (.reg none [.a 3 4 1,.l 4 1 3,.q 5 (.call 213 [.t 4] 0),.a 6 4 1,.s (.store 1 (.t 6) (.t 5))]) (.seq (.reg none [.k 7 5 1,.s (.store 5 (.t 2) (.t 7))]) .ret)))
def zuV:List LRes := [(.cell 2 5 true)]
theorem zrC:Tryz.f140.body.bind (zh Tryz.prog 8)=some zuU:=by kernel_rfl
theorem zrD:zj Tryz.prog Tryz.f140.results.toList=some zuV:=by kernel_rfl
def zqu:LC:=(.seq (.reg none [.q 5 (.box (.t 2)),.q 6 (.mv (.val (.w 0)))]) (.seq (.reg (some [(1,13),(2,13),(3,13),(4,13),(6,13),(7,13),(8,13),(9,13)]) [.m 10 0,.z 11 (.nilchk (.t 10)),.z 12 (.addr 0 (.t 11)),.z 13 (.addr 0 (.t 12)),.z 14 (.load 1 false (.t 13)),.m 15 1,.z 16 (.iaddrS 3 (.t 14) (.t 15)),.z 17 (.load 3 true (.t 16)),.z 18 (.load 5 true (.t 5)),.z 19 (.call 71 [.t 17,.t 18] 0),.m 9 19,.e 20 0 9,.e 21 1 9,.z 7 (.alloc [.int .i64 0,.nilsl,.nilsl]),.s (.store 3 (.t 7) (.t 20)),.m 8 21]) (.seq (.seq (.reg none [.m 22 8,.q 23 (.bin .eql (.t 22) (.val (.w 0)))]) (.cond (.t 23) (.reg (some []) [.m 24 0,.z 25 (.nilchk (.t 24)),.z 26 (.addr 0 (.t 25)),.z 27 (.addr 0 (.t 26)),.z 28 (.load 1 false (.t 27)),.m 29 1,.z 30 (.load 3 true (.t 7)),.i 31 3 28 29,.s (.store 3 (.t 31) (.t 30))]) .skip)) (.seq (.reg none [.m 32 8,.m 6 32]) .ret))))
def zqv:List LRes := [.tmp 6]
theorem zrE:Tryz.f141.body.bind (zh Tryz.prog 33)=some zqu:=by kernel_rfl
theorem zrF:zj Tryz.prog Tryz.f141.results.toList=some zqv:=by kernel_rfl
def zxg:LC:=(.seq (.reg none [.q 1 (.box (.t 0)),.q 2 (.mv (.val (.bool false)))]) (.seq (.reg none [.a 3 0 1,.l 4 1 3,.q 5 (.call 173 [.t 4,.val (.w 0),.val (.w 1)] 0),.m 6 5,.g 7 (.addr 1 (.t 1)) 6 true,.g 8 (.load 1 false (.t 7)) 6 true,.g 9 (.call 173 [.t 8,.val (.w 1),.val (.w 20)] 0) 6 true,.q 10 (.pick (.t 6) (.t 9) (.val (.bool false))),.m 2 10]) .ret))
def zxh:List LRes := [.tmp 2]
theorem zuW:Tryz.f142.body.bind (zh Tryz.prog 11)=some zxg:=by kernel_rfl
theorem zuX:zj Tryz.prog Tryz.f142.results.toList=some zxh:=by kernel_rfl
def zxi:LC:=(.seq (.reg none [.q 2 (.box (.t 0)),.q 3 (.box (.t 1)),.q 4 (.mv (.val (.w 0)))]) (.seq (.reg none [.q 5 (.mv (.val (.clo 214 [])))]) (.seq (.seq (.reg none [.m 7 5,.a 8 0 2,.l 9 1 8,.a 10 0 3,.l 11 1 10,.q 12 (.callv (.t 7) [.t 9,.t 11]),.m 6 12]) (.seq (.reg none [.m 13 6,.q 14 (.bin .neq (.t 13) (.val (.w 0)))]) (.cond (.t 14) (.seq (.reg none [.m 15 6,.m 4 15]) .ret) .skip))) (.seq (.reg none [.m 16 5,.a 17 1 2,.l 18 1 17,.a 19 1 3,.l 20 1 19,.q 21 (.callv (.t 16) [.t 18,.t 20]),.m 4 21]) .ret))))
def zxj:List LRes := [.tmp 4]
theorem zuY:Tryz.f143.body.bind (zh Tryz.prog 22)=some zxi:=by kernel_rfl
theorem zuZ:zj Tryz.prog Tryz.f143.results.toList=some zxj:=by kernel_rfl
def zxk:LC:=(.seq (.reg none [.q 4 (.box (.t 1)),.q 6 (.mv (.val (.w 0))),.q 7 (.mv (.val (.bool false)))]) (.seq (.reg none [.m 12 0,.n 13 12,.m 8 13]) (.seq (.reg none [.m 14 8,.q 9 (.mv (.val (.w 0))),.m 10 14]) (.seq (.block 0 (.loop (.seq (.seq (.reg none [.m 15 9,.m 16 10,.b 17 .lss 15 16]) (.cond (.t 17) .skip (.exit 0))) (.block 1 (.seq (.reg none [.m 18 9,.m 19 10,.b 20 .add 18 19,.q 21 (.conv .u64 (.t 20)),.q 22 (.bin .shr (.t 21) (.val (.int .u64 1))),.q 23 (.conv .i64 (.t 22)),.m 11 23]) (.seq (.reg (some []) [.m 24 2,.m 25 0,.m 26 11,.z 27 (.iaddrS 5 (.t 25) (.t 26)),.z 28 (.load 5 true (.t 27)),.z 29 (.load 2 true (.t 4)),.q 30 (.callv (.t 24) [.t 28,.t 29]),.q 31 (.bin .lss (.t 30) (.val (.w 0)))]) (.cond (.t 31) (.reg none [.m 32 11,.q 33 (.bin .add (.t 32) (.val (.w 1))),.m 9 33]) (.reg none [.m 34 11,.m 10 34])))))))) (.seq (.reg (some []) [.m 35 9,.m 36 9,.m 37 8,.b 38 .lss 36 37,.m 39 38,.g 40 (.mv (.t 2)) 39 true,.g 41 (.mv (.t 0)) 39 true,.g 42 (.mv (.t 9)) 39 true,.y 43 (.iaddrS 5 (.t 41) (.t 42)) 39 true,.y 44 (.load 5 true (.t 43)) 39 true,.y 45 (.load 2 true (.t 4)) 39 true,.g 46 (.callv (.t 40) [.t 44,.t 45]) 39 true,.g 47 (.bin .eql (.t 46) (.val (.w 0))) 39 true,.q 48 (.pick (.t 39) (.t 47) (.val (.bool false))),.m 6 35,.m 7 48]) .ret)))))
def zxl:List LRes := [.tmp 6,.tmp 7]
theorem zu0:Tryz.f144.body.bind (zh Tryz.prog 49)=some zxk:=by kernel_rfl
theorem zu1:zj Tryz.prog Tryz.f144.results.toList=some zxl:=by kernel_rfl
def zze:LC:=(.seq (.reg none [.q 2 (.box (.t 0)),.q 3 (.box (.t 1)),.q 4 (.mv (.val (.w 0)))]) (.seq (.reg none [.a 5 0 2,.k 6 2 5,.k 7 2 3,.q 8 (.call 143 [.t 6,.t 7] 0),.m 4 8]) .ret))
def zzf:List LRes := [.tmp 4]
theorem zu2:Tryz.f145.body.bind (zh Tryz.prog 9)=some zze:=by kernel_rfl
theorem zu3:zj Tryz.prog Tryz.f145.results.toList=some zzf:=by kernel_rfl
def zzg:LC:=(.seq (.reg none [.q 1 (.box (.t 0))]) (.seq (.reg none [.q 4 (.clo 217 [.t 1]),.m 2 4]) (.seq (.reg none [.l 5 1 1,.q 6 (.nilchk (.t 5)),.a 7 0 6,.a 8 2 7,.l 9 1 8,.m 10 2,.q 11 (.call 178 [.t 9,.t 10] 0),.m 3 11]) (.block 0 (.loop (.seq (.seq (.reg none [.m 12 3,.q 13 (.bin .geq (.t 12) (.val (.w 0)))]) (.cond (.t 13) .skip (.exit 0))) (.seq (.block 1 (.seq (.reg (some [(0,15)]) [.z 21 (.load 1 false (.t 1)),.z 22 (.load 1 false (.t 1)),.z 23 (.nilchk (.t 22)),.z 24 (.addr 0 (.t 23)),.z 25 (.addr 1 (.t 24)),.z 26 (.load 1 false (.t 25)),.z 27 (.load 1 false (.t 1)),.z 28 (.nilchk (.t 27)),.z 29 (.addr 0 (.t 28)),.z 30 (.addr 2 (.t 29)),.z 31 (.load 1 false (.t 30)),.m 32 3,.z 33 (.iaddrS 5 (.t 31) (.t 32)),.z 34 (.load 5 true (.t 33)),.q 35 (.mks 5 [.int .i64 0,.int .i64 0,.int .i64 0,.str ⟨#[]⟩,.nilsl] 1 [(0,(.t 34))]),.z 36 (.append 32 5 64 (.t 26) (.t 35)),.q 37 (.nilchk (.t 21)),.a 38 0 37,.a 39 1 38,.s (.store 1 (.t 39) (.t 36))]) (.reg (some [(0,9)]) [.z 40 (.load 1 false (.t 1)),.z 41 (.load 1 false (.t 1)),.z 42 (.nilchk (.t 41)),.z 43 (.addr 0 (.t 42)),.z 44 (.addr 2 (.t 43)),.z 45 (.load 1 false (.t 44)),.m 46 3,.m 47 3,.q 48 (.bin .add (.t 47) (.val (.w 1))),.z 49 (.call 218 [.t 45,.t 46,.t 48] 1),.q 50 (.nilchk (.t 40)),.a 51 0 50,.a 52 2 51,.s (.store 1 (.t 52) (.t 49))]))) (.reg none [.l 14 1 1,.q 15 (.nilchk (.t 14)),.a 16 0 15,.a 17 2 16,.l 18 1 17,.m 19 2,.q 20 (.call 178 [.t 18,.t 19] 0),.m 3 20]))))))))
def zzh:List LRes := []
theorem zu4:Tryz.f147.body.bind (zh Tryz.prog 53)=some zzg:=by kernel_rfl
theorem zu5:zj Tryz.prog Tryz.f147.results.toList=some zzh:=by kernel_rfl
def zxm:LC:=(.seq (.reg none [.q 2 (.mv (.val (.bool false)))]) (.seq (.seq (.reg none [.m 5 0,.q 6 (.len true (.t 5)),.q 7 (.mv (.val (.w 0)))]) (.block 0 (.loop (.seq (.reg none [.b 8 .lss 7 6]) (.seq (.cond (.t 8) .skip (.exit 0)) (.seq (.block 1 (.seq (.reg none [.m 9 7,.m 3 9]) (.seq (.reg none [.m 10 0,.m 11 3,.q 12 (.idxS (.t 10) (.t 11)),.m 4 12]) (.seq (.reg none [.m 13 4,.q 14 (.bin .geq (.t 13) (.val (.int .u8 97))),.m 15 14,.g 16 (.mv (.t 4)) 15 true,.g 17 (.bin .leq (.t 16) (.val (.int .u8 122))) 15 true,.q 18 (.pick (.t 15) (.t 17) (.val (.bool false))),.q 19 (.not (.t 18)),.m 20 19,.g 21 (.mv (.t 4)) 20 true,.g 22 (.bin .geq (.t 21) (.val (.int .u8 48))) 20 true,.g 23 (.mv (.t 22)) 20 true,.g 24 (.mv (.t 4)) 23 true,.g 25 (.bin .leq (.t 24) (.val (.int .u8 57))) 23 true,.g 26 (.pick (.t 23) (.t 25) (.val (.bool false))) 20 true,.g 27 (.not (.t 26)) 20 true,.q 28 (.pick (.t 20) (.t 27) (.val (.bool false)))]) (.cond (.t 28) (.seq (.reg none [.q 2 (.mv (.val (.bool false)))]) .ret) .skip))))) (.reg none [.q 29 (.bin .add (.t 7) (.val (.w 1))),.m 7 29]))))))) (.seq (.reg none [.m 30 0,.q 31 (.len true (.t 30)),.q 32 (.bin .geq (.t 31) (.val (.w 1))),.m 33 32,.g 34 (.mv (.t 0)) 33 true,.g 35 (.len true (.t 34)) 33 true,.g 36 (.bin .leq (.t 35) (.val (.w 3))) 33 true,.q 37 (.pick (.t 33) (.t 36) (.val (.bool false))),.m 2 37]) .ret)))
def zxn:List LRes := [.tmp 2]
theorem zu6:Tryz.f150.body.bind (zh Tryz.prog 38)=some zxm:=by kernel_rfl
theorem zu7:zj Tryz.prog Tryz.f150.results.toList=some zxn:=by kernel_rfl
def zzi:LC:=(.seq (.reg none [.q 4 (.mv (.val (.bool false)))]) (.seq (.reg none [.m 5 0,.m 6 1,.q 7 (.call 222 [.t 5,.t 6] 0),.q 8 (.bin .geq (.t 7) (.val (.w 0))),.m 4 8]) .ret))
def zzj:List LRes := [.tmp 4]
theorem zu8:Tryz.f154.body.bind (zh Tryz.prog 9)=some zzi:=by kernel_rfl
theorem zu9:zj Tryz.prog Tryz.f154.results.toList=some zzj:=by kernel_rfl
def zzk:LC:=(.seq (.reg none [.q 2 (.mv (.val (.bool false)))]) (.seq (.reg none [.m 3 0,.q 4 (.call 150 [.t 3] 0),.q 5 (.not (.t 4)),.m 2 5]) .ret))
def zzl:List LRes := [.tmp 2]
theorem zva:Tryz.f155.body.bind (zh Tryz.prog 6)=some zzk:=by kernel_rfl
theorem zvb:zj Tryz.prog Tryz.f155.results.toList=some zzl:=by kernel_rfl
def zsC:LC:=(.seq (.reg none [.q 4 (.mv (.val (.bool false)))]) (.seq (.reg none [.q 6 (.mks 1 [.int .i64 0] 3 [(0,(.val (.w 1))),(1,(.val (.w 2))),(2,(.val (.w 4)))]),.m 5 6]) (.seq (.reg none [.m 7 0,.m 8 5,.m 9 1,.i 10 1 8 9,.l 11 1 10,.b 12 .quo 7 11,.q 13 (.bin .rem (.t 12) (.val (.w 2))),.q 14 (.bin .eql (.t 13) (.val (.w 1))),.m 4 14]) .ret)))
def zsD:List LRes := [.tmp 4]
theorem zvc:Tryz.f166.body.bind (zh Tryz.prog 15)=some zsC:=by kernel_rfl
theorem zvd:zj Tryz.prog Tryz.f166.results.toList=some zsD:=by kernel_rfl
def zzm:LC:=(.seq (.reg none [.q 4 (.mv (.val .nilsl))]) (.seq (.reg none [.m 8 0,.n 9 8,.q 10 (.mkn 4 1 1 [(.bool false)] (.t 9) (.t 9)),.m 5 10]) (.seq (.seq (.reg none [.m 11 1,.m 6 11]) (.block 0 (.loop (.seq (.seq (.reg none [.m 12 6,.q 13 (.bin .geq (.t 12) (.val (.w 0)))]) (.cond (.t 13) .skip (.exit 0))) (.seq (.block 1 (.seq (.reg none [.m 16 6,.m 17 1,.b 18 .eql 16 17,.m 19 18,.g 20 (.mv (.t 5)) 19 false,.g 21 (.mv (.t 6)) 19 false,.g 22 (.iaddrS 1 (.t 20) (.t 21)) 19 false,.g 23 (.load 1 false (.t 22)) 19 false,.q 24 (.pick (.t 19) (.val (.bool true)) (.t 23))]) (.cond (.t 24) (.seq (.reg none [.q 7 (.mv (.val (.w 0)))]) (.block 2 (.loop (.seq (.seq (.reg none [.m 25 7,.m 26 0,.m 27 6,.i 28 5 26 27,.a 29 4 28,.l 30 1 29,.n 31 30,.b 32 .lss 25 31]) (.cond (.t 32) .skip (.exit 2))) (.seq (.block 3 (.reg none [.m 35 5,.m 36 0,.m 37 0,.m 38 6,.i 39 5 37 38,.a 40 4 39,.l 41 1 40,.m 42 7,.i 43 2 41 42,.k 44 2 43,.q 45 (.call 96 [.t 36,.t 44] 0),.i 46 1 35 45,.s (.store 1 (.t 46) (.val (.bool true)))])) (.reg none [.m 33 7,.q 34 (.bin .add (.t 33) (.val (.w 1))),.m 7 34])))))) .skip))) (.reg none [.m 14 6,.q 15 (.bin .sub (.t 14) (.val (.w 1))),.m 6 15])))))) (.seq (.reg none [.m 47 5,.m 4 47]) .ret))))
def zzn:List LRes := [.tmp 4]
theorem zve:Tryz.f167.body.bind (zh Tryz.prog 48)=some zzm:=by kernel_rfl
theorem zvf:zj Tryz.prog Tryz.f167.results.toList=some zzn:=by kernel_rfl
def zzo:LC:=(.seq (.reg none [.q 6 (.mv (.val (.bool false)))]) (.seq (.reg none [.m 7 0,.m 8 1,.b 9 .geq 7 8,.m 10 9,.g 11 (.mv (.t 0)) 10 true,.g 12 (.mv (.t 2)) 10 true,.g 13 (.bin .leq (.t 11) (.t 12)) 10 true,.q 14 (.pick (.t 10) (.t 13) (.val (.bool false))),.m 6 14]) .ret))
def zzp:List LRes := [.tmp 6]
theorem zvg:Tryz.f173.body.bind (zh Tryz.prog 15)=some zzo:=by kernel_rfl
theorem zvh:zj Tryz.prog Tryz.f173.results.toList=some zzp:=by kernel_rfl
def zzq:LC:=(.seq (.reg none [.q 4 (.mv (.val .nilsl))]) (.seq (.reg none [.q 5 (.mv (.val .nilsl))]) (.seq (.seq (.reg none [.m 8 0,.n 9 8,.q 10 (.mv (.val (.w 0)))]) (.block 0 (.loop (.seq (.reg none [.b 11 .lss 10 9]) (.seq (.cond (.t 11) .skip (.exit 0)) (.seq (.block 1 (.seq (.reg none [.i 12 5 8 10,.k 13 5 12,.q 7 (.alloc [.int .i64 0,.int .i64 0,.int .i64 0,.str ⟨#[]⟩,.nilsl]),.s (.store 5 (.t 7) (.t 13))]) (.seq (.reg none [.a 14 2 7,.l 15 1 14,.m 16 1,.b 17 .and 15 16,.q 18 (.bin .neq (.t 17) (.val (.w 0)))]) (.cond (.t 18) (.reg none [.m 19 5,.k 20 5 7,.q 21 (.mks 5 [.int .i64 0,.int .i64 0,.int .i64 0,.str ⟨#[]⟩,.nilsl] 1 [(0,(.t 20))]),.q 22 (.append 32 5 64 (.t 19) (.t 21)),.m 5 22]) .skip)))) (.reg none [.q 23 (.bin .add (.t 10) (.val (.w 1))),.m 10 23]))))))) (.seq (.reg none [.m 24 5,.m 4 24]) .ret))))
def zzr:List LRes := [.tmp 4]
theorem zvi:Tryz.f174.body.bind (zh Tryz.prog 25)=some zzq:=by kernel_rfl
theorem zvj:zj Tryz.prog Tryz.f174.results.toList=some zzr:=by kernel_rfl
def zzs:LC:=(.seq (.reg none [.q 3 (.box (.t 0)),.q 4 (.mv (.val (.bool false)))]) (.seq (.reg none [.l 5 1 1,.a 6 0 2,.k 7 2 6,.a 8 0 3,.k 9 2 8,.q 10 (.call 176 [.t 5,.t 7,.t 9] 0),.m 4 10]) .ret))
def zzt:List LRes := [.tmp 4]
theorem zvk:Tryz.f175.body.bind (zh Tryz.prog 11)=some zzs:=by kernel_rfl
theorem zvl:zj Tryz.prog Tryz.f175.results.toList=some zzt:=by kernel_rfl
def zzu:LC:=(.seq (.reg none [.q 4 (.box (.t 1)),.q 5 (.box (.t 2)),.q 6 (.mv (.val (.bool false)))]) (.seq (.reg (some []) [.m 7 0,.z 8 (.load 2 true (.t 5)),.z 9 (.call 107 [.t 7,.t 8] 0),.z 10 (.load 2 true (.t 4)),.q 11 (.call 219 [.t 9,.t 10] 0),.m 6 11]) .ret))
def zzv:List LRes := [.tmp 6]
theorem zvm:Tryz.f176.body.bind (zh Tryz.prog 12)=some zzu:=by kernel_rfl
theorem zvn:zj Tryz.prog Tryz.f176.results.toList=some zzv:=by kernel_rfl
def zxo:LC:=(.seq (.reg none [.q 4 (.mv (.val (.w 0)))]) (.seq (.seq (.reg none [.m 6 0,.n 7 6,.q 8 (.mv (.val (.w 0)))]) (.block 0 (.loop (.seq (.reg none [.b 9 .lss 8 7]) (.seq (.cond (.t 9) .skip (.exit 0)) (.seq (.block 1 (.seq (.reg none [.m 10 8,.m 5 10]) (.seq (.reg none [.m 11 1,.m 12 0,.m 13 5,.i 14 5 12 13,.k 15 5 14,.q 16 (.callv (.t 11) [.t 15])]) (.cond (.t 16) (.seq (.reg none [.m 17 5,.m 4 17]) .ret) .skip)))) (.reg none [.q 18 (.bin .add (.t 8) (.val (.w 1))),.m 8 18]))))))) (.seq (.reg none [.q 4 (.mv (.val (.w (-1))))]) .ret)))
def zxp:List LRes := [.tmp 4]
theorem zvo:Tryz.f178.body.bind (zh Tryz.prog 19)=some zxo:=by kernel_rfl
theorem zvp:zj Tryz.prog Tryz.f178.results.toList=some zxp:=by kernel_rfl
def zzw:LC:=(.seq (.reg none [.q 2 (.box (.t 0)),.q 3 (.mv (.val (.bool false)))]) (.seq (.reg none [.a 4 0 2,.k 5 2 4,.k 6 2 1,.q 7 (.eqag false [.i,.i] (.t 5) (.t 6)),.m 3 7]) .ret))
def zzx:List LRes := [.tmp 3]
theorem zvq:Tryz.f179.body.bind (zh Tryz.prog 8)=some zzw:=by kernel_rfl
theorem zvr:zj Tryz.prog Tryz.f179.results.toList=some zzx:=by kernel_rfl
def zzy:LC:=(.seq (.reg none [.q 4 (.mv (.val .nilsl))]) (.seq (.reg none [.q 5 (.mv (.val .nilsl))]) (.seq (.seq (.reg none [.m 12 0,.m 13 1,.q 14 (.call 174 [.t 12,.t 13] 0),.n 15 14,.q 16 (.mv (.val (.w 0)))]) (.block 0 (.loop (.seq (.reg none [.b 17 .lss 16 15]) (.seq (.cond (.t 17) .skip (.exit 0)) (.seq (.block 1 (.seq (.reg none [.i 18 5 14 16,.k 19 5 18,.q 7 (.alloc [.int .i64 0,.int .i64 0,.int .i64 0,.str ⟨#[]⟩,.nilsl]),.s (.store 5 (.t 7) (.t 19))]) (.seq (.reg none [.a 21 3 7,.l 22 1 21,.q 23 (.call 79 [.t 22] 0),.m 20 23,.e 24 0 20,.e 25 1 20,.e 26 2 20,.e 27 3 20,.m 8 24,.m 9 25,.m 10 26,.m 11 27]) (.seq (.reg none [.m 28 11,.q 29 (.bin .eql (.t 28) (.val (.w 0)))]) (.cond (.t 29) (.reg none [.m 30 5,.a 31 0 7,.k 32 2 31,.m 33 9,.m 34 10,.m 35 8,.q 36 (.bin .eql (.t 35) (.val (.w 1))),.q 37 (.build [.int .i64 0,.int .i64 0,.str ⟨#[]⟩,.str ⟨#[]⟩,(.bool false)] [(0,(2,(.t 32))),(2,(1,(.t 33))),(3,(1,(.t 34))),(4,(1,(.t 36)))]),.q 38 (.mks 5 [.int .i64 0,.int .i64 0,.str ⟨#[]⟩,.str ⟨#[]⟩,(.bool false)] 1 [(0,(.t 37))]),.q 39 (.append 242 5 56 (.t 30) (.t 38)),.m 5 39]) .skip))))) (.reg none [.q 40 (.bin .add (.t 16) (.val (.w 1))),.m 16 40]))))))) (.seq (.reg none [.m 41 5,.m 4 41]) .ret))))
def zzz:List LRes := [.tmp 4]
theorem zvs:Tryz.f181.body.bind (zh Tryz.prog 42)=some zzy:=by kernel_rfl
theorem zvt:zj Tryz.prog Tryz.f181.results.toList=some zzz:=by kernel_rfl
def zxq:LC:=(.seq (.reg none [.q 2 (.mv (.val .nilsl))]) (.seq (.seq (.reg none [.m 3 0,.q 4 (.isnil false (.t 3))]) (.cond (.t 4) (.seq (.reg none [.q 2 (.mv (.val .nilsl))]) .ret) .skip)) (.seq (.reg none [.q 5 (.mk0 242 5),.m 6 0,.q 7 (.append 242 5 56 (.t 5) (.t 6)),.m 2 7]) .ret)))
def zxr:List LRes := [.tmp 2]
theorem zvu:Tryz.f183.body.bind (zh Tryz.prog 8)=some zxq:=by kernel_rfl
theorem zvv:zj Tryz.prog Tryz.f183.results.toList=some zxr:=by kernel_rfl
def zxs:LC:=(.seq (.reg none [.q 3 (.box (.t 0)),.q 4 (.mv (.val (.bool false)))]) (.seq (.reg none [.a 5 4 3,.l 6 1 5,.q 7 (.not (.t 6)),.m 8 7,.g 9 (.load 1 false (.t 1)) 8 false,.g 10 (.clo 186 [.t 3,.t 2]) 8 false,.g 11 (.call 185 [.t 9,.t 10] 0) 8 false,.q 12 (.pick (.t 8) (.val (.bool true)) (.t 11)),.m 4 12]) .ret))
def zxt:List LRes := [.tmp 4]
theorem zvw:Tryz.f184.body.bind (zh Tryz.prog 13)=some zxs:=by kernel_rfl
theorem zvx:zj Tryz.prog Tryz.f184.results.toList=some zxt:=by kernel_rfl
def zzA:LC:=(.seq (.reg none [.q 4 (.mv (.val (.bool false)))]) (.seq (.reg none [.m 5 0,.m 6 1,.q 7 (.call 228 [.t 5,.t 6] 0),.q 8 (.bin .geq (.t 7) (.val (.w 0))),.m 4 8]) .ret))
def zzB:List LRes := [.tmp 4]
theorem zvy:Tryz.f185.body.bind (zh Tryz.prog 9)=some zzA:=by kernel_rfl
theorem zvz:zj Tryz.prog Tryz.f185.results.toList=some zzB:=by kernel_rfl
def zxu:LC:=(.seq (.reg none [.q 3 (.box (.t 0)),.q 4 (.mv (.val (.bool false)))]) (.seq (.reg none [.a 5 2 3,.l 6 1 5,.a 7 2 1,.l 8 1 7,.b 9 .eql 6 8,.m 10 9,.g 11 (.load 1 false (.t 2)) 10 true,.g 12 (.addr 0 (.t 1)) 10 true,.g 13 (.load 2 true (.t 12)) 10 true,.g 14 (.addr 0 (.t 3)) 10 true,.g 15 (.load 2 true (.t 14)) 10 true,.g 16 (.call 176 [.t 11,.t 13,.t 15] 0) 10 true,.q 17 (.pick (.t 10) (.t 16) (.val (.bool false))),.m 4 17]) .ret))
def zxv:List LRes := [.tmp 4]
theorem zvA:Tryz.f186.body.bind (zh Tryz.prog 18)=some zxu:=by kernel_rfl
theorem zvB:zj Tryz.prog Tryz.f186.results.toList=some zxv:=by kernel_rfl
def zzC:LC:=(.seq (.reg none [.q 4 (.mv (.val (.bool false)))]) (.seq (.reg none [.m 5 0,.m 6 1,.q 7 (.call 231 [.t 5,.t 6] 0),.q 8 (.bin .geq (.t 7) (.val (.w 0))),.m 4 8]) .ret))
def zzD:List LRes := [.tmp 4]
theorem zvC:Tryz.f190.body.bind (zh Tryz.prog 9)=some zzC:=by kernel_rfl
theorem zvD:zj Tryz.prog Tryz.f190.results.toList=some zzD:=by kernel_rfl
def zxw:LC:=(.seq (.reg none [.q 4 (.mv (.val (.w 0)))]) (.seq (.seq (.reg none [.m 6 0,.n 7 6,.q 8 (.mv (.val (.w 0)))]) (.block 0 (.loop (.seq (.reg none [.b 9 .lss 8 7]) (.seq (.cond (.t 9) .skip (.exit 0)) (.seq (.block 1 (.seq (.reg none [.m 10 8,.m 5 10]) (.seq (.reg none [.m 11 1,.m 12 0,.m 13 5,.i 14 2 12 13,.k 15 2 14,.q 16 (.callv (.t 11) [.t 15])]) (.cond (.t 16) (.seq (.reg none [.m 17 5,.m 4 17]) .ret) .skip)))) (.reg none [.q 18 (.bin .add (.t 8) (.val (.w 1))),.m 8 18]))))))) (.seq (.reg none [.q 4 (.mv (.val (.w (-1))))]) .ret)))
def zxx:List LRes := [.tmp 4]
theorem zvE:Tryz.f193.body.bind (zh Tryz.prog 19)=some zxw:=by kernel_rfl
theorem zvF:zj Tryz.prog Tryz.f193.results.toList=some zxx:=by kernel_rfl
def zqw:LC:=(.seq (.reg none [.q 2 (.box (.t 0)),.q 3 (.box (.t 1)),.q 4 (.mv (.val (.bool false)))]) (.seq (.reg none [.a 5 0 2,.k 6 2 5,.a 7 0 3,.k 8 2 7,.q 9 (.eqag false [.i,.i] (.t 6) (.t 8)),.m 10 9,.g 11 (.addr 2 (.t 2)) 10 true,.g 12 (.load 1 false (.t 11)) 10 true,.g 13 (.addr 2 (.t 3)) 10 true,.g 14 (.load 1 false (.t 13)) 10 true,.g 15 (.bin .eql (.t 12) (.t 14)) 10 true,.q 16 (.pick (.t 10) (.t 15) (.val (.bool false))),.m 17 16,.g 18 (.addr 3 (.t 2)) 17 true,.g 19 (.load 1 false (.t 18)) 17 true,.g 20 (.addr 3 (.t 3)) 17 true,.g 21 (.load 1 false (.t 20)) 17 true,.g 22 (.bin .eql (.t 19) (.t 21)) 17 true,.q 23 (.pick (.t 17) (.t 22) (.val (.bool false))),.m 24 23,.g 25 (.addr 4 (.t 2)) 24 true,.g 26 (.load 1 false (.t 25)) 24 true,.g 27 (.addr 4 (.t 3)) 24 true,.g 28 (.load 1 false (.t 27)) 24 true,.g 29 (.call 240 [.t 26,.t 28] 0) 24 true,.q 30 (.pick (.t 24) (.t 29) (.val (.bool false))),.m 4 30]) .ret))
def zqx:List LRes := [.tmp 4]
theorem zvG:Tryz.f205.body.bind (zh Tryz.prog 31)=some zqw:=by kernel_rfl
theorem zvH:zj Tryz.prog Tryz.f205.results.toList=some zqx:=by kernel_rfl
def zzE:LC:=(.seq (.reg none [.q 2 (.box (.t 0)),.q 3 (.mv (.val (.bool false)))]) (.seq (.reg none [.l 4 1 1,.k 5 2 2,.q 6 (.call 105 [.t 4,.t 5] 0),.q 7 (.bin .lss (.t 6) (.val (.w 0))),.m 3 7]) .ret))
def zzF:List LRes := [.tmp 3]
theorem zvI:Tryz.f206.body.bind (zh Tryz.prog 8)=some zzE:=by kernel_rfl
theorem zvJ:zj Tryz.prog Tryz.f206.results.toList=some zzF:=by kernel_rfl
def zzG:LC:=(.reg (some []) [.z 3 (.load 1 false (.t 1)),.m 4 0,.z 5 (.call 208 [.t 4,.val (.str ⟨#[]⟩)] 0),.b 6 .add 3 5,.s (.store 1 (.t 1) (.t 6))])
def zzH:List LRes := []
theorem zvK:Tryz.f207.body.bind (zh Tryz.prog 7)=some zzG:=by kernel_rfl
theorem zvL:zj Tryz.prog Tryz.f207.results.toList=some zzH:=by kernel_rfl
def zzI:LC:=(.seq (.reg none [.q 4 (.mv (.val .nilsl))]) (.seq (.reg none [.q 5 (.mv (.val .nilsl))]) (.seq (.seq (.reg none [.q 6 (.mv (.val (.w 0)))]) (.block 0 (.loop (.seq (.seq (.reg none [.m 9 6,.q 10 (.bin .lss (.t 9) (.val (.w 2)))]) (.cond (.t 10) .skip (.exit 0))) (.seq (.block 1 (.seq (.reg none [.q 7 (.mv (.val (.w 1)))]) (.block 2 (.loop (.seq (.seq (.reg none [.m 13 7,.q 14 (.bin .leq (.t 13) (.val (.w 20)))]) (.cond (.t 14) .skip (.exit 2))) (.seq (.block 3 (.seq (.reg none [.m 17 0,.m 18 6,.m 19 7,.q 20 (.build [.int .i64 0,.int .i64 0] [(0,(1,(.t 18))),(1,(1,(.t 19)))]),.q 21 (.call 96 [.t 17,.t 20] 0),.m 8 21]) (.seq (.reg none [.m 22 8,.q 23 (.bin .geq (.t 22) (.val (.w 0))),.m 24 23,.g 25 (.mv (.t 1)) 24 true,.g 26 (.mv (.t 8)) 24 true,.g 27 (.iaddrS 1 (.t 25) (.t 26)) 24 true,.g 28 (.load 1 false (.t 27)) 24 true,.q 29 (.pick (.t 24) (.t 28) (.val (.bool false)))]) (.cond (.t 29) (.reg none [.m 30 5,.m 31 0,.m 32 8,.i 33 5 31 32,.a 34 0 33,.k 35 2 34,.q 36 (.mks 2 [.int .i64 0,.int .i64 0] 1 [(0,(.t 35))]),.q 37 (.append 29 2 16 (.t 30) (.t 36)),.m 5 37]) .skip)))) (.reg none [.m 15 7,.q 16 (.bin .add (.t 15) (.val (.w 1))),.m 7 16]))))))) (.reg none [.m 11 6,.q 12 (.bin .add (.t 11) (.val (.w 1))),.m 6 12])))))) (.seq (.reg none [.m 38 5,.m 4 38]) .ret))))
def zzJ:List LRes := [.tmp 4]
theorem zvM:Tryz.f209.body.bind (zh Tryz.prog 39)=some zzI:=by kernel_rfl
theorem zvN:zj Tryz.prog Tryz.f209.results.toList=some zzJ:=by kernel_rfl
def zqy:LC:=(.seq (.reg none [.q 5 (.box (.t 2)),.q 6 (.mv (.val (.bool false)))]) (.seq (.seq (.reg none [.m 7 0,.q 8 (.nilchk (.t 7)),.a 9 0 8,.a 10 1 9,.l 11 1 10,.m 12 1,.i 13 1 11 12,.l 14 1 13,.n 15 14,.q 16 (.bin .eql (.t 15) (.val (.w 30)))]) (.cond (.t 16) (.seq (.reg none [.q 6 (.mv (.val (.bool false)))]) .ret) .skip)) (.seq (.reg (some [(1,17),(2,17),(3,17),(4,17)]) [.m 17 0,.z 18 (.nilchk (.t 17)),.z 19 (.addr 0 (.t 18)),.z 20 (.addr 1 (.t 19)),.z 21 (.load 1 false (.t 20)),.m 22 1,.m 23 0,.z 24 (.nilchk (.t 23)),.z 25 (.addr 0 (.t 24)),.z 26 (.addr 1 (.t 25)),.z 27 (.load 1 false (.t 26)),.m 28 1,.z 29 (.iaddrS 1 (.t 27) (.t 28)),.z 30 (.load 1 false (.t 29)),.z 31 (.load 5 true (.t 5)),.z 32 (.call 140 [.t 31] 0),.q 33 (.mks 5 [.int .i64 0,.int .i64 0,.int .i64 0,.str ⟨#[]⟩,.nilsl] 1 [(0,(.t 32))]),.z 34 (.append 32 5 64 (.t 30) (.t 33)),.i 35 1 21 22,.s (.store 1 (.t 35) (.t 34))]) (.seq (.reg none [.q 6 (.mv (.val (.bool true)))]) .ret))))
def zqz:List LRes := [.tmp 6]
theorem zli:Tryz.f210.body.bind (zh Tryz.prog 36)=some zqy:=by kernel_rfl
theorem zlj:zj Tryz.prog Tryz.f210.results.toList=some zqz:=by kernel_rfl
def zvO:LC:=(.seq (.reg none [.q 6 (.alloc [.int .i64 0,.int .i64 0,.int .i64 0,.str ⟨#[]⟩,.nilsl])]) (.seq (.reg none [.m 8 0,.q 9 (.nilchk (.t 8)),.a 10 0 9,.a 11 1 10,.l 12 1 11,.m 13 1,.i 14 1 12 13,.l 15 1 14,.m 16 2,.i 17 5 15 16,.k 18 5 17,.q 7 (.alloc [.int .i64 0,.int .i64 0,.int .i64 0,.str ⟨#[]⟩,.nilsl]),.s (.store 5 (.t 7) (.t 18))]) (.seq (.reg (some [(1,17),(2,17),(3,17),(4,17)]) [.m 19 0,.z 20 (.nilchk (.t 19)),.z 21 (.addr 0 (.t 20)),.z 22 (.addr 1 (.t 21)),.z 23 (.load 1 false (.t 22)),.m 24 1,.m 25 0,.z 26 (.nilchk (.t 25)),.z 27 (.addr 0 (.t 26)),.z 28 (.addr 1 (.t 27)),.z 29 (.load 1 false (.t 28)),.m 30 1,.z 31 (.iaddrS 1 (.t 29) (.t 30)),.z 32 (.load 1 false (.t 31)),.m 33 2,.m 34 2,.q 35 (.bin .add (.t 34) (.val (.w 1))),.z 36 (.call 218 [.t 32,.t 33,.t 35] 1),.i 37 1 23 24,.s (.store 1 (.t 37) (.t 36))]) (.seq (.reg none [.k 38 5 7,.s (.store 5 (.t 6) (.t 38))]) .ret))))
def zvP:List LRes := [(.cell 6 5 true)]
theorem zrG:Tryz.f211.body.bind (zh Tryz.prog 39)=some zvO:=by kernel_rfl
theorem zrH:zj Tryz.prog Tryz.f211.results.toList=some zvP:=by kernel_rfl
def zvQ:LC:=(.seq (.reg none [.q 2 (.mv (.val .nilsl))]) (.seq (.reg none [.q 3 (.mv (.val .nilsl))]) (.seq (.seq (.reg none [.m 6 0,.n 7 6,.q 8 (.mv (.val (.w 0)))]) (.block 0 (.loop (.seq (.reg none [.b 9 .lss 8 7]) (.seq (.cond (.t 9) .skip (.exit 0)) (.seq (.block 1 (.seq (.reg none [.i 10 5 6 8,.k 11 5 10,.q 5 (.alloc [.int .i64 0,.int .i64 0,.int .i64 0,.str ⟨#[]⟩,.nilsl]),.s (.store 5 (.t 5) (.t 11))]) (.reg none [.m 12 3,.k 13 5 5,.q 14 (.call 140 [.t 13] 0),.q 15 (.mks 5 [.int .i64 0,.int .i64 0,.int .i64 0,.str ⟨#[]⟩,.nilsl] 1 [(0,(.t 14))]),.q 16 (.append 32 5 64 (.t 12) (.t 15)),.m 3 16]))) (.reg none [.q 17 (.bin .add (.t 8) (.val (.w 1))),.m 8 17]))))))) (.seq (.reg none [.m 18 3,.m 2 18]) .ret))))
def zvR:List LRes := [.tmp 2]
theorem zrI:Tryz.f212.body.bind (zh Tryz.prog 19)=some zvQ:=by kernel_rfl
theorem zrJ:zj Tryz.prog Tryz.f212.results.toList=some zvR:=by kernel_rfl
def zsE:LC:=(.seq (.reg none [.q 2 (.mv (.val .nilsl))]) (.seq (.seq (.reg none [.m 3 0,.q 4 (.isnil false (.t 3))]) (.cond (.t 4) (.seq (.reg none [.q 2 (.mv (.val .nilsl))]) .ret) .skip)) (.seq (.reg none [.q 5 (.mk0 29 2),.m 6 0,.q 7 (.append 29 2 16 (.t 5) (.t 6)),.m 2 7]) .ret)))
def zsF:List LRes := [.tmp 2]
theorem zrK:Tryz.f213.body.bind (zh Tryz.prog 8)=some zsE:=by kernel_rfl
theorem zrL:zj Tryz.prog Tryz.f213.results.toList=some zsF:=by kernel_rfl
def zsG:LC:=(.seq (.reg none [.q 4 (.mv (.val (.w 0)))]) (.seq (.block 0 (.seq (.reg none [.m 6 0,.m 7 1,.b 8 .lss 6 7,.m 5 8]) (.cond (.t 5) (.seq (.reg none [.q 4 (.mv (.val (.w (-1))))]) .ret) (.seq (.reg none [.m 10 0,.m 11 1,.b 12 .gtr 10 11,.m 9 12]) (.cond (.t 9) (.seq (.reg none [.q 4 (.mv (.val (.w 1)))]) .ret) .skip))))) (.seq (.reg none [.q 4 (.mv (.val (.w 0)))]) .ret)))
def zsH:List LRes := [.tmp 4]
theorem zvS:Tryz.f214.body.bind (zh Tryz.prog 13)=some zsG:=by kernel_rfl
theorem zvT:zj Tryz.prog Tryz.f214.results.toList=some zsH:=by kernel_rfl
def zzK:LC:=(.seq (.reg none [.q 2 (.box (.t 0)),.q 3 (.mv (.val (.bool false)))]) (.seq (.reg (some []) [.z 4 (.load 1 false (.t 1)),.z 5 (.nilchk (.t 4)),.z 6 (.addr 0 (.t 5)),.z 7 (.addr 1 (.t 6)),.z 8 (.load 1 false (.t 7)),.z 9 (.load 5 true (.t 2)),.q 10 (.call 129 [.t 8,.t 9] 0),.m 3 10]) .ret))
def zzL:List LRes := [.tmp 3]
theorem zvU:Tryz.f217.body.bind (zh Tryz.prog 11)=some zzK:=by kernel_rfl
theorem zvV:zj Tryz.prog Tryz.f217.results.toList=some zzL:=by kernel_rfl
def zzM:LC:=(.seq (.reg none [.q 3 (.box (.t 1)),.q 4 (.mv (.val (.bool false)))]) (.seq (.reg none [.m 5 0,.k 6 2 3,.q 7 (.call 245 [.t 5,.t 6] 0),.q 8 (.bin .geq (.t 7) (.val (.w 0))),.m 4 8]) .ret))
def zzN:List LRes := [.tmp 4]
theorem zvW:Tryz.f219.body.bind (zh Tryz.prog 9)=some zzM:=by kernel_rfl
theorem zvX:zj Tryz.prog Tryz.f219.results.toList=some zzN:=by kernel_rfl
def zxy:LC:=(.seq (.reg none [.q 4 (.mv (.val (.w 0)))]) (.seq (.seq (.reg none [.m 6 0,.n 7 6,.q 8 (.mv (.val (.w 0)))]) (.block 0 (.loop (.seq (.reg none [.b 9 .lss 8 7]) (.seq (.cond (.t 9) .skip (.exit 0)) (.seq (.block 1 (.seq (.reg none [.m 10 8,.m 5 10]) (.seq (.reg none [.m 11 1,.m 12 0,.m 13 5,.i 14 1 12 13,.l 15 1 14,.q 16 (.callv (.t 11) [.t 15])]) (.cond (.t 16) (.seq (.reg none [.m 17 5,.m 4 17]) .ret) .skip)))) (.reg none [.q 18 (.bin .add (.t 8) (.val (.w 1))),.m 8 18]))))))) (.seq (.reg none [.q 4 (.mv (.val (.w (-1))))]) .ret)))
def zxz:List LRes := [.tmp 4]
theorem zvY:Tryz.f222.body.bind (zh Tryz.prog 19)=some zxy:=by kernel_rfl
theorem zvZ:zj Tryz.prog Tryz.f222.results.toList=some zxz:=by kernel_rfl
def zxA:LC:=(.seq (.reg none [.q 4 (.mv (.val (.w 0)))]) (.seq (.seq (.reg none [.m 6 0,.n 7 6,.q 8 (.mv (.val (.w 0)))]) (.block 0 (.loop (.seq (.reg none [.b 9 .lss 8 7]) (.seq (.cond (.t 9) .skip (.exit 0)) (.seq (.block 1 (.seq (.reg none [.m 10 8,.m 5 10]) (.seq (.reg none [.m 11 1,.m 12 0,.m 13 5,.i 14 5 12 13,.k 15 5 14,.q 16 (.callv (.t 11) [.t 15])]) (.cond (.t 16) (.seq (.reg none [.m 17 5,.m 4 17]) .ret) .skip)))) (.reg none [.q 18 (.bin .add (.t 8) (.val (.w 1))),.m 8 18]))))))) (.seq (.reg none [.q 4 (.mv (.val (.w (-1))))]) .ret)))
def zxB:List LRes := [.tmp 4]
theorem zv0:Tryz.f228.body.bind (zh Tryz.prog 19)=some zxA:=by kernel_rfl
theorem zv1:zj Tryz.prog Tryz.f228.results.toList=some zxB:=by kernel_rfl
def zxC:LC:=(.seq (.reg none [.q 4 (.mv (.val (.w 0)))]) (.seq (.seq (.reg none [.m 6 0,.n 7 6,.q 8 (.mv (.val (.w 0)))]) (.block 0 (.loop (.seq (.reg none [.b 9 .lss 8 7]) (.seq (.cond (.t 9) .skip (.exit 0)) (.seq (.block 1 (.seq (.reg none [.m 10 8,.m 5 10]) (.seq (.reg none [.m 11 1,.m 12 0,.m 13 5,.i 14 1 12 13,.l 15 1 14,.b 16 .eql 11 15]) (.cond (.t 16) (.seq (.reg none [.m 17 5,.m 4 17]) .ret) .skip)))) (.reg none [.q 18 (.bin .add (.t 8) (.val (.w 1))),.m 8 18]))))))) (.seq (.reg none [.q 4 (.mv (.val (.w (-1))))]) .ret)))
def zxD:List LRes := [.tmp 4]
theorem zv2:Tryz.f231.body.bind (zh Tryz.prog 19)=some zxC:=by kernel_rfl
theorem zv3:zj Tryz.prog Tryz.f231.results.toList=some zxD:=by kernel_rfl
def ztB:LC:=(.seq (.reg none [.q 4 (.mv (.val (.bool false)))]) (.seq (.seq (.reg none [.m 6 0,.n 7 6,.m 8 1,.n 9 8,.b 10 .neq 7 9]) (.cond (.t 10) (.seq (.reg none [.q 4 (.mv (.val (.bool false)))]) .ret) .skip)) (.seq (.seq (.reg none [.m 11 0,.n 12 11,.q 13 (.mv (.val (.w 0)))]) (.block 0 (.loop (.seq (.reg none [.b 14 .lss 13 12]) (.seq (.cond (.t 14) .skip (.exit 0)) (.seq (.block 1 (.seq (.reg none [.m 15 13,.m 5 15]) (.seq (.reg (some []) [.m 16 0,.m 17 5,.z 18 (.iaddrS 2 (.t 16) (.t 17)),.z 19 (.load 2 true (.t 18)),.m 20 1,.m 21 5,.z 22 (.iaddrS 2 (.t 20) (.t 21)),.z 23 (.load 2 true (.t 22)),.q 24 (.eqag true [.i,.i] (.t 19) (.t 23))]) (.cond (.t 24) (.seq (.reg none [.q 4 (.mv (.val (.bool false)))]) .ret) .skip)))) (.reg none [.q 25 (.bin .add (.t 13) (.val (.w 1))),.m 13 25]))))))) (.seq (.reg none [.q 4 (.mv (.val (.bool true)))]) .ret))))
def ztC:List LRes := [.tmp 4]
theorem zv4:Tryz.f240.body.bind (zh Tryz.prog 26)=some ztB:=by kernel_rfl
theorem zv5:zj Tryz.prog Tryz.f240.results.toList=some ztC:=by kernel_rfl
def zxE:LC:=(.seq (.reg none [.q 3 (.box (.t 1)),.q 4 (.mv (.val (.w 0)))]) (.seq (.seq (.reg none [.m 6 0,.n 7 6,.q 8 (.mv (.val (.w 0)))]) (.block 0 (.loop (.seq (.reg none [.b 9 .lss 8 7]) (.seq (.cond (.t 9) .skip (.exit 0)) (.seq (.block 1 (.seq (.reg none [.m 10 8,.m 5 10]) (.seq (.reg (some []) [.z 11 (.load 2 true (.t 3)),.m 12 0,.m 13 5,.z 14 (.iaddrS 2 (.t 12) (.t 13)),.z 15 (.load 2 true (.t 14)),.q 16 (.eqag false [.i,.i] (.t 11) (.t 15))]) (.cond (.t 16) (.seq (.reg none [.m 17 5,.m 4 17]) .ret) .skip)))) (.reg none [.q 18 (.bin .add (.t 8) (.val (.w 1))),.m 8 18]))))))) (.seq (.reg none [.q 4 (.mv (.val (.w (-1))))]) .ret)))
def zxF:List LRes := [.tmp 4]
theorem zv6:Tryz.f245.body.bind (zh Tryz.prog 19)=some zxE:=by kernel_rfl
theorem zv7:zj Tryz.prog Tryz.f245.results.toList=some zxF:=by kernel_rfl
theorem zc3 (n a b:Int):zg Tryz.prog 173 [.int .i64 n,.int .i64 a,.int .i64 b] [] (.bool (ZX n a b)) []:=by
 refine zg.of_walk Tryz.func173 Tryz.ntmps173 zvg zvh (by simp) fun x hx=>?_
 by_cases h:a≤n
 all_goals
  simp only [go_sem,zzo,zzp,h,decide_true,decide_false]
  refine zb hx ?_
  simp only [go_sem,zzo,zzp,ZX,h,decide_false,true_and,false_and]
theorem zlk (r n:Int):zg Tryz.prog 142 [.agg [.int .i64 r,.int .i64 n]] [] (.bool (zeV ⟨r,n⟩)) []:=by
 refine zg.of_walk Tryz.func142 Tryz.ntmps142 zuW zuX (by simp) fun x hx=>?_
 simp only [go_sem,zxg,zxh]
 refine za (.pure (zc3 _ _ _)) ?_
 cases h:ZX r 0 1
 ·
  simp only [go_sem]
  refine zb hx ?_
  simp [go_sem,zxg,zxh,zeV,h]
 ·
  simp only [go_sem]
  refine za (.pure (zc3 _ _ _)) ?_
  simp only [go_sem]
  refine zb hx ?_
  simp [go_sem,zxg,zxh,zeV,h]
end Go.Proofs.YtkcahmbcpkjpiaaGreatDoor
