/- Joined texts of this claim: U1 U5. -/
import Derived.Test.YtkcahmbcpkjpiaaGreatDoorKB
set_option linter.unusedSimpArgs false
set_option linter.unusedVariables false
set_option linter.unusedSectionVars false
set_option maxHeartbeats 8000000
set_option maxRecDepth 100000
namespace Go.Proofs.YtkcahmbcpkjpiaaGreatDoor
open Go.RowKit
def zxN:PV→PV
 | .oll rows => .list rows
 | .olp cells => .rptr cells
 | p=>p
def unO:PV→PV
 | .agg cs => .agg (cs.map zxN)
 | .clo f cs => .clo f (cs.map zxN)
 | p=>zxN p
def frL (H:List AObj):PV→PV
 | .arr id ver=>match H[id]? with
  | some (.arr v _ false _ _ rows)=>if v=ver∧(rows.all fun r=>r.all zaw)=true then .list rows else .top
  | _ => .top
 | .list rows=>if rows = [] then .list [] else .top
 | .nilsl => .list []
 | .bool b => .bool b
 | .int k n => .int k n
 | .str s => .str s
 | .nilp => .nilp
 | _ => .top
def frA (H:List AObj):PV→PV
 | .agg cs => .agg (cs.map (frL H))
 | p=>frL H p
def frS (H:List AObj):PV→PV
 | .tup vs => .tup (vs.map (frA H))
 | p=>frA H p
section
variable {S S':Nat→Nat→Prop} {w:World} {C C':Conc}
theorem zzH {p:PV} {v:Value} (h:zaw p=true) (hp:RepP S w p v):RepP S' w p v:=by
 cases hp <;> simp only [zaw,yap] at h
 ·
  exact .bool _
 ·
  exact .int _ _
 ·
  exact .str _
 ·
  exact .nilp
theorem zj9 {p:PV} {v:Value} (hS:∀ b o,S b o→S' b o) (ho:∀ b o,C.old b o→S' b o) (hp:RepV S w C p v):RepV S' w C (zxN p) v:=by
 cases p <;> try exact hp.mono hS (fun _ _ _=>rfl) (yag _) (fun _ _=>rfl) (fun _ _ => .inl ⟨rfl,rfl⟩) fun b o h=>⟨h,rfl⟩
 case oll rows =>
  cases hp with
  | pure g=>cases g
  | oll rows g=>exact .pure (g.mono ho fun _ _ _=>rfl)
 case olp rows =>
  cases hp with
  | pure g=>cases g
  | olp rows g=>exact .pure (g.mono ho fun _ _ _=>rfl)
theorem zka {p:PV} {v:Value} (hS:∀ b o,S b o→S' b o) (ho:∀ b o,C.old b o→S' b o) (hp:RepV S w C p v):RepV S' w C (unO p) v:=by
 cases p <;> try exact zj9 hS ho hp
 case agg cs =>
  obtain ⟨vs,rfl,hl,h1,h2⟩:=hp.agg_inv
  refine .agg _ vs (by simpa using hl) h1 fun j p u hj hu=>?_
  obtain ⟨q,hq,rfl⟩:=zO hj
  exact zj9 hS ho (h2 j q u hq hu)
 case clo f cs =>
  obtain ⟨vs,rfl,hl,h2⟩:=hp.clo_inv
  refine .clo f _ vs (by simpa using hl) fun j p u hj hu=>?_
  obtain ⟨q,hq,rfl⟩:=zO hj
  exact zj9 hS ho (h2 j q u hq hu)
end
section
variable {x:Cx} {C C':Conc} {H:List AObj} {w:World} {S':Nat→Nat→Prop}
theorem zrD (hr:HR x C H w) (hx:x.H0 = []) (hS:∀ b o,x.w0.heap.size≤b→b < w.heap.size→Unf w b→S' b o) {p:PV} {v:Value} (hp:RepV (zu x C H w) w C p v):RepV S' w C' (frL H p) v:=by
 cases p <;> simp only [frL] <;> try exact .any
 case bool b=>rw [hp.bool_inv]; exact .pure (.bool b)
 case int k n=>rw [hp.int_inv]; exact .pure (.int k n)
 case str s=>rw [hp.str_inv]; exact .pure (.str s)
 case nilp =>
  cases hp with
  | pure g=>cases g; exact .pure .nilp
 case nilsl=>rw [hp.nilsl_inv]; exact .pure zfg
 case list rows =>
  split
  ·
   rename_i e
   subst e
   have:=hp.list_inv
   generalize hrs:([]:List (List PV))=rows at this
   cases this with
   | list rows a c sz y hc hm hsz hz hl h =>
    subst hrs
    exact .pure (.list [] a c sz y hc hm hsz hz (fun k row j p h=>by simp at h) (fun k row j p h=>by simp at h))
  ·
   exact .any
 case arr id ver =>
  split <;> try exact .any
  rename_i v' st T sz rows hid
  split <;> try exact .any
  rename_i hv
  obtain ⟨rfl,hsc⟩:=hv
  obtain ⟨h1,h2,h3,xs,h4,h5⟩:=hr.obj id _ hid
  obtain ⟨rfl,hi⟩:=hp.arr_inv h1
  rcases h4.2 with ⟨e1,e2⟩ | ⟨g,cap,cur,e1,-,e2,e3,e4,e5,e6⟩
  ·
   have:rows = []:=yaH e2
   subst this
   rw [e1]
   exact .pure zfg
  ·
   have hob:(C.sv id).ownBlock=some g:=by rw [e1]; rfl
   have hlt:=hr.blk_lt hid hob
   have hge:x.w0.heap.size≤g:=by
    rcases hr.mine id _ g hid hob with h | ⟨i,ob0,h,-⟩
    ·
     exact h
    ·
     rw [hx] at h; simp at h
   rw [e1]
   have key:∀ (k:Nat) row (j:Nat) p,rows[k]? = some row→row[j]? = some p→k * sz + j < rows.length * sz∧xs[k * sz + j]? = some (xs.getD (k * sz + j) Go.undef):=by
    intro k row j p a b
    have hk:k < rows.length:=(yab.1 a).1
    have hj:j < sz:=by rw [← h3 row (yaf a)]; exact (yab.1 b).1
    have hlt:k * sz + j < rows.length * sz:=by
     have:(k + 1) * sz≤rows.length * sz:=yaj _ hk
     rw [yaI] at this; omega
    exact ⟨hlt,by simp [List.getD,yac (show k * sz + j < xs.length by rw [h4.1]; exact hlt)]⟩
   refine .pure (.list rows _ cap sz (fun k j=>xs.getD (k * sz + j) Go.undef) e3 e4 h2 h3 (fun k row j p a b=>⟨g,0,rfl,hS _ _ hge hlt (.of e2),?_⟩) (fun k row j p a b=>?_))
   ·
    rw [ZG e2,← yaV,yaF,← (key k row j p a b).2,← e6,yaK,if_pos (key k row j p a b).1]
   ·
    have:=(h5 k row j p _ a b (key k row j p a b).2).2
    simp only [yap,if_false] at this
    refine zzH ?_ this
    exact yar.1 (yar.1 hsc row (yaf a)) p (yaf b)
theorem zrE (hr:HR x C H w) (hx:x.H0 = []) (hS:∀ b o,x.w0.heap.size≤b→b < w.heap.size→Unf w b→S' b o) {p:PV} {v:Value} (hp:RepV (zu x C H w) w C p v):RepV S' w C' (frA H p) v:=by
 cases p <;> try exact zrD hr hx hS hp
 case agg cs =>
  obtain ⟨vs,rfl,hl,h1,h2⟩:=hp.agg_inv
  refine .agg _ vs (by simpa using hl) h1 fun j p u hj hu=>?_
  obtain ⟨q,hq,rfl⟩:=zO hj
  exact zrD hr hx hS (h2 j q u hq hu)
theorem znc (hr:HR x C H w) (hx:x.H0 = []) (hS:∀ b o,x.w0.heap.size≤b→b < w.heap.size→Unf w b→S' b o) {p:PV} {v:Value} (hp:RepV (zu x C H w) w C p v):RepV S' w C' (frS H p) v:=by
 cases p <;> try exact zrE hr hx hS hp
 case tup cs =>
  obtain ⟨vs,rfl,hl,h2⟩:=hp.tup_inv
  refine .tup _ vs (by simpa using hl) fun j p u hj hu=>?_
  obtain ⟨q,hq,rfl⟩:=zO hj
  exact zrE hr hx hS (h2 j q u hq hu)
end
theorem zg.fresh {P:Program} {f:Nat} {args args':List PV} {r':PV} {Hs':List AObj} (h:zg P f args [] r' Hs') (he:args'.map unO=args):zg P f args' [] (frS Hs' r') []:=by
 intro x vs hx hr hp
 have hn:∀ b o,zk5 x.C0 [] b o:=fun b o i ob hi=>by simp at hi
 have h1:HR ⟨x.w0,fun b o=>zu x x.C0 [] x.w0 b o∨x.C0.old b o,x.C0,[]⟩ x.C0 [] x.w0 :=
  ⟨hr.n,fun i ob h=>by simp at h,fun i i' ob ob' b h=>by simp at h,fun i ob b h=>by simp at h,fun b o h=>⟨by
   rcases h with h | h
   ·
    exact h.2.1
   ·
    exact (hr.old b o h).1,hn b o,rfl⟩,yag _,rfl,rfl,rfl,fun _ _ _=>rfl,yag _,fun _ _=>rfl,fun _ _ => .inl ⟨rfl,rfl⟩,fun b o h=>⟨(hr.old b o h).1,fun i ob hi=>by simp at hi,h,(hr.old b o h).1,fun i ob hi=>by simp at hi⟩,fun _ _ h=>h,fun _ _ h=>h⟩
 have hp1:zmK (zu ⟨x.w0,fun b o=>zu x x.C0 [] x.w0 b o∨x.C0.old b o,x.C0,[]⟩ x.C0 [] x.w0) x.w0 x.C0 args vs.toList:=by
  subst he
  refine ⟨by simpa using hp.1,fun j p u hj hu=>?_⟩
  obtain ⟨q,hq,rfl⟩:=zO hj
  exact zka (fun b o h=>⟨.inl (.inl h),h.2.1,hn b o⟩) (fun b o h=>⟨.inl (.inr h),(hr.old b o h).1,hn b o⟩) (hp.2 j q u hq hu)
 refine (h _ vs rfl h1 hp1).mono fun e w' ⟨v,C1,he,hc,hv⟩=>?_
 obtain ⟨k1,-,-⟩:=hr.grow (w':=w') ⟨hc.size,hc.os,hc.tape,hc.output,fun b hb _=>hc.frame b hb fun i ob h=>by simp at h⟩
 exact ⟨v,x.C0,he,k1,znc hc rfl (fun b o a1 a2 a3=>⟨.inr ⟨.inl a1,a3⟩,a2,hn b o⟩) hv⟩
theorem zg.freshS {P:Program} {f:Nat} {args args':List PV} {r:PV} (h:zg P f args [] r []) (he:args'.map unO=args) (hr:frS [] r=r):zg P f args' [] r []:=hr ▸ h.fresh he
attribute [go_sem] unO zxN
def zzl (x:Cx) (nt:Nat) (lrs:List LRes) (r:PV):AE→St→Prop
 | .normal,st=>∃ st',za3 x nt st st'∧(zat st' lrs).map (fun ps=>frS st'.heap (zeV ps))=some r
 | .ret,st=>∃ st',za3 x nt st st'∧(zat st' lrs).map (fun ps=>frS st'.heap (zeV ps))=some r
 | .exit _,_=>False
theorem zbD {x:Cx} {nt:Nat} {lrs:List LRes} {r:PV} {st:St} (h:(zat st lrs).map (fun ps=>frS st.heap (zeV ps))=some r):zzl x nt lrs r .ret st:=⟨st,za3.refl x nt st,h⟩
theorem zkb {x : Cx} {C : Conc} {args : List PV} {vs : Array Value} {fn : Func} {w : World} {nt : Nat} (hnt : fn.ntmps = nt) (hargs : args.length ≤ nt) (hr : HR x C [] w) (hp : zmK (zu x C [] w) w C args vs.toList) :
    Rel x nt ⟨mkE .undef (zmL 0 args),[]⟩ { tmps:=vs ++ Array.replicate (fn.ntmps - vs.size) Go.undef,defers := [] } w:=by
  have hvl:vs.size=args.length:=by have:=hp.1; simpa using this
  rw [← zj5]
  refine ⟨⟨C,hr,fun t=>?_⟩,rfl,by simp; omega⟩
  simp only [St.init]
  by_cases ht:t < args.length
  · have e1:args[t]? = some args[t]:=yac ht
    have e2:vs.toList[t]? = some vs[t]:=by simp [ht,hvl]
    have:=hp.2 t _ _ e1 e2
    simp only [List.getD,e1,ybA]
    rw [show (vs ++ Array.replicate (fn.ntmps - vs.size) Go.undef).getD t Go.undef=vs[t] by
      simp [Array.getD,Array.getElem_append,hvl,ht]; omega]
    exact this
  · simp only [List.getD,ybq (by omega:args.length≤t),Option.getD_none]
    rw [show (vs ++ Array.replicate (fn.ntmps - vs.size) Go.undef).getD t Go.undef=Go.undef by
      simp only [Array.getD]
      split
      · rw [ybT,Array.getElem_append_right (by omega)]; simp
      · rfl]
    exact .undef
theorem zg.of_freshW {P : Program} {f : Nat} {fn : Func} {lc : LC} {lrs : List LRes} {args' : List PV} {r : PV} {nt : Nat} (hf : P.funcs[f]? = some fn) (hnt : fn.ntmps = nt) (hlc : (fn.body.bind (zq P nt)) = some lc) (hres : ZC P fn.results.toList = some lrs)
    (hargs:args'.length≤nt) (h:∀ x:Cx,x.H0 = []→W P x nt lc (zzl x nt lrs r) ⟨mkE .undef (zmL 0 (args'.map unO)),[]⟩):zg P f args' [] r []:=by
  intro x vs hx hr hp
  have hn:∀ b o,zk5 x.C0 [] b o:=fun b o i ob hi=>by simp at hi
  have h1:HR ⟨x.w0,fun b o=>zu x x.C0 [] x.w0 b o∨x.C0.old b o,x.C0,[]⟩ x.C0 [] x.w0 :=
    ⟨hr.n,fun i ob h=>by simp at h,fun i i' ob ob' b h=>by simp at h,fun i ob b h=>by simp at h,fun b o h=>⟨by
      rcases h with h | h
      · exact h.2.1
      · exact (hr.old b o h).1,hn b o,rfl⟩,yag _,rfl,rfl,rfl,fun _ _ _=>rfl,yag _,fun _ _=>rfl,fun _ _ => .inl ⟨rfl,rfl⟩,fun b o h=>⟨(hr.old b o h).1,fun i ob hi=>by simp at hi,h,(hr.old b o h).1,fun i ob hi=>by simp at hi⟩,fun _ _ h=>h,fun _ _ h=>h⟩
  have hp1:zmK (zu ⟨x.w0,fun b o=>zu x x.C0 [] x.w0 b o∨x.C0.old b o,x.C0,[]⟩ x.C0 [] x.w0) x.w0 x.C0 (args'.map unO) vs.toList:=by
    refine ⟨by simpa using hp.1,fun j p u hj hu=>?_⟩
    obtain ⟨q,hq,rfl⟩:=zO hj
    exact zka (fun b o h=>⟨.inl (.inl h),h.2.1,hn b o⟩) (fun b o h=>⟨.inl (.inr h),(hr.old b o h).1,hn b o⟩) (hp.2 j q u hq hu)
  obtain ⟨c,hb,hlc⟩:=ybo.1 hlc
  have hvl:vs.size=(args'.map unO).length:=by have:=hp1.1; simpa using this
  have hal:(args'.map unO).length≤nt:=by simpa using hargs
  refine calls_of_wp hf hb ?_
  generalize args'.map unO=args at *
  generalize hx1:(⟨x.w0,fun b o=>zu x x.C0 [] x.w0 b o∨x.C0.old b o,x.C0,[]⟩:Cx)=x1 at *
  have hH0:x1.H0 = []:=by rw [← hx1]
  have hw0:x1.w0=x.w0:=by rw [← hx1]
  have hC0:x1.C0=x.C0:=by rw [← hx1]
  have hrel:=zkb (fn:=fn) hnt hal h1 hp1
  have fin:∀ st a w,(∃ st',za3 x1 nt st st'∧(zat st' lrs).map (fun ps=>frS st'.heap (zeV ps))=some r)→Rel x1 nt st a w→a.defers = []∧∃ v,(results fn a.tmps).run P w = .ok v w∧∃ v1 C',Ending.returned v = .returned v1∧HR x C' [] w∧RepV (zu x C' [] w) w C' r v1:=by
    intro st a w ⟨st',hwk,hq⟩ hrel
    obtain ⟨ps,g1,g2⟩:=yad.1 hq
    replace hrel:=hwk a w hrel
    obtain ⟨⟨C,hr1,he⟩,hdf,hsz⟩:=hrel
    obtain ⟨us,k1,k2⟩:=zay hr1 he hres g1
    refine ⟨hdf,if h:us.toArray.size=1 then us.toArray[0] else .tuple us.toArray,?_,if h:us.toArray.size=1 then us.toArray[0] else .tuple us.toArray,x.C0,rfl,?_⟩
    · have hm:(fn.results.mapM (zbW a.tmps)).run P w = .ok us.toArray w:=by
        rw [ybz]
        simp [k1]
      have hq:results fn a.tmps=(do let vs ← fn.results.mapM (zbW a.tmps); pure (if h:vs.size=1 then vs[0] else .tuple vs)):=rfl
      rw [hq,yal,hm,Result.andThen_ok,yay]
    · obtain ⟨q1,-,-⟩:=hr.grow (w':=w) ⟨by rw [← hw0]; exact hr1.size,by rw [← hw0]; exact hr1.os,by rw [← hw0]; exact hr1.tape,by rw [← hw0]; exact hr1.output,fun b hb _=>by
        rw [← hw0]; exact hr1.frame b (by rw [hw0]; exact hb) fun i ob h=>by rw [hH0] at h; simp at h⟩
      refine ⟨q1,?_⟩
      rw [← g2]
      exact znc hr1 hH0 (fun b o a1 a2 a3=>⟨.inr ⟨.inl (by rw [← hw0]; exact a1),a3⟩,a2,hn b o⟩) (zc1 k2)
  refine wp_mono (h x1 hH0 c (by rw [hnt] at *; exact hlc) _ _ hrel) fun e a w hq=>?_
  cases e with
  | normal=>obtain ⟨st,g1,g2⟩:=hq; exact fin st a w g1 g2
  | ret=>obtain ⟨st,g1,g2⟩:=hq; exact fin st a w g1 g2
  | exit id=>obtain ⟨st,g1,g2⟩:=hq; exact g1.elim
  | goto l=>exact hq.elim
  | panic ch=>exact hq.elim
  | outgrown=>exact hq.elim
theorem zg.of_fresh {P : Program} {f : Nat} {fn : Func} {lc : LC} {lrs : List LRes} {args' : List PV} {r : PV} {nt : Nat} (hf : P.funcs[f]? = some fn) (hnt : fn.ntmps = nt) (hlc : (fn.body.bind (zq P nt)) = some lc) (hres : ZC P fn.results.toList = some lrs)
    (hargs:args'.length≤nt) (h:∀ x:Cx,x.H0 = []→zf2 P x nt lc (zzl x nt lrs r) ⟨mkE .undef (zmL 0 (args'.map unO)),[]⟩):zg P f args' [] r [] :=
  zg.of_freshW hf hnt hlc hres hargs fun x hx=>zbd (h x hx)
theorem zg.of_freshL {P : Program} {f : Nat} {fn : Func} {lc : LC} {lrs : List LRes} {args' : List PV} {r : PV} {nt : Nat} (hf : P.funcs[f]? = some fn) (hnt : fn.ntmps = nt) (hlc : (fn.body.bind (zq P nt)) = some lc) (hres : ZC P fn.results.toList = some lrs)
    (hargs:args'.length≤nt) (h:∀ x:Cx,x.H0 = []→WL P x nt lc.flat (zzl x nt lrs r) ⟨mkE .undef (zmL 0 (args'.map unO)),[]⟩):zg P f args' [] r [] :=
  zg.of_freshW hf hnt hlc hres hargs fun x hx=>zjj (h x hx)
def kin:Value→Value→Prop
 | .int k _,y=>∃ b,y = .int k b
 | .string _,y=>∃ t,y = .string t
 | x,y=>y=x
theorem zfq (v:Value):kin v v:=by cases v <;> first | rfl | exact ⟨_,rfl⟩
theorem zrF {a b c:Value} (h:kin a b) (h2:kin b c):kin a c:=by
 cases a
 case int k n=>obtain ⟨m,rfl⟩:=h; exact h2
 case string s=>obtain ⟨m,rfl⟩:=h; exact h2
 all_goals (have h:b=_:=h; subst h; exact h2)
structure Soil (R:Nat→Nat→Prop) (w w':World):Prop where
 size:w'.heap.size=w.heap.size
 os:w'.os=w.os
 tape:w'.tape=w.tape
 output:w'.output=w.output
 blk:∀ b,(∀ o,¬ R b o)→w'.heap[b]? = w.heap[b]?
 keep:∀ b o,¬ R b o→w'.cell? ⟨b,o,none⟩=w.cell? ⟨b,o,none⟩
 cell:∀ b o v,w.cell? ⟨b,o,none⟩=some v→∃ v',w'.cell? ⟨b,o,none⟩=some v'∧kin v v'
 frz:∀ b,Unf w' b↔Unf w b
theorem Soil.refl (R:Nat→Nat→Prop) (w:World):Soil R w w:=⟨rfl,rfl,rfl,rfl,fun _ _=>rfl,fun _ _ _=>rfl,fun _ _ v h=>⟨v,h,zfq v⟩,fun _=>ybR⟩
theorem Soil.trans {R:Nat→Nat→Prop} {w w1 w2:World} (h:Soil R w w1) (h2:Soil R w1 w2):Soil R w w2 :=
 ⟨h2.size.trans h.size,h2.os.trans h.os,h2.tape.trans h.tape,h2.output.trans h.output,fun b hb=>(h2.blk b hb).trans (h.blk b hb),fun b o hn=>(h2.keep b o hn).trans (h.keep b o hn),fun b o v hv=>by
  obtain ⟨v1,a1,a2⟩:=h.cell b o v hv
  obtain ⟨v2,b1,b2⟩:=h2.cell b o v1 a1
  exact ⟨v2,b1,zrF a2 b2⟩,fun b=>(h2.frz b).trans (h.frz b)⟩
inductive Bl:PV→PV→Prop
  | top:Bl .top .top
  | bool (b:Bool):Bl (.bool b) (.bool b)
  | int (k:IntKind) (n m:Int):Bl (.int k n) (.int k m)
  | str (s t:ByteArray):Bl (.str s) (.str t)
  | nilp:Bl .nilp .nilp
  | nilsl:Bl .nilsl .nilsl
  | list (rows rows' : List (List PV)) (hl : rows'.length = rows.length) (hr : ∀ (k : Nat) (r r' : List PV), rows[k]? = some r → rows'[k]? = some r' → r'.length = r.length)
      (h:∀ (k:Nat) (r r':List PV) (j:Nat) (p p':PV),rows[k]? = some r→rows'[k]? = some r'→r[j]? = some p→r'[j]? = some p'→Bl p p'):Bl (.list rows) (.list rows')
  | rptr (cs cs':List PV) (hl:cs'.length=cs.length) (h:∀ (j:Nat) (p p':PV),cs[j]? = some p→cs'[j]? = some p'→Bl p p'):Bl (.rptr cs) (.rptr cs')
open Classical in
noncomputable def zuk (good:Nat→PV→PV→Prop) (j:Nat) (p:PV):PV:=if h:∃ q,good j p q then Classical.choose h else p
theorem zcG {good:Nat→PV→PV→Prop} {j:Nat} {p:PV} (h:∃ q,good j p q):good j p (zuk good j p):=by
 unfold zuk
 rw [dif_pos h]
 exact Classical.choose_spec h
noncomputable def zew (good:Nat→PV→PV→Prop) (r:List PV):List PV:=r.mapIdx (zuk good)
theorem zbf {good:Nat→PV→PV→Prop} {r:List PV} {j:Nat} {q:PV} (h:(zew good r)[j]? = some q):∃ p,r[j]? = some p∧q=zuk good j p:=by
 rw [zew,List.getElem?_mapIdx] at h
 obtain ⟨p,h1,h2⟩:=yad.1 h
 exact ⟨p,h1,h2.symm⟩
theorem zco (good:Nat→PV→PV→Prop) (r:List PV):(zew good r).length=r.length:=by simp [zew]
theorem zxO {S R:Nat→Nat→Prop} {w w':World} (hs:Soil R w w') {p:PV} {v:Value} (h:RepP S w p v):∀ v',kin v v'→∃ q,Bl p q∧RepP S w' q v':=by
  induction h with
  | @top v h =>
    intro v' hk
    refine ⟨.top,.top,.top ?_⟩
    cases v
    case int k n=>obtain ⟨m,rfl⟩:=hk; rfl
    case string s=>obtain ⟨m,rfl⟩:=hk; rfl
    all_goals (have hk:v'=_:=hk; subst hk; exact h)
  | bool b=>intro v' hk; have hk:v'=_:=hk; subst hk; exact ⟨_,.bool b,.bool b⟩
  | int k n=>intro v' hk; obtain ⟨m,rfl⟩:=hk; exact ⟨_,.int k n m,.int k m⟩
  | str s=>intro v' hk; obtain ⟨t,rfl⟩:=hk; exact ⟨_,.str s t,.str t⟩
  | nilp=>intro v' hk; have hk:v'=_:=hk; subst hk; exact ⟨_,.nilp,.nilp⟩
  | nilsl=>intro v' hk; have hk:v'=_:=hk; subst hk; exact ⟨_,.nilsl,.nilsl⟩
  | list rows a c sz x hc hm hsz hz hl h ih =>
    intro v' hk
    have hk:v'=_:=hk
    subst hk
    have hx:∀ k row j p,rows[k]? = some row→row[j]? = some p→∃ y,(∃ b o,a=some ⟨b,o,none⟩∧S b (o + k * sz + j)∧w'.cell? ⟨b,o + k * sz + j,none⟩=some y)∧kin (x k j) y:=by
      intro k row j p h1 h2
      obtain ⟨b,o,ha,hS,hcell⟩:=hl k row j p h1 h2
      obtain ⟨y,y1,y2⟩:=hs.cell _ _ _ hcell
      exact ⟨y,⟨b,o,ha,hS,y1⟩,y2⟩
    let good:Nat→Nat→PV→PV→Prop:=fun k j p q=>∀ y,(∃ b o,a=some ⟨b,o,none⟩∧w'.cell? ⟨b,o + k * sz + j,none⟩=some y)→Bl p q∧RepP S w' q y
    have hex:∀ k row j p,rows[k]? = some row→row[j]? = some p→∃ q,good k j p q:=by
      intro k row j p h1 h2
      obtain ⟨y,⟨b,o,ha,hS,hcell⟩,hky⟩:=hx k row j p h1 h2
      obtain ⟨q,q1,q2⟩:=ih k row j p h1 h2 y hky
      refine ⟨q,fun y2 ⟨b2,o2,ha2,hc2⟩=>?_⟩
      rw [ha] at ha2
      cases ha2
      rw [hcell] at hc2
      cases hc2
      exact ⟨q1,q2⟩
    have hget:∀ (k:Nat) r',(rows.mapIdx fun k r=>zew (good k) r)[k]? = some r'→∃ r,rows[k]? = some r∧r'=zew (good k) r:=by
      intro k r' h
      rw [List.getElem?_mapIdx] at h
      obtain ⟨r,h1,h2⟩:=yad.1 h
      exact ⟨r,h1,h2.symm⟩
    have hlen:(rows.mapIdx fun k r=>zew (good k) r).length=rows.length:=by simp
    refine ⟨.list (rows.mapIdx fun k r=>zew (good k) r),.list _ _ hlen (fun k r r' h1 h2=>?_) (fun k r r' j p p' h1 h2 h3 h4=>?_),?_⟩
    · obtain ⟨r2,g1,rfl⟩:=hget k r' h2
      rw [h1] at g1; cases g1
      exact zco _ _
    · obtain ⟨r2,g1,rfl⟩:=hget k r' h2
      rw [h1] at g1; cases g1
      obtain ⟨p2,g2,rfl⟩:=zbf h4
      rw [h3] at g2; cases g2
      obtain ⟨y,⟨b,o,ha,hS,hcell⟩,-⟩:=hx k r j p h1 h3
      exact (zcG (hex k r j p h1 h3) y ⟨b,o,ha,hcell⟩).1
    · have key:∀ (k:Nat) r' (j:Nat) p',(rows.mapIdx fun k r=>zew (good k) r)[k]? = some r'→r'[j]? = some p'→∃ b o y,a=some ⟨b,o,none⟩∧S b (o + k * sz + j)∧w'.cell? ⟨b,o + k * sz + j,none⟩=some y∧RepP S w' p' y:=by
        intro k r' j p' h1 h2
        obtain ⟨r,g1,rfl⟩:=hget k r' h1
        obtain ⟨p,g2,rfl⟩:=zbf h2
        obtain ⟨y,⟨b,o,ha,hS,hcell⟩,-⟩:=hx k r j p g1 g2
        exact ⟨b,o,y,ha,hS,hcell,(zcG (hex k r j p g1 g2) y ⟨b,o,ha,hcell⟩).2⟩
      have hgl := RepP.list (S := S) (w := w') (rows.mapIdx fun k r => zew (good k) r) a c sz (fun k j => match a with | some ad => (w'.cell? ⟨ad.block, ad.off + k * sz + j, none⟩).getD Go.undef | none => Go.undef) (by rw [hlen]; exact hc) hm hsz (fun row hrow => by
          obtain ⟨k,hk,rfl⟩:=yaq hrow
          obtain ⟨r,g1,g2⟩:=hget k _ (yac hk)
          rw [g2,zco]; exact hz r (yaf g1))
        (fun k row j p h1 h2=>by
          obtain ⟨b,o,y,ha,hS,hcell,-⟩:=key k row j p h1 h2
          subst ha
          exact ⟨b,o,rfl,hS,by simp [hcell]⟩)
        (fun k row j p h1 h2=>by
          obtain ⟨b,o,y,ha,hS,hcell,hr⟩:=key k row j p h1 h2
          subst ha
          simpa [hcell] using hr)
      rw [hlen] at hgl
      exact hgl
  | rptr cells b o x hl h ih =>
    intro v' hk
    have hk:v'=_:=hk
    subst hk
    have hx:∀ j p,cells[j]? = some p→∃ y,S b (o + j)∧w'.cell? ⟨b,o + j,none⟩=some y∧kin (x j) y:=by
      intro j p h1
      obtain ⟨hS,hcell⟩:=hl j p h1
      obtain ⟨y,y1,y2⟩:=hs.cell _ _ _ hcell
      exact ⟨y,hS,y1,y2⟩
    let good:Nat→PV→PV→Prop:=fun j p q=>∀ y,w'.cell? ⟨b,o + j,none⟩=some y→Bl p q∧RepP S w' q y
    have hex:∀ j p,cells[j]? = some p→∃ q,good j p q:=by
      intro j p h1
      obtain ⟨y,hS,hcell,hky⟩:=hx j p h1
      obtain ⟨q,q1,q2⟩:=ih j p h1 y hky
      refine ⟨q,fun y2 hc2=>?_⟩
      rw [hcell] at hc2; cases hc2
      exact ⟨q1,q2⟩
    refine ⟨.rptr (zew good cells),.rptr _ _ (zco _ _) (fun j p p' h1 h2=>?_),.rptr _ b o (fun j=>(w'.cell? ⟨b,o + j,none⟩).getD Go.undef) (fun j p' h2=>?_) fun j p' h2=>?_⟩
    · obtain ⟨p2,g2,rfl⟩:=zbf h2
      rw [h1] at g2; cases g2
      obtain ⟨y,hS,hcell,-⟩:=hx j p h1
      exact (zcG (hex j p h1) y hcell).1
    · obtain ⟨p,g2,rfl⟩:=zbf h2
      obtain ⟨y,hS,hcell,-⟩:=hx j p g2
      exact ⟨hS,by simp [hcell]⟩
    · obtain ⟨p,g2,rfl⟩:=zbf h2
      obtain ⟨y,hS,hcell,-⟩:=hx j p g2
      have:=(zcG (hex j p g2) y hcell).2
      simpa [hcell] using this
def zaR:PV→PV→Prop
 | .list rows,q=>Bl (.list rows) q
 | .rptr _,q=>q = .top
 | .vlist _,q=>q = .top
 | .agg _,q=>q = .top
 | .tup _,q=>q = .top
 | .clo ..,q=>q = .top
 | .clob ..,q=>q = .top
 | p,q=>q=p
theorem zvM {S R:Nat→Nat→Prop} {w w':World} (hs:Soil R w w') {p:PV} {v:Value} (h:RepP S w p v):∃ q,zaR p q∧RepP S w' q v:=by
 cases h with
 | top h=>exact ⟨.top,rfl,.top h⟩
 | bool b=>exact ⟨_,rfl,.bool b⟩
 | int k n=>exact ⟨_,rfl,.int k n⟩
 | str s=>exact ⟨_,rfl,.str s⟩
 | nilp=>exact ⟨_,rfl,.nilp⟩
 | nilsl=>exact ⟨_,rfl,.nilsl⟩
 | list rows a c sz x hc hm hsz hz hl h=>exact zxO hs (.list rows a c sz x hc hm hsz hz hl h) _ (zfq _)
 | rptr cells b o x hl h=>exact ⟨.top,rfl,.top rfl⟩
theorem zrG {S R:Nat→Nat→Prop} {w w':World} {C:Conc} (hs:Soil R w w') (ho:∀ b o,C.old b o→w'.cell? ⟨b,o,none⟩=w.cell? ⟨b,o,none⟩) {p:PV} {v:Value} (h:RepV S w C p v):∃ q,zaR p q∧RepV S w' C q v:=by
 cases h with
 | pure h=>obtain ⟨q,h1,h2⟩:=zvM hs h; exact ⟨q,h1,.pure h2⟩
 | any=>exact ⟨_,rfl,.any⟩
 | undef=>exact ⟨_,rfl,.undef⟩
 | vlist=>exact ⟨_,rfl,.any⟩
 | agg=>exact ⟨_,rfl,.any⟩
 | tup=>exact ⟨_,rfl,.any⟩
 | clo=>exact ⟨_,rfl,.any⟩
 | clob=>exact ⟨_,rfl,.any⟩
 | ptr id off hi=>exact ⟨_,rfl,.ptr id off hi⟩
 | aptr id sz idx off g n c hi hs=>exact ⟨_,rfl,.aptr id sz idx off g n c hi hs⟩
 | aptrOld id ver sz idx off hi hv h1=>exact ⟨_,rfl,.aptrOld id ver sz idx off hi hv h1⟩
 | arr id hi h1=>exact ⟨_,rfl,.arr id hi h1⟩
 | arrOld id ver hi hv h1=>exact ⟨_,rfl,.arrOld id ver hi hv h1⟩
 | oll rows h=>exact ⟨_,rfl,.oll rows (h.mono (fun _ _ h=>h) ho)⟩
 | olp cells h=>exact ⟨_,rfl,.olp cells (h.mono (fun _ _ h=>h) ho)⟩
def zhC:AObj→AObj→Prop
 | .box cs,ob'=>∃ cs',ob' = .box cs'∧cs'.length=cs.length∧∀ (j:Nat) (p p':PV),cs[j]? = some p→cs'[j]? = some p'→zaR p p'
 | .arr v st ipu T sz rows,ob'=>∃ rows',ob' = .arr v st ipu T sz rows'∧rows'.length=rows.length∧∀ (k:Nat) (r r':List PV),rows[k]? = some r→rows'[k]? = some r'→r'.length=r.length∧∀ (j:Nat) (p p':PV),r[j]? = some p→r'[j]? = some p'→zaR p p'
 | .gone,ob'=>ob' = .gone
section
variable {x:Cx} {C:Conc} {H:List AObj} {w w':World} {R:Nat→Nat→Prop}
theorem zxP (hr : HR x C H w) (hs : Soil R w w') (hR : ∀ b o, R b o → zu x C H w b o) (ho : ∀ b o, C.old b o → w'.cell? ⟨b, o, none⟩ = w.cell? ⟨b, o, none⟩) {id : Nat} {ob : AObj} (hid : H[id]? = some ob)
    (hst:∀ v st ipu T sz rows,ob = .arr v st ipu T sz rows→st=true):∃ ob',zhC ob ob'∧zmJ (zu x C H w) w' C id ob':=by
  cases ob with
  | gone=>exact ⟨.gone,rfl,trivial⟩
  | box cells =>
    obtain ⟨cs,T,e1,e2,e3⟩:=hr.obj id _ hid
    have hb:w'.heap[C.blk id]? = w.heap[C.blk id]? := hs.blk _ fun o h=>((hR _ _ h).2.2 id _ hid) rfl
    let good:Nat→PV→PV→Prop:=fun j p q=>∀ v,cs[j]? = some v→zaR p q∧RepV (zu x C H w) w' C q v
    have hex:∀ j p,cells[j]? = some p→∃ q,good j p q:=fun j p hj=>by
      have hlt:j < cs.size:=by rw [e2]; exact (yab.1 hj).1
      obtain ⟨q,q1,q2⟩:=zrG hs ho (e3 j p _ hj (ya4 hlt)).2
      exact ⟨q,fun v hv=>by rw [ya4 hlt] at hv; cases hv; exact ⟨q1,q2⟩⟩
    refine ⟨.box (zew good cells),⟨_,rfl,zco _ _,fun j p p' h1 h2=>?_⟩,cs,T,hb.trans e1,by rw [zco]; exact e2,fun j p' v h1 h2=>?_⟩
    · obtain ⟨p2,g2,rfl⟩:=zbf h2
      rw [h1] at g2; cases g2
      have hlt:j < cs.size:=by rw [e2]; exact (yab.1 h1).1
      exact (zcG (hex j p h1) _ (ya4 hlt)).1
    · obtain ⟨p,g2,rfl⟩:=zbf h1
      exact ⟨(e3 j p v g2 h2).1,(zcG (hex j p g2) v h2).2⟩
  | arr ver st ipu T sz rows =>
    obtain ⟨e1,e2,e3,xs,e4,e5⟩:=hr.obj id _ hid
    obtain rfl:=hst ver st ipu T sz rows rfl
    have hb:∀ g,(C.sv id).ownBlock=some g→w'.heap[g]? = w.heap[g]? := fun g hg=>hs.blk _ fun o h=>by
      have:=((hR _ _ h).2.2 id _ hid) hg
      cases this.1
    let good:Nat→Nat→PV→PV→Prop:=fun k j p q=>∀ v,xs[k * sz + j]? = some v→zaR p q∧(if ipu then RepV (zu x C H w) w' C q v else RepP (zu x C H w) w' q v)
    have hxs:∀ k row j p,rows[k]? = some row→row[j]? = some p→∃ v,xs[k * sz + j]? = some v:=by
      intro k row j p a b
      have hk:k < rows.length:=(yab.1 a).1
      have hj:j < sz:=by rw [← e3 row (yaf a)]; exact (yab.1 b).1
      have hlt:k * sz + j < rows.length * sz:=by
        have:(k + 1) * sz≤rows.length * sz:=yaj _ hk
        rw [yaI] at this; omega
      exact ⟨_,yac (show k * sz + j < xs.length by rw [e4.1]; exact hlt)⟩
    have hex:∀ k row j p,rows[k]? = some row→row[j]? = some p→∃ q,good k j p q:=fun k row j p h1 h2=>by
      obtain ⟨v,hv⟩:=hxs k row j p h1 h2
      have h5:=(e5 k row j p v h1 h2 hv).2
      cases ipu with
      | true =>
        simp only [if_true] at h5
        obtain ⟨q,q1,q2⟩:=zrG hs ho h5
        exact ⟨q,fun v2 hv2=>by rw [hv] at hv2; cases hv2; exact ⟨q1,by simpa using q2⟩⟩
      | false =>
        simp only [yap,if_false] at h5
        obtain ⟨q,q1,q2⟩:=zvM hs h5
        exact ⟨q,fun v2 hv2=>by rw [hv] at hv2; cases hv2; exact ⟨q1,by simpa using q2⟩⟩
    have hget:∀ (k:Nat) r',(rows.mapIdx fun k r=>zew (good k) r)[k]? = some r'→∃ r,rows[k]? = some r∧r'=zew (good k) r:=by
      intro k r' h
      rw [List.getElem?_mapIdx] at h
      obtain ⟨r,h1,h2⟩:=yad.1 h
      exact ⟨r,h1,h2.symm⟩
    have hlen:(rows.mapIdx fun k r=>zew (good k) r).length=rows.length:=by simp
    refine ⟨.arr ver true ipu T sz (rows.mapIdx fun k r=>zew (good k) r),⟨_,rfl,hlen,fun k r r' h1 h2=>?_⟩,e1,e2,fun row hrow=>?_,xs,?_,fun k row j p v a b c=>?_⟩
    · obtain ⟨r2,g1,rfl⟩:=hget k r' h2
      rw [h1] at g1; cases g1
      refine ⟨zco _ _,fun j p p' h3 h4=>?_⟩
      obtain ⟨p2,g2,rfl⟩:=zbf h4
      rw [h3] at g2; cases g2
      obtain ⟨v,hv⟩:=hxs k r j p h1 h3
      exact (zcG (hex k r j p h1 h3) v hv).1
    · obtain ⟨k,hk,rfl⟩:=yaq hrow
      obtain ⟨r,g1,g2⟩:=hget k _ (yac hk)
      rw [g2,zco]; exact e3 r (yaf g1)
    · rw [hlen]
      refine ⟨e4.1,?_⟩
      rcases e4.2 with g | ⟨g,cap,cur,g1,g2,g3,g4⟩
      · exact .inl g
      · exact .inr ⟨g,cap,cur,g1,g2,(hb g (by show (C.sv id).ownBlock=some g; rw [g1]; rfl)).trans g3,g4⟩
    · obtain ⟨r,g1,rfl⟩:=hget k row a
      obtain ⟨p0,g2,rfl⟩:=zbf b
      exact ⟨(e5 k r j p0 v g1 g2 c).1,(zcG (hex k r j p0 g1 g2) v c).2⟩
theorem zjm {id:Nat} {ob ob':AObj} (h:zhC ob ob') (b o:Nat):ob'.free C id b o↔ob.free C id b o:=by
 cases ob with
 | gone=>have h:ob'=_:=h; subst h; exact ybR
 | box cs=>obtain ⟨cs',rfl,-,-⟩:=h; exact ybR
 | arr v st ipu T sz rows=>obtain ⟨rows',rfl,h1,-⟩:=h; simp only [AObj.free,h1]
theorem zdo {id:Nat} {ob ob':AObj} (h:zhC ob ob') (b:Nat):ob'.holds C id b↔ob.holds C id b:=by
 cases ob with
 | gone=>have h:ob'=_:=h; subst h; exact ybR
 | box cs=>obtain ⟨cs',rfl,-,-⟩:=h; exact ybR
 | arr v st ipu T sz rows=>obtain ⟨rows',rfl,h1,-⟩:=h; exact ybR
theorem HR.soil (hr : HR x C H w) (hs : Soil R w w') (hR : ∀ b o, R b o → zu x C H w b o) (hst : ∀ (id : Nat) v st ipu T sz rows, H[id]? = some (.arr v st ipu T sz rows) → st = true) (hS0 : ∀ b o, ¬ x.S0 b o) (hod : ∀ b o, C.old b o → ¬ R b o) :
    ∃ H':List AObj,H'.length=H.length∧(∀ (id:Nat) ob ob',H[id]? = some ob→H'[id]? = some ob'→zhC ob ob')∧HR x C H' w'∧zu x C H' w'=zu x C H w:=by
  have ho:∀ b o,C.old b o→w'.cell? ⟨b,o,none⟩=w.cell? ⟨b,o,none⟩:=fun b o h=>hs.keep b o (hod b o h)
  have hex:∀ (id:Nat) ob,H[id]? = some ob→∃ ob',zhC ob ob'∧zmJ (zu x C H w) w' C id ob':=fun id ob h=>zxP hr hs hR ho h fun v st ipu T sz rows e=>hst id v st ipu T sz rows (e ▸ h)
  have hpick:∃ H':List AObj,H'.length=H.length∧∀ (id:Nat) ob ob',H[id]? = some ob→H'[id]? = some ob'→zhC ob ob'∧zmJ (zu x C H w) w' C id ob':=by
    have key:∀ (H1:List AObj) (k:Nat),(∀ (i:Nat) ob,H1[i]? = some ob→∃ ob',zhC ob ob'∧zmJ (zu x C H w) w' C (k + i) ob')→∃ H':List AObj,H'.length=H1.length∧∀ (i:Nat) ob ob',H1[i]? = some ob→H'[i]? = some ob'→zhC ob ob'∧zmJ (zu x C H w) w' C (k + i) ob':=by
      intro H1
      induction H1 with
      | nil=>intro k _; exact ⟨[],rfl,fun i ob ob' h=>by simp at h⟩
      | cons a l ih =>
        intro k h
        obtain ⟨a',g1,g2⟩:=h 0 a rfl
        obtain ⟨l',g3,g4⟩:=ih (k + 1) fun i ob hi=>by
          have:=h (i + 1) ob (by simpa using hi)
          rwa [show k + (i + 1)=k + 1 + i by omega] at this
        refine ⟨a' :: l',by simp [g3],fun i ob ob' h1 h2=>?_⟩
        cases i with
        | zero=>simp at h1 h2; subst h1; subst h2; exact ⟨g1,g2⟩
        | succ i =>
          have:=g4 i ob ob' (by simpa using h1) (by simpa using h2)
          rwa [show k + (i + 1)=k + 1 + i by omega]
    obtain ⟨H',h1,h2⟩:=key H 0 fun i ob h=>by rw [yaF]; exact hex i ob h
    exact ⟨H',h1,fun i ob ob' a b=>by have:=h2 i ob ob' a b; rwa [yaF] at this⟩
  obtain ⟨H',hlen,hall⟩:=hpick
  have hback:∀ (id:Nat) ob',H'[id]? = some ob'→∃ ob,H[id]? = some ob:=fun id ob' h=>by
    have:=(yab.1 h).1
    exact ⟨_,yac (by omega:id < H.length)⟩
  have hforth:∀ (id:Nat) ob,H[id]? = some ob→∃ ob',H'[id]? = some ob':=fun id ob h=>by
    have:=(yab.1 h).1
    exact ⟨_,yac (by omega:id < H'.length)⟩
  have hfree:∀ b o,zk5 C H' b o↔zk5 C H b o:=fun b o=>by
    constructor
    · intro h id ob hid
      obtain ⟨ob',h'⟩:=hforth id ob hid
      exact (zjm (hall id ob ob' hid h').1 b o).1 (h id ob' h')
    · intro h id ob' h'
      obtain ⟨ob,hid⟩:=hback id ob' h'
      exact (zjm (hall id ob ob' hid h').1 b o).2 (h id ob hid)
  have hStab:zu x C H' w'=zu x C H w:=by
    funext b o
    simp only [zu,hs.size,hfree,hs.frz]
  refine ⟨H',hlen,fun id ob ob' a b=>(hall id ob ob' a b).1,⟨by rw [hlen]; exact hr.n,fun id ob' h'=>?_,fun id id' ob1 ob2 b h1 h2 h3 h4=>?_,fun id ob' b h1 h2=>?_,fun b o h=>(hS0 b o h).elim,by rw [hs.size]; exact hr.size,hs.os.trans hr.os,hs.tape.trans hr.tape,hs.output.trans hr.output,fun b hb h=>?_,by rw [hlen]; exact hr.len,hr.ids,hr.vers,fun b o h=>?_,hr.old0,fun b hb h=>(hs.frz b).2 (hr.unf b hb h)⟩,hStab⟩
  · obtain ⟨ob,hid⟩:=hback id ob' h'
    rw [hStab]
    exact (hall id ob ob' hid h').2
  · obtain ⟨q1,hi1⟩:=hback id ob1 h1
    obtain ⟨q2,hi2⟩:=hback id' ob2 h2
    exact hr.apart id id' q1 q2 b hi1 hi2 ((zdo (hall id q1 ob1 hi1 h1).1 b).1 h3) ((zdo (hall id' q2 ob2 hi2 h2).1 b).1 h4)
  · obtain ⟨q1,hi1⟩:=hback id ob' h1
    exact hr.mine id q1 b hi1 ((zdo (hall id q1 ob' hi1 h1).1 b).1 h2)
  · refine (hs.blk b fun o ho=>?_).trans (hr.frame b hb h)
    rcases (hR b o ho).1 with q | ⟨q | ⟨i,ob0,q1,q2⟩,-⟩
    · exact hS0 b o q
    · omega
    · exact h i ob0 q1 q2
  · obtain ⟨h1,h2,h3⟩:=hr.old b o h
    refine ⟨by rw [hs.size]; exact h1,fun id ob' hid hb=>?_,h3⟩
    obtain ⟨q1,hi1⟩:=hback id ob' hid
    exact h2 id q1 hi1 ((zdo (hall id q1 ob' hi1 hid).1 b).1 hb)
theorem HR.old_apart (hr:HR x C H w) (hS0:∀ b o,¬ x.S0 b o) {b o:Nat} (h:C.old b o):¬ zu x C H w b o:=by
 obtain ⟨-,-,-,h1,h2⟩:=hr.old b o h
 rintro ⟨q | ⟨q | ⟨i,ob0,q1,q2⟩,-⟩,-⟩
 ·
  exact hS0 b o q
 ·
  omega
 ·
  exact h2 i ob0 q1 q2
def zop (st st':St):Prop:=st'.heap.length=st.heap.length∧(∀ (id:Nat) ob ob',st.heap[id]? = some ob→st'.heap[id]? = some ob'→zhC ob ob')∧∀ t,zaR (st.env t) (st'.env t)
theorem Rel.soil {nt : Nat} {st : St} {a : Act} {C : Conc} (hr : HR x C st.heap w) (he : ∀ t, RepV (zu x C st.heap w) w C (st.env t) (a.tmps.getD t Go.undef)) (hdf : a.defers = []) (hsz : a.tmps.size = nt) (hs : Soil R w w') (hR : ∀ b o, R b o → zu x C st.heap w b o)
    (hst:∀ (id:Nat) v sto ipu T sz rows,st.heap[id]? = some (.arr v sto ipu T sz rows)→sto=true) (hS0:∀ b o,¬ x.S0 b o) (hod:∀ b o,C.old b o→¬ R b o):∃ st',zop st st'∧Rel x nt st' a w':=by
  obtain ⟨H',h1,h2,h3,h4⟩:=hr.soil hs hR hst hS0 hod
  have hex:∀ t,∃ q,zaR (st.env t) q∧RepV (zu x C H' w') w' C q (a.tmps.getD t Go.undef):=fun t=>by
    obtain ⟨q,q1,q2⟩:=zrG hs (fun b o h=>hs.keep b o (hod b o h)) (he t)
    exact ⟨q,q1,by rw [h4]; exact q2⟩
  exact ⟨⟨fun t=>Classical.choose (hex t),H'⟩,⟨h1,h2,fun t=>(Classical.choose_spec (hex t)).1⟩,⟨⟨C,h3,fun t=>(Classical.choose_spec (hex t)).2⟩,hdf,hsz⟩⟩
end
end Go.Proofs.YtkcahmbcpkjpiaaGreatDoor
