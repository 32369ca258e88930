/- Joined texts of this claim: Pi17 Pi18 Pi19 Pi20 Pi23 Pi21 Pi22 Pi24 Pi25 Pi26 Base Defs. -/
import Derived.Test.YtkcahmbcpkjpiaaGreatDoorKA
import Derived.WalkKit
import Derived.Laws.StructEq
import Derived.Deep.QuietTactic
import Derived.BigQuiet
import Derived.Lib.Hide
import Derived.Lib.QuietBelow
import Derived.LoopN
import Derived.Deep.DeepCutAuto
set_option linter.unusedSimpArgs false
set_option linter.unusedVariables false
set_option linter.unusedSectionVars false
set_option maxHeartbeats 8000000
set_option maxRecDepth 100000
namespace Go.Proofs.YtkcahmbcpkjpiaaGreatDoor
open Go.RowKit
def zaw:PV→Bool
 | .bool _ | .int _ _ | .str _ | .nilp=>true
 | _=>false
def zpv:PV→Bool
 | .agg cs=>cs.all zaw
 | p=>zaw p
def zvH:PV→Bool
 | .tup vs=>vs.all zpv
 | p=>zpv p
section
variable {S S':Nat→Nat→Prop} {w:World} {C C':Conc}
theorem zle {p:PV} {v:Value} (h:zaw p=true) (hp:RepV S w C p v):RepV S' w C' p v:=by
 cases p <;> simp only [zaw,yap] at h
 case bool b=>rw [hp.bool_inv]; exact .pure (.bool b)
 case int k n=>rw [hp.int_inv]; exact .pure (.int k n)
 case str s=>rw [hp.str_inv]; exact .pure (.str s)
 case nilp =>
  cases hp with
  | pure g=>cases g; exact .pure .nilp
theorem zlf {p:PV} {v:Value} (h:zpv p=true) (hp:RepV S w C p v):RepV S' w C' p v:=by
 cases p <;> simp only [zpv] at h <;> try exact zle h hp
 case agg cs =>
  obtain ⟨vs,rfl,hl,h1,h2⟩:=hp.agg_inv
  exact .agg cs vs hl h1 fun j p u hj hu=>zle (yar.1 h p (yaf hj)) (h2 j p u hj hu)
theorem zok {p:PV} {v:Value} (h:zvH p=true) (hp:RepV S w C p v):RepV S' w C' p v:=by
 cases p <;> simp only [zvH] at h <;> try exact zlf h hp
 case tup cs =>
  obtain ⟨vs,rfl,hl,h2⟩:=hp.tup_inv
  exact .tup cs vs hl fun j p u hj hu=>zlf (yar.1 h p (yaf hj)) (h2 j p u hj hu)
end
def zf6:Nat→List AObj→PV→PV
 | 0,H,p=>ren true (pos []) (zt true H) p
 | n + 1,H,p=>match p with
  | .ptr id off=>match H[id]? with
   | some (.box cells)=>if (cells.map (zf6 n H)).all PV.isPure=true then .rptr ((cells.map (zf6 n H)).drop off) else .top
   | _ => .top
  | .clo f cs => .clo f (cs.map (zf6 n H))
  | .clob f cs => .clob f (cs.map (zf6 n H))
  | p=>ren true (pos []) (zt true H) p
def zjY (H:List AObj) (p:PV):PV:=zf6 4 H p
def zhp (H H1:List AObj):Prop:=H1.length=H.length∧∀ (x:Cx) (C:Conc) (w:World),HR x C H w→HR x C H1 w∧∀ p v,RepV (zu x C H w) w C p v→RepV (zu x C H1 w) w C p v
theorem zhp.trans {H H1 H2:List AObj} (h:zhp H H1) (h2:zhp H1 H2):zhp H H2 :=
 ⟨h2.1.trans h.1,fun x C w hr=>by
  obtain ⟨a,b⟩:=h.2 x C w hr
  obtain ⟨c,d⟩:=h2.2 x C w a
  exact ⟨c,fun p v hv=>d p v (b p v hv)⟩⟩
inductive CallTo (P:Program) (f:Nat) (ps:List PV) (H:List AObj):Bool→PV→List AObj→Prop
  | pure {so:Bool} {r:PV} (h:zg P f (ps.map (ren true (pos []) (zt false H))) [] r []):CallTo P f ps H so r H
  | scalar {so:Bool} {r:PV} (h:zg P f (ps.map (ren true (pos []) (zt true H))) [] r []) (hs:zvH r=true):CallTo P f ps H so r H
  | heap (ks : List Nat) {r : PV} {Hs' : List AObj} (hnd : ks.Nodup) (hlt : ∀ k ∈ ks, k < H.length) (h : zg P f (ps.map (ren true (pos ks) (zt false H))) (ze (pos ks) (zt false H) H ks) r Hs') :
      CallTo P f ps H true (zdA false (ZV H.length ks) zpu r) (ZN H Hs' ks)
  | look {r:PV} (h:zg P f (ps.map (zjY H)) [] r []) (hs:zvH r=true):CallTo P f ps H true r H
  | pureM (H1:List AObj) (hm:zhp H H1) {r:PV} (h:zg P f (ps.map (ren true (pos []) (zt false H1))) [] r []):CallTo P f ps H true r H1
section
variable {P:Program} {x:Cx} {C:Conc} {H:List AObj} {w:World}
theorem zjZ {S S':Nat→Nat→Prop} {C':Conc} {f:Nat→Option Nat} {fz:Nat→Nat→PV} (h:RenOk S S' w C C' f fz) {ps:List PV} {vs:List Value} (hp:zmK S w C ps vs):zmK S' w C' (ps.map (ren true f fz)) vs :=
 ⟨by simpa using hp.1,fun j q u hj hu=>by
  obtain ⟨p,h1,rfl⟩:=zO hj
  exact zho h (hp.2 j p u h1 hu)⟩
theorem zg9 (hr:HR x C H w) {S':Nat→Nat→Prop} {C':Conc} (h:RenOk (zu x C H w) S' w C C' (pos []) (zt true H)) (hS:∀ b o,b < w.heap.size→S' b o):∀ (n:Nat) {p:PV} {v:Value},RepV (zu x C H w) w C p v→RepV S' w C' (zf6 n H p) v
 | 0,p,v,hp=>zho (nl:=true) h hp
 | n + 1,p,v,hp=>by
  cases p
  case ptr id off =>
   obtain ⟨rfl,hi⟩:=hp.ptr_inv
   simp only [zf6]
   split
   ·
    rename_i cells hid
    split
    ·
     rename_i hpu
     obtain ⟨cs,T,g1,g2,g3⟩:=hr.obj id _ hid
     have hb:C.blk id < w.heap.size:=(yak.1 g1).1
     refine .rptr _ (C.blk id) off (fun j=>cs[off + j]!) (fun j p hj=>?_) fun j p hj=>?_
     all_goals
      rw [ybg,yav] at hj
      obtain ⟨q,hq,rfl⟩:=yad.1 hj
      have hjl:off + j < cs.size:=by
       have:=(yab.1 hq).1
       omega
     ·
      exact ⟨hS _ _ hb,by simp [World.cell?,g1,hjl]⟩
     ·
      refine (zg9 hr h hS n (g3 (off + j) q _ hq (by simp [hjl])).2).pureOf ?_
      exact yar.1 hpu _ (yaG.2 ⟨q,yaf hq,rfl⟩)
    ·
     exact .any
   ·
    exact .any
  case clo f cs =>
   obtain ⟨vs,rfl,e2,e3⟩:=hp.clo_inv
   refine .clo f _ vs (by simpa using e2) fun j p u hj hu=>?_
   obtain ⟨q,hq,rfl⟩:=zO hj
   exact zg9 hr h hS n (e3 j q u hq hu)
  case clob f cs =>
   obtain ⟨vs,rfl,e2,e3⟩:=hp.clob_inv
   refine .clob f _ vs (by simpa using e2) fun j p u hj hu=>?_
   obtain ⟨q,hq,rfl⟩:=zO hj
   exact zg9 hr h hS n (e3 j q u hq hu)
  all_goals exact zho (nl:=true) h hp
theorem HR.withOld (hr : HR x C H w) {O : Nat → Nat → Prop} (h1 : ∀ b o, O b o → b < w.heap.size ∧ (∀ (id : Nat) ob, H[id]? = some ob → ¬ ob.holds C id b) ∧ x.C0.old b o ∧ b < x.w0.heap.size ∧ ∀ (i : Nat) ob0, x.H0[i]? = some ob0 → ¬ ob0.holds x.C0 i b) (h2 : ∀ b o, C.old b o → O b o) :
    HR x { C with old:=O } H w∧∀ p v,RepV (zu x C H w) w C p v→RepV (zu x { C with old:=O } H w) w { C with old:=O } p v:=by
  have hm:∀ p v,RepV (zu x C H w) w C p v→RepV (zu x { C with old:=O } H w) w { C with old:=O } p v:=fun p v h=>h.mono (fun _ _ h=>h) (fun _ _ _=>rfl) (yag _) (fun _ _=>rfl) (fun _ _ => .inl ⟨rfl,rfl⟩) fun b o h=>⟨h2 b o h,rfl⟩
  exact ⟨⟨hr.n,fun id ob hid=>(hr.obj id ob hid).mono hm (fun _ _ h=>h) (fun _ _=>rfl) rfl rfl rfl,hr.apart,hr.mine,hr.s0,hr.size,hr.os,hr.tape,hr.output,hr.frame,hr.len,hr.ids,hr.vers,h1,fun b o h=>h2 b o (hr.old0 b o h),hr.unf⟩,hm⟩
theorem run_pure (hr : HR x C H w) {f : Nat} {ps : List PV} {vs : Array Value} (hp : zmK (zu x C H w) w C ps vs.toList) {r : PV} (h : zg P f (ps.map (ren true (pos []) (zt false H))) [] r []) :
    Calls P f vs w fun e w'=>∃ v C',e = .returned v∧HR x C' H w'∧(∀ p u,RepV (zu x C H w) w C p u→RepV (zu x C' H w') w' C' p u)∧RepV (zu x C' H w') w' C' r v:=by
  have stepOf:∀ {all:Bool} {S1:Nat→Nat→Prop} {C1:Conc} {w':World},HR (zcA w C H [] all S1) C1 [] w'→Step w w' fun _=>False:=fun h1 =>
    ⟨h1.size,h1.os,h1.tape,h1.output,fun b hb _=>h1.frame b hb fun i ob0 hi=>by simp [zcA,ze] at hi⟩
  obtain ⟨h1,h2⟩:=hr.enter (ks := []) List.nodup_nil (fun k hk=>by cases hk) (all:=false) (S1:=zu x C H w) (fun _ _ h=>h) (fun b o h=>⟨h.2.1,fun k ob hk=>by cases hk⟩) (fun h=>by cases h)
  refine (h (zcA w C H [] false (zu x C H w)) vs rfl h1 (zjZ h2 hp)).mono fun e w' ⟨v,C1,he,hc,hv⟩=>?_
  obtain ⟨k1,k2,k3⟩:=hr.grow (stepOf hc)
  obtain ⟨m1,m2⟩:=k1.withOld (O:=C1.old) (fun b o h=>by
    obtain ⟨q1,-,q3⟩:=hc.old b o h
    obtain ⟨r1,r2,r3⟩:=hr.old b o q3.1
    exact ⟨q1,r2,r3⟩) hc.old0
  refine ⟨v,{ C with old:=C1.old },he,m1,fun p u h=>m2 p u (k2 p u h),hv.mono (fun b o hs=>?_) (fun _ _ _=>rfl) (by rw [hc.n]; exact ybv _) (fun i hi=>by rw [hc.n] at hi; exact (Nat.not_lt_zero _ hi).elim) (fun i hi=>by rw [hc.n] at hi; exact (Nat.not_lt_zero _ hi).elim) fun b o h=>⟨h,rfl⟩⟩
  obtain ⟨g1,g2,-⟩:=hs
  rcases g1 with g1 | ⟨g1 | ⟨i,ob0,g1,-⟩,gu⟩
  · exact ⟨g1.1.imp_right fun q=>⟨q.1,hc.unf b g1.2.1 q.2⟩,g2,g1.2.2⟩
  · refine ⟨.inr ⟨.inl (yaP hr.size g1),gu⟩,g2,fun id ob hid=>AObj.free_of_not (fun hb=>?_) o⟩
    have:=hr.blk_lt hid hb
    have:w.heap.size≤b:=g1
    omega
  · simp [zcA,ze] at g1
theorem CallTo.run (hr : HR x C H w) {f : Nat} {ps : List PV} {vs : Array Value} (hp : zmK (zu x C H w) w C ps vs.toList) {so : Bool} {r : PV} {H' : List AObj} (h : CallTo P f ps H so r H') :
    Calls P f vs w fun e w'=>∃ v C',e = .returned v∧HR x C' H' w'∧(∀ p u,RepV (zu x C H w) w C p u→RepV (zu x C' H' w') w' C' p u)∧RepV (zu x C' H' w') w' C' r v:=by
  have stepOf:∀ {all:Bool} {S1:Nat→Nat→Prop} {C1:Conc} {w':World},HR (zcA w C H [] all S1) C1 [] w'→Step w w' fun _=>False:=fun h1 =>
    ⟨h1.size,h1.os,h1.tape,h1.output,fun b hb _=>h1.frame b hb fun i ob0 hi=>by simp [zcA,ze] at hi⟩
  cases h with
  | pure h=>exact run_pure hr hp h
  | pureM H1 hm h =>
    obtain ⟨m1,m2⟩:=hm.2 x C w hr
    refine (run_pure m1 ⟨hp.1,fun j p v hj hv=>m2 p v (hp.2 j p v hj hv)⟩ h).mono fun e w' ⟨v,C',h1,h2,h3,h4⟩=>⟨v,C',h1,h2,fun p u hu=>h3 p u (m2 p u hu),h4⟩
  | scalar h hs =>
    obtain ⟨h1,h2⟩:=hr.enter (ks := []) List.nodup_nil (fun k hk=>by cases hk) (all:=true) (S1:=fun b _=>b < w.heap.size) (fun _ _ h=>h.2.1) (fun b o h=>⟨h,fun k ob hk=>by cases hk⟩) (fun _ _ _ h=>h)
    refine (h (zcA w C H [] true _) vs rfl h1 (zjZ h2 hp)).mono fun e w' ⟨v,C1,he,hc,hv⟩=>?_
    obtain ⟨k1,k2,k3⟩:=hr.grow (stepOf hc)
    exact ⟨v,C,he,k1,k2,zok hs hv⟩
  | look h hs =>
    obtain ⟨h1,h2⟩:=hr.enter (ks := []) List.nodup_nil (fun k hk=>by cases hk) (all:=true) (S1:=fun b _=>b < w.heap.size) (fun _ _ h=>h.2.1) (fun b o h=>⟨h,fun k ob hk=>by cases hk⟩) (fun _ _ _ h=>h)
    have hps:zmK (zu (zcA w C H [] true fun b _=>b < w.heap.size) (C.sub []) (ze (pos []) (zt true H) H []) w) w (C.sub []) (ps.map (zjY H)) vs.toList :=
      ⟨by simpa using hp.1,fun j q u hj hu=>by
        obtain ⟨p,h3,rfl⟩:=zO hj
        exact zg9 hr h2 (fun b o hb=>⟨.inl hb,hb,fun i ob hi=>by simp [ze] at hi⟩) 4 (hp.2 j p u h3 hu)⟩
    refine (h (zcA w C H [] true _) vs rfl h1 hps).mono fun e w' ⟨v,C1,he,hc,hv⟩=>?_
    obtain ⟨k1,k2,k3⟩:=hr.grow (stepOf hc)
    exact ⟨v,C,he,k1,k2,zok hs hv⟩
  | heap ks hnd hlt h =>
    obtain ⟨h1,h2⟩:=hr.enter hnd hlt (all:=false) (S1:=zu x C H w) (fun _ _ h=>h) (fun b o h=>⟨h.2.1,fun k ob _ h3=>h.2.2 k ob h3⟩) (fun h=>by cases h)
    refine (h (zcA w C H ks false (zu x C H w)) vs rfl h1 (zjZ h2 hp)).mono fun e w' ⟨v,C1,he,hc,hv⟩=>?_
    obtain ⟨k1,k2,k3⟩:=hr.leave hnd hlt hc
    exact ⟨v,_,he,k1,k2,zcE k3 hv⟩
end
def Z2:PV→List Nat
 | .ptr id _ | .aptr id .. | .arr id _ => [id]
 | _ => []
def ZQ:PV→List Nat
 | .clo _ cs=>cs.flatMap Z2
 | .clob _ cs=>cs.flatMap Z2
 | p=>Z2 p
def Z8:PV→List Nat
 | .agg cs=>cs.flatMap ZQ
 | .vlist rows=>rows.flatMap fun r=>r.flatMap ZQ
 | p=>ZQ p
def PV.noId:PV→Bool
 | .ptr .. | .aptr .. | .arr .. | .clo .. | .clob .. | .agg _ | .tup _ | .vlist _=>false
 | _=>true
theorem ztO {p:PV} (h:p.noId=true) (f:Nat→Option Nat) (fz:Nat→Nat→PV):zn false f fz p=p:=by
 cases p <;> first | rfl | cases h
def AObj.flat:AObj→Bool
 | .arr _ _ ipu _ _ _ => !ipu
 | .gone=>true
 | .box cs=>cs.all PV.noId
theorem AObj.flat_ren {ob:AObj} (h:ob.flat=true) (f:Nat→Option Nat) (fz:Nat→Nat→PV):zf f fz ob=ob:=by
 cases ob with
 | box cs =>
  simp only [zf,AObj.box.injEq]
  exact (yaU fun p hp=>ztO (yar.1 h p hp) f fz).trans (List.map_id _)
 | arr ver st ipu T sz rows =>
  have:ipu=false:=by simpa [AObj.flat] using h
  subst this; rfl
 | gone=>rfl
def zlg (k:Nat):PV→Option PV
 | .arr 0 v=>some (.arr k v)
 | .ptr 0 o=>some (.ptr k o)
 | .list rows=>some (.list rows)
 | .tup []=>some (.tup [])
 | _=>none
inductive One (P:Program) (f:Nat) (ps:List PV) (H:List AObj):PV→List AObj→Prop
  | mk (k : Nat) (ob ob' : AObj) {r' r : PV} (hk : H[k]? = some ob) (ho : ob.flat = true) (ho' : ob'.flat = true) (hr : zlg k r' = some r) (hin : k ∈ ps.flatMap Z8)
      (h:zg P f (ps.map (ren true (pos [k]) (zt false H))) [ob] r' [ob']):One P f ps H r (H.set k ob')
theorem zq3 {H:List AObj} {k:Nat} {ob ob':AObj} (hk:H[k]? = some ob) (ho':ob'.flat=true):ZN H [ob'] [k]=H.set k ob':=by
 have hlt:k < H.length:=(yab.1 hk).1
 apply List.ext_getElem?
 intro i
 simp only [ZN,yax,yaS,Nat.sub_self,ybh,yav]
 by_cases hi:i < H.length
 ·
  rw [ya0 hi,yaM]
  simp only [zS,zT,if_pos hi,pos]
  by_cases e:i=k
  ·
   subst e
   rw [ya9 hlt]
   simp [AObj.flat_ren ho']
  ·
   rw [ybl (Ne.symm e)]
   simp [Ne.symm e,hi]
 ·
  rw [ybq (by simp; omega),ybq (by simp; omega)]
  rfl
theorem zq4 {n k:Nat} {r' r:PV} (h:zlg k r'=some r):zdA false (ZV n [k]) zpu r'=r:=by
 unfold zlg at h
 split at h <;> first | (cases h; done) | skip
 all_goals
  cases h
  simp [zdA,ren,zn,zp,ZV,Zh]
theorem One.to {P:Program} {f:Nat} {ps:List PV} {H H':List AObj} {r:PV} (h:One P f ps H r H'):CallTo P f ps H true r H':=by
 cases h with
 | mk k ob ob' hk ho ho' hr hin h =>
  have hlt:k < H.length:=(yab.1 hk).1
  rw [← zq3 hk ho',← zq4 (n:=H.length) hr]
  refine .heap [k] (by simp) (by simpa using hlt) ?_
  simpa [ze,hk,AObj.flat_ren ho] using h
inductive Mk (P:Program) (f:Nat) (ps:List PV) (H:List AObj):PV→List AObj→Prop
 | mk (ob':AObj) {r' r:PV} (ho':ob'.flat=true) (hr:zlg H.length r'=some r) (h:zg P f (ps.map (ren true (pos []) (zt false H))) [] r' [ob']):Mk P f ps H r (H ++ [ob'])
theorem ztP {H:List AObj} {ob':AObj} (ho':ob'.flat=true):ZN H [ob'] []=H ++ [ob']:=by
 apply List.ext_getElem?
 intro i
 simp only [ZN,yax,yaS,Nat.sub_zero,yav]
 by_cases hi:i < H.length
 ·
  rw [ya0 (by omega),yaM,yaC hi]
  simp [zS,zT,if_pos hi,pos,yac hi]
 ·
  by_cases e:i=H.length
  ·
   subst e
   rw [ya0 (by omega),yaM]
   simp [zS,zT,AObj.flat_ren ho']
  ·
   rw [ybq (by simp; omega),ybq (by simp; omega)]
   rfl
theorem zpw {n:Nat} {r' r:PV} (h:zlg n r'=some r):zdA false (ZV n []) zpu r'=r:=by
 unfold zlg at h
 split at h <;> first | (cases h; done) | skip
 all_goals
  cases h
  simp [zdA,ren,zn,zp,ZV,Zh]
theorem Mk.to {P:Program} {f:Nat} {ps:List PV} {H H':List AObj} {r:PV} (h:Mk P f ps H r H'):CallTo P f ps H true r H':=by
 cases h with
 | mk ob' ho' hr h =>
  rw [← ztP ho',← zpw hr]
  exact .heap [] (by simp) (by simp) (by simpa [ze] using h)
def zpx (P:Program) (f:Nat) (ps:List PV) (H:List AObj) (so:Bool) (h:Nat) (r:PV) (H':List AObj):Prop:=CallTo P f ps H so r H'∨(h=1∧One P f ps H r H')∨(h=2∧Mk P f ps H r H')∨(h=3∧CallTo P f ps H true r H')
def zq5:PV→Option (Nat × List PV × List PV)
 | .clo f cs=>some (f,[],cs)
 | .clob f bs=>some (f,bs,[])
 | _=>none
def WOp (P:Program) (so:Bool) (o:LOp) (st:St) (K:PV→List AObj→Prop):Prop :=
 match o with
 | .call f args h=>∃ r H',zpx P f (args.map (LOpd.ev st)) st.heap so h r H'∧K r H'
 | .callv x args=>∃ f pre caps,zq5 (x.ev st)=some (f,pre,caps)∧ZU P f=true∧∃ r H',CallTo P f (pre ++ args.map (LOpd.ev st) ++ caps) st.heap so r H'∧K r H'
 | .isnil neg x=>match x.ev st with
  | .nilsl=>K (.bool (!neg)) st.heap
  | .list rows=>∀ b,(b=true→rows = [])→K (.bool (if neg then !b else b)) st.heap
  | _=>False
 | o=>∃ v H',zo st o=some (v,H')∧K v H'
def Zq (P:Program):List LOper→(St→Prop)→St→Prop
 | [],K,st=>K st
 | o :: rest,K,st=>match o.guard with
  | none=>WOp P o.solo o.op st fun v H=>Zq P rest K (st.put o.dst v H)
  | some (t,want)=>match st.env t with
   | .bool b=>if b=want then WOp P o.solo o.op st (fun v H=>Zq P rest K (st.put o.dst v H)) else Zq P rest K (st.put o.dst .undef st.heap)
   | .undef=>Zq P rest K (st.put o.dst .undef st.heap)
   | _=>False
section
variable {P:Program} {x:Cx} {nt:Nat} {st:St} {a:Act} {w:World}
theorem zbc {C : Conc} {C' : Conc} {H' : List AObj} {w' : World} (hsz : a.tmps.size = nt) (hdf : a.defers = []) (hr : HR x C' H' w') (he : ∀ t, RepV (zu x C st.heap w) w C (st.env t) (a.tmps.getD t Go.undef))
    (hm:∀ p u,RepV (zu x C st.heap w) w C p u→RepV (zu x C' H' w') w' C' p u) {v:PV} {vv:Value} (hv:RepV (zu x C' H' w') w' C' v vv) {d:Option Nat} (hd:∀ t,d=some t→t < nt):Rel x nt (st.put d v H') (a.put d vv) w':=by
  refine ⟨⟨C',hr,fun t=>?_⟩,?_,?_⟩
  · cases d with
    | none=>exact hm _ _ (he t)
    | some t0 =>
      have ht0:t0 < a.tmps.size:=by rw [hsz]; exact hd t0 rfl
      simp only [St.put,Act.put,yae]
      by_cases e:t0=t
      · subst e
        rw [if_pos rfl]
        have:(a.tmps.setIfInBounds t0 vv).getD t0 Go.undef=vv:=by simp [Array.getD,ht0]
        rw [this]; exact hv
      · rw [if_neg e]
        have:(a.tmps.setIfInBounds t0 vv).getD t Go.undef=a.tmps.getD t Go.undef:=by
          by_cases ht:t < a.tmps.size
          · simp [Array.getD,ht,Array.getElem_setIfInBounds_ne,e]
          · simp [Array.getD,ht]
        rw [this]; exact hm _ _ (he t)
  · cases d <;> exact hdf
  · cases d <;> simp [Act.put,hsz]
theorem zxr {S : Nat → Nat → Prop} {C : Conc} {p : PV} {v : Value} {t e : TypeId} {neg : Bool} (hu : P.underlying t = some (.slice e)) (hp : RepV S w C p v) (X Y : Operand) {rows : List (List PV)} (hpr : p = .nilsl ∧ rows = [] ∨ p = .list rows) :
    ∃ b:Bool,(b=true→rows = [])∧(p = .nilsl→b=true)∧((do let a ← (do eqGuard (if neg then .neq else .eql) t X Y v (.slice none 0 0); binOp (if neg then .neq else .eql) t v (.slice none 0 0):Sem Value); pure (.value a)):Sem Next).run P w = .ok (.value (.bool (if neg then !b else b))) w:=by
  have hv:∃ ad c,v = .slice ad rows.length c∧(ad=none→rows = [])∧(p = .nilsl→ad=none):=by
    rcases hpr with ⟨rfl,rfl⟩ | rfl
    · rw [hp.nilsl_inv]; exact ⟨none,0,rfl,fun _=>rfl,fun _=>rfl⟩
    · have:=hp.list_inv
      cases this with
      | list rows ad c sz f hc hm hsz hz hl hf =>
        refine ⟨ad,c,rfl,fun h=>?_,fun h=>by cases h⟩
        subst h
        cases rows with
        | nil=>rfl
        | cons row rest =>
          have h0:=hz row (by simp)
          obtain ⟨b,o,h1,-⟩:=hl 0 row 0 (row[0]'(by omega)) (by simp) (yac (by omega))
          cases h1
  obtain ⟨ad,c,rfl,h1,h2⟩:=hv
  have heq:(Op.equal t (.slice ad rows.length c) (.slice none 0 0)).run P w = .ok ad.isNone w:=by
    unfold Op.equal Op.maxDepth
    rw [Op.equalIn]
    rw [yal,run_underlying hu]
    cases ad <;> simp
  refine ⟨ad.isNone,fun h=>h1 (by cases ad <;> simp_all),fun h=>by rw [h2 h]; rfl,ZH (zaV w rfl rfl ?_)⟩
  cases neg
  · show ((do pure (.bool (← Op.equal t _ _)):Sem Value)).run P w=_
    rw [yal,heq]; rfl
  · show ((do pure (.bool (!(← Op.equal t _ _))):Sem Value)).run P w=_
    rw [yal,heq]; rfl
theorem zha {f:Nat} (hb:ZU P f=true) (args:Array Value) (w:World):(callFunc f args).run P w = .ok (.enter f args) w:=by
 unfold ZU at hb
 split at hb <;> try (cases hb; done)
 rename_i fn hf
 simp only [yat,yaQ,beq_eq_false_iff_ne] at hb
 obtain ⟨c,hc⟩:=Option.isSome_iff_exists.1 hb.1
 simp [callFunc,yal,hf,hb.2,hc]
theorem zE {α β:Type} {o:Option α} {g:α→β} {y:β} (h:o.map g=some y):∃ a,g a=y:=by
 obtain ⟨a,-,e⟩:=yad.1 h; exact ⟨a,e⟩
theorem zjc {op:Op} {f:Nat} {args:List LOpd} {h:Nat} (hl:Z1 P op=some (.call f args h)):∃ as tys,op = .call ⟨.value (.func f),as,tys⟩∧ZU P f=true∧zf4 as.toList=some args:=by
 cases op <;> simp only [Z1,reduceCtorEq] at hl
 case call c =>
  obtain ⟨callee,as,tys⟩:=c
  dsimp only at hl
  split at hl <;> try (cases hl; done)
  ·
   split at hl <;> cases hl
  ·
   split at hl <;> cases hl
  ·
   split at hl <;> cases hl
  ·
   repeat' (split at hl)
   all_goals cases hl
  ·
   split at hl <;> try (cases hl; done)
   rename_i hb
   obtain ⟨l,h1,e⟩:=yad.1 hl
   cases e
   exact ⟨as,tys,rfl,hb,h1⟩
  ·
   split at hl <;> cases hl
 all_goals (repeat' (split at hl))
 all_goals first | (simp only [reduceCtorEq] at *; done) | (cases hl; done) | (obtain ⟨_,e⟩:=zE hl; cases e; done)
theorem zhq {op:Op} {X:LOpd} {args:List LOpd} (hl:Z1 P op=some (.callv X args)):∃ Y as tys,op = .call ⟨.value Y,as,tys⟩∧zaK Y=some X∧zf4 as.toList=some args:=by
 cases op <;> simp only [Z1,reduceCtorEq] at hl
 case call c =>
  obtain ⟨callee,as,tys⟩:=c
  dsimp only at hl
  split at hl <;> try (cases hl; done)
  ·
   split at hl <;> cases hl
  ·
   split at hl <;> cases hl
  ·
   split at hl <;> cases hl
  ·
   repeat' (split at hl)
   all_goals cases hl
  ·
   split at hl <;> try (cases hl; done)
   obtain ⟨_,e⟩:=zE hl; cases e
  ·
   split at hl <;> try (cases hl; done)
   rename_i h1 h2
   cases hl
   exact ⟨_,as,tys,rfl,h1,h2⟩
 all_goals (repeat' (split at hl))
 all_goals first | (simp only [reduceCtorEq] at *; done) | (cases hl; done) | (obtain ⟨_,e⟩:=zE hl; cases e; done)
theorem zmY {op:Op} {X:LOpd} {neg:Bool} (hl:Z1 P op=some (.isnil neg X)):∃ t e A B u,op = .binOp (if neg then .neq else .eql) t A B u∧P.underlying t=some (.slice e)∧zaK A=some X∧zaK B=some (.val .nilsl):=by
 cases op <;> simp only [Z1,reduceCtorEq] at hl
 case binOp bo t A B u =>
  split at hl
  ·
   cases hl
  ·
   cases hl
  ·
   repeat' (split at hl)
   all_goals cases hl
  ·
   rename_i hu h1 h2
   split at hl
   ·
    rename_i e; cases hl; exact ⟨t,_,A,B,u,by rw [e]; rfl,hu,h1,h2⟩
   ·
    split at hl
    ·
     rename_i e; cases hl; exact ⟨t,_,A,B,u,by rw [e]; rfl,hu,h1,h2⟩
    ·
     cases hl
  ·
   repeat' (split at hl)
   all_goals cases hl
  ·
   cases hl
 all_goals (repeat' (split at hl))
 all_goals first | (simp only [reduceCtorEq] at *; done) | (cases hl; done) | (obtain ⟨_,e⟩:=zE hl; cases e; done)
theorem zmZ {S:Nat→Nat→Prop} {C:Conc} {B:Operand} (h:zaK B=some (.val .nilsl)) (he:∀ t,RepV S w C (st.env t) (a.tmps.getD t Go.undef)):a.eval B = .slice none 0 0 :=
 (zau (st:=st) he h).nilsl_inv
theorem WOp.wp {o : Oper} {so : Bool} {lo : LOp} {K : PV → List AObj → Prop} (hl : Z1 P o.op = some lo) (hd : ∀ t, o.dst = some t → t < nt) (h : WOp P so lo st K) (hrel : Rel x nt st a w) {Kc : Act → World → Prop} {Q : Exit → Act → World → Prop}
    (hK:∀ v H' a' w',K v H'→Rel x nt (st.put o.dst v H') a' w'→Kc a' w'):o.wp P a w Kc Q:=by
  obtain ⟨⟨C,hr,he⟩,hdf,hsz⟩:=hrel
  have plain:∀ v H',Zr x C st.heap w ((execOp a.eval o).run P w) v H'→K v H'→o.wp P a w Kc Q:=by
    intro v H' ⟨vv,w',C',h1,h2,h3,h4⟩ hk
    unfold Oper.wp
    rcases h1 with h1 | ⟨h1,rfl⟩ <;> rw [h1]
    · exact hK v H' _ w' hk (zbc hsz hdf h2 he h3 h4 hd)
    · exact hK v H' _ w' hk (zbc hsz hdf h2 he h3 h4 hd)
  have calls:∀ f ps (vs:Array Value) (hot:Nat) r H',(execOp a.eval o).run P w = .ok (.enter f vs) w→zmK (zu x C st.heap w) w C ps vs.toList→zpx P f ps st.heap so hot r H'→K r H'→o.wp P a w Kc Q:=by
    intro f ps vs hot r H' hex hps hc hk
    unfold Oper.wp
    rw [hex,Oper.upon_enter]
    refine (show Calls P f vs w _ from (match hc with | .inl hc=>hc.run hr hps | .inr (.inl hc)=>hc.2.to.run hr hps | .inr (.inr (.inl hc))=>hc.2.to.run hr hps | .inr (.inr (.inr hc))=>hc.2.run hr hps)).mono ?_
    rintro e w' ⟨v,C',rfl,h2,h3,h4⟩
    exact hK r H' _ w' hk (zbc hsz hdf h2 he h3 h4 hd)
  cases lo
  case call f args hot =>
    obtain ⟨r,H',h1,h2⟩:=h
    obtain ⟨as,tys,ho,hb,hargs⟩:=zjc hl
    refine calls f _ (as.map a.eval) hot r H' ?_ (by rw [ybE]; exact zci he hargs) h1 h2
    have:=zha hb (as.map a.eval) w
    simp only [execOp,ho,resolve,Deferred.ofValue,Act.eval,yal,yay,Result.andThen_ok,invoke]
    simpa using this
  case callv X args =>
    obtain ⟨f,pre,caps,hX,hb,r,H',h1,h2⟩:=h
    obtain ⟨Y,as,tys,ho,hY,hargs⟩:=zhq hl
    have hy:=zau (st:=st) he hY
    generalize X.ev st=pX at hX hy
    cases pX <;> simp only [zq5,yae,ybd,reduceCtorEq] at hX
    case clob f' bs =>
      obtain ⟨rfl,rfl,rfl⟩:=hX
      obtain ⟨vs,e1,e2,e3⟩:=hy.clob_inv
      rw [ya6] at h1
      refine calls f' _ (vs.toArray ++ as.map a.eval) 0 r H' ?_ ?_ (.inl h1) h2
      · have:=zha hb (vs.toArray ++ as.map a.eval) w
        simp only [execOp,ho,resolve,Deferred.ofValue,e1,yal,yay,Result.andThen_ok,invoke]
        simpa using this
      · obtain ⟨g1,g2⟩:=zci (st:=st) he hargs
        rw [Array.toList_append,ybE]
        refine ⟨by simp only [yaR]; rw [g1]; simp [e2],fun j p u hj hu=>?_⟩
        by_cases hlt:j < bs.length
        · rw [yaC hlt] at hj
          rw [yaC (by simp [e2]; exact hlt)] at hu
          exact e3 j p u hj (by simpa using hu)
        · rw [yaL (by omega)] at hj
          rw [yaL (by simp [e2]; omega)] at hu
          rw [show (vs.toArray).toList.length=bs.length by simp [e2]] at hu
          exact g2 _ p u hj hu
    obtain ⟨rfl,rfl,rfl⟩:=hX
    rename_i f caps
    rw [yas] at h1
    obtain ⟨vs,e1,e2,e3⟩:=hy.clo_inv
    refine calls f _ (as.map a.eval ++ vs.toArray) 0 r H' ?_ ?_ (.inl h1) h2
    · have:=zha hb (as.map a.eval ++ vs.toArray) w
      simp only [execOp,ho,resolve,Deferred.ofValue,e1,yal,yay,Result.andThen_ok,invoke]
      simpa using this
    · obtain ⟨g1,g2⟩:=zci (st:=st) he hargs
      rw [Array.toList_append,ybE]
      refine ⟨by simp only [yaR]; rw [g1]; simp [e2],fun j p u hj hu=>?_⟩
      by_cases hlt:j < (args.map (LOpd.ev st)).length
      · rw [yaC hlt] at hj
        rw [yaC (by rw [g1]; exact hlt)] at hu
        exact g2 j p u hj hu
      · rw [yaL (by omega)] at hj
        rw [yaL (by rw [g1]; omega),g1] at hu
        exact e3 _ p u hj (by simpa using hu)
  case isnil neg X =>
    obtain ⟨t,e,A,B,u,ho,hu,hA,hB⟩:=zmY hl
    have hX:=zau (st:=st) he hA
    have hB':=zmZ hB he
    have fin:∀ rows,(X.ev st = .nilsl∧rows = []∨X.ev st = .list rows)→(∀ b,(b=true→rows = [])→(X.ev st = .nilsl→b=true)→K (.bool (if neg then !b else b)) st.heap)→o.wp P a w Kc Q:=by
      intro rows hpr hk
      obtain ⟨b,b1,b2,b3⟩:=zxr (P:=P) (neg:=neg) hu hX A B hpr
      refine plain _ _ (Zr.same hr ?_ (.pure (.bool (if neg then !b else b)))) (hk b b1 b2)
      simp only [execOp,ho,hB']
      exact b3
    simp only [WOp] at h
    split at h
    · rename_i hx
      refine fin [] (.inl ⟨hx,rfl⟩) fun b _ hb=>?_
      obtain rfl:=hb hx
      cases neg <;> exact h
    · rename_i rows hx
      exact fin rows (.inr hx) fun b hb _=>h b hb
    · exact h.elim
  all_goals
    obtain ⟨v,H',h1,h2⟩:=h
    exact plain v H' (sim hr he hl h1) h2
end
def LOpd.tmps:LOpd→List Nat
 | .tmp t => [t]
 | .val _ => []
def zj0:Option LOpd→List Nat
 | some x=>x.tmps
 | none => []
def LOp.tmps:LOp→List Nat
 | .mv x | .box x | .load _ _ x | .nilchk x | .isnil _ x | .not x | .neg x | .conv _ x | .b2s x | .addr _ x | .field _ _ _ x | .ext _ x | .len _ x=>x.tmps
 | .pick c a b=>c.tmps ++ a.tmps ++ b.tmps
 | .alloc _ | .mk0 .. | .mk0i .. | .alloci .. => []
 | .build _ parts=>parts.flatMap fun p=>p.2.2.tmps
 | .mks _ _ _ parts | .mksA _ _ _ _ parts=>parts.flatMap fun p=>p.2.tmps
 | .store _ x v=>x.tmps ++ v.tmps
 | .bin _ x y | .binb _ x y | .eqag _ _ x y | .mm _ x y | .append _ _ _ x y | .iaddrA _ _ x y | .iaddrS _ x y | .idxS x y | .idxA _ _ _ x y | .mkn _ _ _ _ x y=>x.tmps ++ y.tmps
 | .clo _ caps=>caps.flatMap LOpd.tmps
 | .clob _ caps=>caps.flatMap LOpd.tmps
 | .slc _ x lo hi=>x.tmps ++ zj0 lo ++ zj0 hi
 | .call _ args _=>args.flatMap LOpd.tmps
 | .callv x args=>x.tmps ++ args.flatMap LOpd.tmps
def LOper.reads (o:LOper):List Nat:=o.op.tmps ++ (match o.guard with | some (t,_) => [t] | none => [])
inductive LC where
 | skip
 | reg (draw:Option (List (Nat × Nat))) (ops:List LOper)
 | regS (sl:List (Nat × Nat × Bool)) (pairs:List (Nat × Nat)) (ops:List LOper)
 | seq (a b:LC)
 | cond (c:LOpd) (a b:LC)
 | block (id:Nat) (b:LC)
 | loop (b:LC)
 | exit (id:Nat)
 | ret
def zF (P:Program) (nt:Nat) (ops:Array Oper):List Oper→Option (List LOper)
 | []=>some []
 | o :: rest=>match Zc P nt ops o,zF P nt ops rest with
  | some l,some r=>some (l :: r)
  | _,_=>none
/-! what an operation does to abstract memory: 0 nothing,1 it reads,2 it writes or makes -/
def LOp.eff:LOp→Nat
 | .alloc _ | .mk0 .. | .mksA .. | .mk0i .. | .alloci .. | .mkn .. | .box _ | .store .. | .append .. | .callv .. | .isnil .. => 2
 | .load .. | .call .. | .len .. | .slc .. | .iaddrS .. | .addr .. | .nilchk _ | .b2s _=>1
 | _=>0
def LOp.kind0:LOp→Bool
 | .load .. | .nilchk _ | .b2s _ | .len .. | .slc .. | .iaddrS .. | .addr .. | .callv .. => true
 | .call _ _ h=>h == 0
 | _=>false
def LOp.isNil:LOp→Bool
 | .isnil .. => true
 | _=>false
/-! regions that draw their order: which operations stand in no order -/
def zcB (ops:Array Oper):List (List Nat):=ops.toList.map fun o=>(o.after.toList.filter (Region.binds .any)).map (·.on)
def zbB:List (List Nat)→List Nat→List Nat
 | [],acc=>acc
 | p :: ps,acc=>zbB ps (acc ++ [p.foldl (fun m e=>(m ||| acc.getD e 0) ||| (1 <<< e)) 0])
def conn (ms:List Nat) (i j:Nat):Bool:=(ms.getD j 0).testBit i
def zhr (d:Option Nat) (l:List Nat):Bool:=match d with
 | some t => !l.contains t
 | none=>true
def zm0 (d e:Option Nat):Bool:=match d with
 | some t=>e == some t
 | none=>false
def zjd (pairs:List (Nat × Nat)) (i j:Nat) (a b:LOper):Bool :=
 zhr b.dst a.reads && zhr a.dst b.reads && !zm0 a.dst b.dst && (a.op.eff == 0 || b.op.eff == 0 || (!a.solo && !b.solo && ((a.op.kind0 && b.op.kind0) || pairs.contains (i,j))))
def zcR (pre:List (List Nat)) (ms:List Nat) (l:List LOper) (pairs:List (Nat × Nat)):Bool :=
 (pre.zipIdx.all fun (es,j)=>es.all fun e=>decide (e < j)) &&
 (pre.zipIdx.all fun (es,j)=>(List.range j).all fun i => !conn ms i j || es.any fun e=>e == i || (decide (i < e) && conn ms i e)) &&
 (l.zipIdx.all fun (a,i) => !a.op.isNil && l.zipIdx.all fun (b,j)=>decide (j < i) || ((a.solo || zhr b.dst a.reads) && (decide (j=i) || conn ms i j || zjd pairs i j a b)))
def zdl (ms:List Nat) (l:List LOper):List LOper :=
 l.zipIdx.map fun (a,i) => { a with solo:=a.op.eff == 0 || l.zipIdx.all fun (b,j)=>i == j || b.op.eff == 0 || conn ms i j || conn ms j i }
def zf7 (ms:List Nat) (l:List LOper):List (Nat × Nat) :=
 l.zipIdx.flatMap fun (b,j)=>(l.take j).zipIdx.filterMap fun (a,i)=>if a.op.eff == 0 || b.op.eff == 0 || conn ms i j || (a.op.kind0 && b.op.kind0) then none else some (i,j)
def Zl (P:Program) (ops:Array Oper) (l:List LOper):Option LC :=
 if zcR (zcB ops) (zbB (zcB ops) []) (zdl (zbB (zcB ops) []) l) (zf7 (zbB (zcB ops) []) l)=true∧P.follows .mixedOrders=true then
  some (.reg (some (zf7 (zbB (zcB ops) []) l)) (zdl (zbB (zcB ops) []) l)) else none
def zzu:Option LOper→Bool
 | some ⟨_,.mk0 ..,_,_⟩=>true
 | _=>false
def zzv:Option LOper→Bool
 | some ⟨_,.mk0 ..,_,_⟩ | some ⟨_,.alloc _,_,_⟩ | some ⟨_,.mkn ..,_,_⟩ | some ⟨_,.mksA ..,_,_⟩ | some ⟨_,.box _,_,_⟩ | some ⟨_,.call _ _ 2,_,_⟩=>true
 | _=>false
def zCz (ops:Array Oper) (l:List LOper):Bool:=(zf7 (zbB (zcB ops) []) l).any fun p=>(zzu l[p.1]? && zzv l[p.2]?) || (zzv l[p.1]? && zzu l[p.2]?)
def zD8:Option LOper→Bool
 | some ⟨_,.alloc _,_,_⟩=>true
 | _=>false
def ztQ (ops:Array Oper) (l:List LOper):Bool:=(zf7 (zbB (zcB ops) []) l).any fun p=>zD8 l[p.1]? && zD8 l[p.2]?
def zlh:Option Op→Nat
 | some (.alloc e)=>e
 | _=>0
def zq6 (al:Bool) (T0 k:Nat):LOp→LOp
 | .mk0 T sz => .mk0i T sz k
 | .alloc zs=>if al then .alloci T0 k zs else .alloc zs
 | o=>o
def ztR (al:Bool) (k:Nat):LOp→Nat
 | .mk0 .. => k + 1
 | .alloc _=>if al then k + 1 else k
 | _=>k
def zbQ (al:Bool):Nat→List Oper→List LOper→List LOper
 | _,_,[] => []
 | k,os,o :: l => { o with op:=zq6 al (zlh (os[0]?.map (·.op))) k o.op } :: zbQ al (ztR al k o.op) (os.drop 1) l
def zhs (al:Bool):List Oper→List LOper→List (Nat × Nat × Bool)
 | _,[] => []
 | os,o :: l=>match o.op with
  | .mk0 T sz=>(T,sz,false) :: zhs al (os.drop 1) l
  | .alloc zs=>if al then (zlh (os[0]?.map (·.op)),zs.length,true) :: zhs al (os.drop 1) l else zhs al (os.drop 1) l
  | _=>zhs al (os.drop 1) l
def Za (P:Program) (al:Bool) (ops:Array Oper) (l:List LOper):Option LC :=
 if zcR (zcB ops) (zbB (zcB ops) []) (zdl (zbB (zcB ops) []) (zbQ al 0 ops.toList l)) (zf7 (zbB (zcB ops) []) (zbQ al 0 ops.toList l))=true∧P.follows .mixedOrders=true∧(zhs al ops.toList l).all (fun p=>decide (0 < p.2.1))=true then
  some (.regS (zhs al ops.toList l) (zf7 (zbB (zcB ops) []) (zbQ al 0 ops.toList l)) (zdl (zbB (zcB ops) []) (zbQ al 0 ops.toList l))) else none
def zq (P:Program) (nt:Nat):Code→Option LC
 | .skip=>some .skip
 | .region _ ops draw=>match zF P nt ops ops.toList with
  | some l=>if draw then (if (zCz ops l || ztQ ops l)=true then Za P (ztQ ops l) ops l else Zl P ops l) else some (.reg none l)
  | none=>none
 | .seq a b=>match zq P nt a,zq P nt b with
  | some la,some lb=>some (.seq la lb)
  | _,_=>none
 | .cond c a b=>match zaK c,zq P nt a,zq P nt b with
  | some lc,some la,some lb=>some (.cond lc la lb)
  | _,_,_=>none
 | .block id b=>(zq P nt b).map (.block id)
 | .loop b=>(zq P nt b).map .loop
 | .exit id=>some (.exit id)
 | .ret=>some .ret
 | _=>none
inductive AE where
 | normal
 | exit (id:Nat)
 | ret
def zbV (x:Cx) (nt:Nat) (Q:AE→St→Prop):Exit→Act→World→Prop
 | .normal,a,w=>∃ st,Q .normal st∧Rel x nt st a w
 | .exit id,a,w=>∃ st,Q (.exit id) st∧Rel x nt st a w
 | .ret,a,w=>∃ st,Q .ret st∧Rel x nt st a w
 | _,_,_=>False
def W (P:Program) (x:Cx) (nt:Nat) (lc:LC) (Q:AE→St→Prop) (st:St):Prop :=
 ∀ c,zq P nt c=some lc→∀ a w,Rel x nt st a w→c.wp P (zbV x nt Q) a w
def zeU (K:St→Prop) (Q:AE→St→Prop):AE→St→Prop
 | .normal,st=>K st
 | e,st=>Q e st
def zdB (id:Nat) (Q:AE→St→Prop):AE→St→Prop
 | .exit id',st=>if id'=id then Q .normal st else Q (.exit id') st
 | e,st=>Q e st
section
variable {P:Program} {x:Cx} {nt:Nat} {st:St}
theorem Zq.wp {ops : Array Oper} {K : St → Prop} {Q : Exit → Act → World → Prop} (hK : ∀ st a w, K st → Rel x nt st a w → Q .normal a w) : ∀ (l : List Oper) (lops : List LOper) (st : St) (a : Act) (w : World),
    zF P nt ops l=some lops→Zq P lops K st→Rel x nt st a w→wpList P ops Q l a w
  | [],lops,st,a,w,hl,h,hrel=>by
    simp only [zF,yae] at hl; subst hl
    exact hK st a w h hrel
  | o :: l,lops,st,a,w,hl,h,hrel=>by
    simp only [zF] at hl
    split at hl <;> try (cases hl; done)
    rename_i lo r h1 h2
    cases hl
    unfold Zc at h1
    split at h1 <;> try (cases h1; done)
    rename_i lop hop
    split at h1 <;> try (cases h1; done)
    rename_i hd
    have hd':∀ t,o.dst=some t→t < nt:=by
      intro t e
      rw [e] at hd
      simpa [zmR] using hd
    have skip:Region.wanted o (yielded ops a.tmps)=false→Zq P r K (st.put o.dst .undef st.heap)→wpList P ops Q (o :: l) a w:=by
      intro hw hr
      unfold wpList
      rw [if_neg (by simp [hw])]
      refine Zq.wp hK l r _ _ w h2 hr ?_
      obtain ⟨⟨C,hr1,he⟩,hdf,hsz⟩:=hrel
      exact zbc hsz hdf hr1 he (fun _ _ h=>h) .undef hd'
    have take:Region.wanted o (yielded ops a.tmps)=true→WOp P true lop st (fun v H=>Zq P r K (st.put o.dst v H))→wpList P ops Q (o :: l) a w:=by
      intro hw hr
      unfold wpList
      rw [if_pos hw]
      exact .inl (hr.wp hop hd' hrel fun v H' a' w' hk hrel'=>Zq.wp hK l r _ a' w' h2 hk hrel')
    split at h1
    · rename_i hg
      cases h1
      simp only [Zq] at h
      exact take (by simp [Region.wanted,hg]) h
    · rename_i j want hg
      split at h1 <;> try (cases h1; done)
      rename_i t ht
      split at h1 <;> try (cases h1; done)
      rename_i htn
      cases h1
      simp only [Zq] at h
      obtain ⟨⟨C,hr1,he⟩,hdf,hsz⟩:=hrel
      have hy:yielded ops a.tmps j=match a.tmps.getD t Go.undef with | .bool b=>some b | _=>none:=by
        unfold yielded
        rw [ht]
        have:t < a.tmps.size:=by rw [hsz]; exact htn
        have e:a.tmps[t]? = some (a.tmps.getD t Go.undef):=by simp [this]
        simp only [Option.bind_some,e]
        cases a.tmps.getD t Go.undef <;> rfl
      have het:=he t
      split at h
      · rename_i b hb
        rw [hb] at het
        rw [het.bool_inv] at hy
        have hwd:Region.wanted o (yielded ops a.tmps)=(b == want):=by
          simp only [Region.wanted,hg,hy]
          cases b <;> cases want <;> rfl
        split at h
        · rename_i e; exact take (by rw [hwd,e]; simp) h
        · rename_i e; exact skip (by rw [hwd]; simpa using e) h
      · rename_i hb
        rw [hb] at het
        rw [het.undef_inv] at hy
        exact skip (by simp only [Region.wanted,hg,hy]; rfl) h
      · exact h.elim
theorem zht {Q Q':AE→St→Prop} (h:∀ e st,Q e st→Q' e st):∀ e a w,zbV x nt Q e a w→zbV x nt Q' e a w:=by
 intro e a w hq
 cases e <;> first | exact hq.elim | (obtain ⟨st,h1,h2⟩:=hq; exact ⟨st,h _ _ h1,h2⟩)
theorem W.mono {lc:LC} {Q Q':AE→St→Prop} (h:W P x nt lc Q st) (hq:∀ e st,Q e st→Q' e st):W P x nt lc Q' st :=
 fun c hc a w hrel=>wp_mono (h c hc a w hrel) (zht hq)
theorem zzw {Q:AE→St→Prop} (h:Q .normal st):W P x nt .skip Q st:=by
 intro c hc a w hrel
 cases c <;> simp only [zq,reduceCtorEq] at hc
 case skip=>exact wp_skip ⟨st,h,hrel⟩
 all_goals (repeat' (split at hc)) <;> first | (cases hc; done) | (unfold Zl at hc; split at hc <;> cases hc; done) | (unfold Za at hc; split at hc <;> cases hc; done) | (obtain ⟨_,e⟩:=zE hc; cases e; done)
theorem zCA {Q:AE→St→Prop} (h:Q .ret st):W P x nt .ret Q st:=by
 intro c hc a w hrel
 cases c <;> simp only [zq,reduceCtorEq] at hc
 case ret=>exact wp_ret ⟨st,h,hrel⟩
 all_goals (repeat' (split at hc)) <;> first | (cases hc; done) | (unfold Zl at hc; split at hc <;> cases hc; done) | (unfold Za at hc; split at hc <;> cases hc; done) | (obtain ⟨_,e⟩:=zE hc; cases e; done)
theorem zzx {id:Nat} {Q:AE→St→Prop} (h:Q (.exit id) st):W P x nt (.exit id) Q st:=by
 intro c hc a w hrel
 cases c <;> simp only [zq,reduceCtorEq] at hc
 case exit i=>cases hc; exact wp_exit ⟨st,h,hrel⟩
 all_goals (repeat' (split at hc)) <;> first | (cases hc; done) | (unfold Zl at hc; split at hc <;> cases hc; done) | (unfold Za at hc; split at hc <;> cases hc; done) | (obtain ⟨_,e⟩:=zE hc; cases e; done)
theorem zpy {la lb:LC} {Q:AE→St→Prop} (h:W P x nt la (zeU (W P x nt lb Q) Q) st):W P x nt (.seq la lb) Q st:=by
 intro c hc a w hrel
 cases c <;> simp only [zq,reduceCtorEq] at hc
 case seq c1 c2 =>
  split at hc <;> try (cases hc; done)
  rename_i h1 h2
  cases hc
  refine wp_seq (wp_mono (h c1 h1 a w hrel) fun e a' w' hq=>?_)
  cases e with
  | normal=>obtain ⟨st',g1,g2⟩:=hq; exact g1 c2 h2 a' w' g2
  | exit id=>exact hq
  | ret=>exact hq
  | goto l=>exact hq.elim
  | panic ch=>exact hq.elim
  | outgrown=>exact hq.elim
 all_goals (repeat' (split at hc)) <;> first | (cases hc; done) | (unfold Zl at hc; split at hc <;> cases hc; done) | (unfold Za at hc; split at hc <;> cases hc; done) | (obtain ⟨_,e⟩:=zE hc; cases e; done)
theorem zzy {lc:LOpd} {la lb:LC} {Q:AE→St→Prop} {b:Bool} (hb:lc.ev st = .bool b) (h1:b=true→W P x nt la Q st) (h2:b=false→W P x nt lb Q st):W P x nt (.cond lc la lb) Q st:=by
 intro c hc a w hrel
 cases c <;> simp only [zq,reduceCtorEq] at hc
 case cond c0 c1 c2 =>
  split at hc <;> try (cases hc; done)
  rename_i g0 g1 g2
  cases hc
  obtain ⟨⟨C,hr1,he⟩,hdf,hsz⟩:=hrel
  have:=zau (st:=st) he g0
  rw [hb] at this
  refine wp_cond this.bool_inv ?_
  cases b with
  | true=>exact h1 rfl c1 g1 a w ⟨⟨C,hr1,he⟩,hdf,hsz⟩
  | false=>exact h2 rfl c2 g2 a w ⟨⟨C,hr1,he⟩,hdf,hsz⟩
 all_goals (repeat' (split at hc)) <;> first | (cases hc; done) | (unfold Zl at hc; split at hc <;> cases hc; done) | (unfold Za at hc; split at hc <;> cases hc; done) | (obtain ⟨_,e⟩:=zE hc; cases e; done)
theorem zm1 {id:Nat} {lb:LC} {Q:AE→St→Prop} (h:W P x nt lb (zdB id Q) st):W P x nt (.block id lb) Q st:=by
 intro c hc a w hrel
 cases c <;> simp only [zq,reduceCtorEq] at hc
 case block i c1 =>
  obtain ⟨l,h1,e⟩:=yad.1 hc
  cases e
  refine wp_block (wp_mono (h c1 h1 a w hrel) fun e a' w' hq=>?_)
  cases e with
  | normal=>exact hq
  | exit id' =>
   obtain ⟨st',g1,g2⟩:=hq
   simp only [zdB] at g1
   simp only [Exit.inBlock]
   split
   ·
    rename_i e; rw [if_pos e] at g1; exact ⟨st',g1,g2⟩
   ·
    rename_i e; rw [if_neg e] at g1; exact ⟨st',g1,g2⟩
  | ret=>exact hq
  | goto l=>exact hq.elim
  | panic ch=>exact hq.elim
  | outgrown=>exact hq.elim
 all_goals (repeat' (split at hc)) <;> first | (cases hc; done) | (unfold Zl at hc; split at hc <;> cases hc; done) | (unfold Za at hc; split at hc <;> cases hc; done) | (obtain ⟨_,e⟩:=zE hc; cases e; done)
theorem zol {lb:LC} {Q:AE→St→Prop} (I:Nat→St→Prop) (n:Nat) (h0:I n st) (hstep:∀ n st,I n st→W P x nt lb (zeU (fun st'=>∃ n',n' < n∧I n' st') Q) st):W P x nt (.loop lb) Q st:=by
 intro c hc a w hrel
 cases c <;> simp only [zq,reduceCtorEq] at hc
 case loop c1 =>
  obtain ⟨l,h1,e⟩:=yad.1 hc
  cases e
  have key:∀ (m n:Nat) st a w,n < m→I n st→Rel x nt st a w→Code.rounds P c1 (zbV x nt Q) m a w:=by
   intro m
   induction m with
   | zero=>intro n st a w h; omega
   | succ m ih =>
    intro n st a w hlt hi hrel
    rw [rounds_succ]
    refine wp_mono (hstep n st hi c1 h1 a w hrel) fun e a' w' hq=>?_
    cases e with
    | normal=>obtain ⟨st',⟨n',g1,g2⟩,g3⟩:=hq; exact ih n' st' a' w' (by omega) g2 g3
    | exit id=>exact hq
    | ret=>exact hq
    | goto l=>exact hq.elim
    | panic ch=>exact hq.elim
    | outgrown=>exact hq.elim
  exact wp_loop_rounds (n + 1) (key (n + 1) n st a w (by omega) h0 hrel)
 all_goals (repeat' (split at hc)) <;> first | (cases hc; done) | (unfold Zl at hc; split at hc <;> cases hc; done) | (unfold Za at hc; split at hc <;> cases hc; done) | (obtain ⟨_,e⟩:=zE hc; cases e; done)
theorem zcF {lc:LC} {Q:AE→St→Prop} {st':St} (hle:∀ a w,Rel x nt st a w→Rel x nt st' a w) (h:W P x nt lc Q st'):W P x nt lc Q st :=
 fun c hc a w hrel=>h c hc a w (hle a w hrel)
def St.trim (st:St) (live:List Nat) (m:Nat):St :=
 ⟨fun t=>if t ∈ live then zdA false (pos (List.range m)) (zt true st.heap) (st.env t) else .top,ze (pos (List.range m)) (zt true st.heap) st.heap (List.range m)⟩
theorem zfh {a:Act} {w:World} (live:List Nat) {m:Nat} (h1:x.H0.length≤m) (h2:m≤st.heap.length) (hrel:Rel x nt st a w):Rel x nt (st.trim live m) a w:=by
 obtain ⟨⟨C,hr,he⟩,hdf,hsz⟩:=hrel
 obtain ⟨k1,k2⟩:=hr.restrict (ks:=List.range m) ybS (fun k hk=>by have:=yaW.1 hk; omega) (fun i hi=>by rw [ya0 (by omega)])
 refine ⟨⟨_,k1,fun t=>?_⟩,hdf,hsz⟩
 simp only [St.trim]
 split
 ·
  exact zcE k2 (he t)
 ·
  exact .any
inductive LRes where
 | tmp (t:Nat)
 | cell (t n:Nat) (ag:Bool)
def ZC (P:Program):List ResultVar→Option (List LRes)
 | []=>some []
 | .tmp t :: r=>(ZC P r).map (.tmp t :: ·)
 | .cell t T :: r=>match zaO P T,zeD P T,ZC P r with
  | some n,some ag,some l=>if ag=true∨n=1 then some (.cell t n ag :: l) else none
  | _,_,_=>none
def zat (st:St):List LRes→Option (List PV)
 | []=>some []
 | .tmp t :: r=>(zat st r).map (st.env t :: ·)
 | .cell t n ag :: r=>match (zbO st.heap (st.env t) n).bind (zk6 ag),zat st r with
  | some v,some l=>some (v :: l)
  | _,_=>none
def zeV:List PV→PV
 | [v]=>v
 | vs => .tup vs
def zbW (tmps:Array Value):ResultVar→Sem Value
 | .tmp t=>pure (tmps.getD t Go.undef)
 | .cell b t=>do loadVar t (← asAddr (tmps.getD b Go.undef))
theorem zay {C : Conc} {a : Act} {w : World} (hr : HR x C st.heap w) (he : ∀ t, RepV (zu x C st.heap w) w C (st.env t) (a.tmps.getD t Go.undef)) : ∀ {rs : List ResultVar} {lrs : List LRes} {ps : List PV}, ZC P rs = some lrs → zat st lrs = some ps →
    ∃ vs:List Value,(rs.mapM (zbW a.tmps)).run P w = .ok vs w∧zmK (zu x C st.heap w) w C ps vs
  | [],lrs,ps,h1,h2=>by
    simp only [ZC,yae] at h1; subst h1
    simp only [zat,yae] at h2; subst h2
    exact ⟨[],by simp,rfl,fun j p v hj=>by simp at hj⟩
  | .tmp t :: rs,lrs,ps,h1,h2=>by
    simp only [ZC] at h1
    obtain ⟨l,g1,rfl⟩:=yad.1 h1
    simp only [zat] at h2
    obtain ⟨q,g2,rfl⟩:=yad.1 h2
    obtain ⟨vs,k1,k2,k3⟩:=zay hr he g1 g2
    refine ⟨a.tmps.getD t Go.undef :: vs,?_,by simp [k2],fun j p v hj hv=>?_⟩
    · rw [List.mapM_cons]
      simp only [yal,yay,Result.andThen_ok,zbW,k1]
    · cases j with
      | zero =>
        simp only [ya8,yae] at hj hv
        subst hj; subst hv; exact he t
      | succ j=>exact k3 j p v (by simpa using hj) (by simpa using hv)
  | .cell b t :: rs,lrs,ps,h1,h2=>by
    simp only [ZC] at h1
    split at h1 <;> try (cases h1; done)
    rename_i n ag l hn hag g1
    split at h1 <;> try (cases h1; done)
    rename_i hone
    cases h1
    simp only [zat] at h2
    split at h2 <;> try (cases h2; done)
    rename_i v q hv g2
    cases h2
    obtain ⟨vs,k1,k2,k3⟩:=zay hr he g1 g2
    obtain ⟨b',o,vv,e0,e1,e2⟩:=zof (P:=P) hr (he b) hn hag hone hv
    refine ⟨vv :: vs,?_,by simp [k2],fun j p u hj hu=>?_⟩
    · rw [List.mapM_cons]
      simp only [yal,yay,Result.andThen_ok,zbW,e0,asAddr,e1,k1]
    · cases j with
      | zero =>
        simp only [ya8,yae] at hj hu
        subst hj; subst hu; exact e2
      | succ j=>exact k3 j p u (by simpa using hj) (by simpa using hu)
theorem zc1 {S:Nat→Nat→Prop} {C:Conc} {w:World} {ps:List PV} {vs:List Value} (h:zmK S w C ps vs):RepV S w C (zeV ps) (if h:vs.toArray.size=1 then vs.toArray[0] else .tuple vs.toArray):=by
 obtain ⟨h1,h2⟩:=h
 match ps,vs,h1 with
 | [],[],_=>exact .tup [] [] rfl fun j p u hj=>by simp at hj
 | [p],[v],_=>exact h2 0 p v rfl rfl
 | p :: q :: r,u :: v :: t,h1 =>
  have:=RepV.tup (S:=S) (w:=w) (C:=C) (p :: q :: r) (u :: v :: t) h1 h2
  simpa [zeV] using this
def St.init (args:List PV) (H:List AObj):St:=⟨fun t=>args.getD t .undef,H⟩
def zzk (x:Cx) (lrs:List LRes) (keep:List Nat) (r:PV) (Hs':List AObj) (st:St):Prop :=
 ∃ ps,zat st lrs=some ps∧keep.Nodup∧(∀ k ∈ keep,x.H0.length≤k∧k < st.heap.length)∧x.H0.length≤st.heap.length ∧
  r=zdA true (pos (List.range x.H0.length ++ keep)) (zt true st.heap) (zeV ps)∧Hs'=ze (pos (List.range x.H0.length ++ keep)) (zt true st.heap) st.heap (List.range x.H0.length ++ keep)
def za3 (x:Cx) (nt:Nat) (st st':St):Prop:=∀ a w,Rel x nt st a w→Rel x nt st' a w
theorem za3.refl (x:Cx) (nt:Nat) (st:St):za3 x nt st st:=fun _ _ h=>h
theorem za3.trans {x:Cx} {nt:Nat} {s1 s2 s3:St} (h:za3 x nt s1 s2) (h2:za3 x nt s2 s3):za3 x nt s1 s3:=fun a w hr=>h2 a w (h a w hr)
def zli (x:Cx) (nt:Nat) (lrs:List LRes) (r:PV) (Hs':List AObj):AE→St→Prop
 | .normal,st=>∃ st' keep,za3 x nt st st'∧zzk x lrs keep r Hs' st'
 | .ret,st=>∃ st' keep,za3 x nt st st'∧zzk x lrs keep r Hs' st'
 | .exit _,_=>False
theorem zg.of {f : Nat} {fn : Func} {lc : LC} {lrs : List LRes} {args : List PV} {Hs Hs' : List AObj} {r : PV} {nt : Nat} (hf : P.funcs[f]? = some fn) (hnt : fn.ntmps = nt) (hlc : (fn.body.bind (zq P nt)) = some lc) (hres : ZC P fn.results.toList = some lrs)
    (hargs:args.length≤nt)
    (h:∀ x:Cx,x.H0=Hs→W P x nt lc (zli x nt lrs r Hs') (St.init args Hs)):zg P f args Hs r Hs':=by
  intro x vs hx hr hp
  obtain ⟨c,hb,hlc⟩:=ybo.1 hlc
  have hvl:vs.size=args.length:=by have:=hp.1; simpa using this
  refine calls_of_wp hf hb ?_
  have hrel:Rel x nt (St.init args Hs) { tmps:=vs ++ Array.replicate (fn.ntmps - vs.size) Go.undef,defers := [] } x.w0:=by
    refine ⟨⟨x.C0,hr,fun t=>?_⟩,rfl,by simp; omega⟩
    simp only [St.init]
    by_cases ht:t < args.length
    · have e1:args[t]? = some args[t]:=yac ht
      have e2:vs.toList[t]? = some vs[t]:=by simp [ht,hvl]
      have:=hp.2 t _ _ e1 e2
      simp only [List.getD,e1,ybA]
      rw [show (vs ++ Array.replicate (fn.ntmps - vs.size) Go.undef).getD t Go.undef=vs[t] by
        simp [Array.getD,Array.getElem_append,hvl,ht]; omega]
      exact this
    · simp only [List.getD,ybq (by omega:args.length≤t),Option.getD_none]
      rw [show (vs ++ Array.replicate (fn.ntmps - vs.size) Go.undef).getD t Go.undef=Go.undef by
        simp only [Array.getD]
        split
        · rw [ybT,Array.getElem_append_right (by omega)]; simp
        · rfl]
      exact .undef
  have fin:∀ st a w,(∃ st' keep,za3 x nt st st'∧zzk x lrs keep r Hs' st')→Rel x nt st a w→a.defers = []∧∃ v,(results fn a.tmps).run P w = .ok v w∧∃ v1 C',Ending.returned v = .returned v1∧HR x C' Hs' w∧RepV (zu x C' Hs' w) w C' r v1:=by
    intro st a w ⟨st',keep,hwk,ps,h1,h2,h3,h4,h5,h6⟩ hrel
    replace hrel:=hwk a w hrel
    obtain ⟨⟨C,hr1,he⟩,hdf,hsz⟩:=hrel
    obtain ⟨us,k1,k2⟩:=zay hr1 he hres h1
    refine ⟨hdf,if h:us.toArray.size=1 then us.toArray[0] else .tuple us.toArray,?_,if h:us.toArray.size=1 then us.toArray[0] else .tuple us.toArray,C.sub (List.range x.H0.length ++ keep),rfl,?_⟩
    · have hm:(fn.results.mapM (zbW a.tmps)).run P w = .ok us.toArray w:=by
        rw [ybz]
        simp [k1]
      have hq:results fn a.tmps=(do let vs ← fn.results.mapM (zbW a.tmps); pure (if h:vs.size=1 then vs[0] else .tuple vs)):=rfl
      rw [hq,yal,hm,Result.andThen_ok,yay]
    · have hlen:(List.range x.H0.length ++ keep).Nodup:=by
        refine List.nodup_append.2 ⟨ybS,h2,fun a ha b hb e=>?_⟩
        have:=yaW.1 ha
        have:=(h3 b hb).1
        omega
      obtain ⟨q1, q2⟩ := hr1.restrict (ks := List.range x.H0.length ++ keep) hlen (fun k hk => by
          rcases yai.1 hk with h | h
          · have:=yaW.1 h; omega
          · exact (h3 k h).2) (fun i hi=>by rw [yaC (by simpa using hi),ya0 hi])
      subst h5
      subst h6
      exact ⟨q1,zcE q2 (zc1 k2)⟩
  refine wp_mono (h x hx c (by rw [hnt] at *; exact hlc) _ _ hrel) fun e a w hq=>?_
  cases e with
  | normal=>obtain ⟨st,g1,g2⟩:=hq; exact fin st a w g1 g2
  | ret=>obtain ⟨st,g1,g2⟩:=hq; exact fin st a w g1 g2
  | exit id=>obtain ⟨st,g1,g2⟩:=hq; exact g1.elim
  | goto l=>exact hq.elim
  | panic ch=>exact hq.elim
  | outgrown=>exact hq.elim
end
def zom:PV→List Nat
 | .clo _ cs=>cs.flatMap Z8
 | .clob _ cs=>cs.flatMap Z8
 | _ => []
inductive Ef where
 | none
 | set (id:Nat) (ob:AObj)
 | push (ob:AObj)
 | all (H:List AObj)
def Ef.apply:Ef→List AObj→List AObj
 | .none,H=>H
 | .set id ob,H=>H.set id ob
 | .push ob,H=>H ++ [ob]
 | .all H',_=>H'
def Ef.kind:Ef→Nat
 | .none=>0
 | .set .. => 1
 | .push _=>2
 | .all _=>3
def LOp.foot (s:St):LOp→List Nat
 | .load _ _ x | .nilchk x | .b2s x | .addr _ x | .len _ x | .slc _ x _ _ | .iaddrS _ x _=>Z8 (x.ev s)
 | .store _ x v=>Z8 (x.ev s) ++ Z8 (v.ev s)
 | .append _ _ _ x y=>Z8 (x.ev s) ++ Z8 (y.ev s)
 | .call _ args _=>args.flatMap fun x=>Z8 (x.ev s)
 | .callv x args=>zom (x.ev s) ++ args.flatMap fun x=>Z8 (x.ev s)
 | .mk0i _ _ id => [id]
 | .alloci _ id _ => [id]
 | _ => []
def LOp.kind (s:St):LOp→Nat
 | .alloc _ | .box _ | .mk0 .. | .mkn .. | .mksA .. => 2
 | .store .. | .mk0i .. | .alloci .. => 1
 | .call _ _ h=>h
 | .append _ _ _ x _=>match x.ev s with | .nilsl=>2 | _=>1
 | _=>0
theorem Zd {s1 s2:St} {x:LOpd} (h:∀ t ∈ x.tmps,s1.env t=s2.env t):x.ev s1=x.ev s2:=by
 cases x with
 | tmp t=>exact h t (by simp [LOpd.tmps])
 | val p=>rfl
theorem zq7 {s1 s2:St}:∀ (parts:List (Nat × Nat × LOpd)) (zs:List PV),(∀ t ∈ parts.flatMap (fun p=>p.2.2.tmps),s1.env t=s2.env t)→zgP s1 parts zs=zgP s2 parts zs
 | [],_,_=>rfl
 | (off,n,x) :: parts,zs,h=>by
  simp only [zgP]
  rw [Zd (s1:=s1) (s2:=s2) (x:=x) fun t ht=>h t (by simp [ht])]
  split
  ·
   split
   ·
    exact zq7 parts _ fun t ht=>h t (by simp only [ybx,yai]; exact .inr ht)
   ·
    rfl
  ·
   rfl
theorem zj1 {s1 s2:St} {sz:Nat}:∀ (parts:List (Nat × LOpd)) (zs:List (List PV)),(∀ t ∈ parts.flatMap (fun p=>p.2.tmps),s1.env t=s2.env t)→za0 s1 sz parts zs=za0 s2 sz parts zs
 | [],_,_=>rfl
 | (i,x) :: parts,zs,h=>by
  simp only [za0]
  rw [Zd (s1:=s1) (s2:=s2) (x:=x) fun t ht=>h t (by simp [ht])]
  split
  ·
   split
   ·
    exact zj1 parts _ fun t ht=>h t (by simp only [ybx,yai]; exact .inr ht)
   ·
    rfl
  ·
   rfl
def zfi (H H2:List AObj) (ids:List Nat):Prop:=∀ id ∈ ids,H2[id]? = H[id]?
theorem zxs {H H2:List AObj} {p:PV} {n:Nat} (h:zfi H H2 (Z8 p)):zbO H2 p n=zbO H p n:=by
 cases p <;> try rfl
 ·
  simp only [zbO]; rw [h _ (by simp [Z8,ZQ,Z2])]
 ·
  simp only [zbO]; rw [h _ (by simp [Z8,ZQ,Z2])]
theorem zhu {H H2:List AObj} {p:PV} (h:zfi H H2 (Z8 p)):zcC H2 p=zcC H p:=by
 cases p <;> try rfl
 simp only [zcC]; rw [h _ (by simp [Z8,ZQ,Z2])]
theorem ztS {H H2:List AObj} {p:PV} (h:zfi H H2 (Z8 p)):zcQ H2 p=zcQ H p:=by
 cases p <;> try rfl
 simp only [zcQ]; rw [h _ (by simp [Z8,ZQ,Z2])]
theorem ztT {H H2:List AObj} {p:PV} (h:zfi H H2 (ZQ p)):frz H2 p=frz H p:=by
 cases p <;> try rfl
 simp only [frz]; rw [h _ (by simp [ZQ,Z2])]
theorem zfi.sub {H H2:List AObj} {a b:List Nat} (h:zfi H H2 b) (hs:∀ x ∈ a,x ∈ b):zfi H H2 a:=fun id hid=>h id (hs id hid)
theorem zlj {H H2:List AObj} {l:List PV} (h:zfi H H2 (l.flatMap ZQ)):l.map (frz H2)=l.map (frz H) :=
 yaU fun p hp=>ztT (h.sub fun x hx=>ya5.2 ⟨p,hp,hx⟩)
def Loc (s:St) (o:LOp) (v:PV) (H':List AObj):Prop :=
 ∃ ef:Ef,H'=ef.apply s.heap∧ef.kind=o.kind s∧(∀ id ob,ef = .set id ob→id ∈ o.foot s) ∧
  ∀ s2:St,(∀ t ∈ o.tmps,s2.env t=s.env t)→zfi s.heap s2.heap (o.foot s)→(ef.kind=2→s2.heap.length=s.heap.length)→zo s2 o=some (v,ef.apply s2.heap)
theorem Zb {s : St} {o : LOp} {v : PV} {H' : List AObj} (g : St → Option PV) (hg : ∀ s, zo s o = (g s).map fun v => (v, s.heap)) (h : zo s o = some (v, H')) 
    (hs:∀ s2:St,(∀ t ∈ o.tmps,s2.env t=s.env t)→zfi s.heap s2.heap (o.foot s)→g s2=g s) (hk:o.kind s=0:=by rfl):Loc s o v H':=by
  rw [hg] at h
  obtain ⟨v',h1,h2⟩:=yad.1 h
  cases h2
  refine ⟨.none,rfl,hk.symm,(fun id ob e=>by cases e),fun s2 he hh _=>?_⟩
  rw [hg,hs s2 he hh,h1]; rfl
def zhv:PV→Option Int
 | .int .i64 n=>some n
 | _=>none
theorem zb2 {s:St} {x:LOpd}:zdI s x=zhv (x.ev s):=by
 unfold zdI zhv
 cases x.ev s <;> rfl
theorem zj2 {s:St} {o:LOp} {v:PV} {H':List AObj} (h:zo s o=some (v,H')):Loc s o v H':=by
  cases o with
  | mv x=>exact Zb (fun s=>some (x.ev s)) (fun s=>rfl) h fun s2 he _=>by rw [Zd he]
  | pick c a b =>
    refine Zb (fun s=>match c.ev s with | .bool t=>some (if t then a.ev s else b.ev s) | _=>none) (fun s=>?_) h fun s2 he _=>?_
    · simp only [zo]; cases c.ev s <;> rfl
    · rw [Zd (x:=c) fun t ht=>he t (by simp [LOp.tmps,ht]),Zd (x:=a) fun t ht=>he t (by simp [LOp.tmps,ht]),Zd (x:=b) fun t ht=>he t (by simp [LOp.tmps,ht])]
  | alloc zs =>
    simp only [zo,yae,ybd] at h
    obtain ⟨rfl,rfl⟩:=h
    exact ⟨.push (.box zs),rfl,rfl,(fun id ob e=>by cases e),fun s2 _ _ hl=>by simp only [zo,hl rfl]; rfl⟩
  | box x =>
    simp only [zo] at h
    split at h <;> try (cases h; done)
    rename_i cs hc
    cases h
    exact ⟨.push (.box cs),rfl,rfl,(fun id ob e=>by cases e),fun s2 he _ hl=>by simp only [zo,Zd (x:=x) he,hc,hl rfl]; rfl⟩
  | build zs parts=>exact Zb (fun s=>(zgP s parts zs).map .agg) (fun s=>by simp only [zo]; cases zgP s parts zs <;> rfl) h fun s2 he _=>by rw [zq7 parts zs he]
  | mks sz zs n parts =>
    exact Zb (fun s=>(za0 s sz parts (List.replicate n zs)).map fun rows=>if rows.all (fun row=>row.all PV.isPure) then .list rows else .vlist rows) (fun s=>by simp only [zo]; cases za0 s sz parts (List.replicate n zs) <;> rfl) h
      fun s2 he _=>by rw [zj1 parts _ he]
  | mksA T sz zs n parts =>
    simp only [zo] at h
    split at h <;> try (cases h; done)
    rename_i rows hrows
    split at h <;> try (cases h; done)
    rename_i hpu
    cases h
    refine ⟨.push (.arr 0 true false T sz rows),rfl,rfl,(fun id ob e=>by cases e),fun s2 he _ hl=>?_⟩
    have e1:za0 s2 sz parts (List.replicate n zs)=some rows:=by rw [zj1 parts _ he]; exact hrows
    simp only [zo,e1,hl rfl]
    rw [if_pos hpu]
    rfl
  | mk0 T sz =>
    simp only [zo,yae,ybd] at h
    obtain ⟨rfl,rfl⟩:=h
    exact ⟨.push (.arr 0 true false T sz []),rfl,rfl,(fun id ob e=>by cases e),fun s2 _ _ hl=>by simp only [zo,hl rfl]; rfl⟩
  | mk0i T sz id =>
    simp only [zo] at h
    split at h <;> try (cases h; done)
    rename_i v' T' sz' hid
    split at h <;> try (cases h; done)
    rename_i hc
    obtain ⟨rfl,rfl⟩:=hc
    cases h
    refine ⟨.set id _,rfl,rfl,fun id' ob' e=>by cases e; simp [LOp.foot],fun s2 he hs _=>?_⟩
    have hid2:s2.heap[id]? = some (.arr v' true false T' sz' []):=by rw [hs id (by simp [LOp.foot])]; exact hid
    simp [zo,hid2,Ef.apply]
  | alloci T id zs =>
    simp only [zo] at h
    split at h <;> try (cases h; done)
    rename_i v' T' sz' hid
    split at h <;> try (cases h; done)
    rename_i hc
    obtain ⟨rfl,rfl,h0⟩:=hc
    cases h
    refine ⟨.set id _,rfl,rfl,fun id' ob' e=>by cases e; simp [LOp.foot],fun s2 he hs _=>?_⟩
    have hid2:s2.heap[id]? = some (.arr v' true true T' zs.length []):=by rw [hs id (by simp [LOp.foot])]; exact hid
    simp [zo,hid2,Ef.apply,h0]
  | mkn T sz bytes zs n c =>
    simp only [zo] at h
    split at h <;> try (cases h; done)
    rename_i k k' hk hk'
    split at h <;> try (cases h; done)
    rename_i hcond
    cases h
    refine ⟨.push _,rfl,rfl,(fun id ob e=>by cases e),fun s2 he _ hl=>?_⟩
    rw [zb2] at hk hk'
    have e1:zdI s2 n=some k:=by rw [zb2,Zd (x:=n) fun t ht=>he t (by simp [LOp.tmps,ht])]; exact hk
    have e2:zdI s2 c=some k':=by rw [zb2,Zd (x:=c) fun t ht=>he t (by simp [LOp.tmps,ht])]; exact hk'
    simp only [zo,e1,e2,hl rfl]
    rw [if_pos hcond]
    rfl
  | load n ag x =>
    exact Zb (fun s=>(zbO s.heap (x.ev s) n).bind (zk6 ag)) (fun s=>rfl) h fun s2 he hs=>by
      have e:=Zd (x:=x) he
      rw [e,zxs hs]
  | store n x vv =>
    simp only [zo] at h
    split at h <;> try (cases h; done)
    rename_i vs hvs
    split at h <;> try (cases h; done)
    rename_i hn
    subst hn
    obtain ⟨H1,h1,h2⟩:=yad.1 h
    cases h2
    have hcells:∀ y ∈ vs.flatMap ZQ,y ∈ Z8 (vv.ev s):=by
      intro y hy
      generalize vv.ev s=p at hvs
      cases p <;> simp only [PV.cells?,yae,reduceCtorEq] at hvs <;> subst hvs <;> first | exact hy | (simp only [ybx,List.flatMap_nil,ya6] at hy; first | exact hy | (simp [ZQ,Z2] at hy))
    have hev:∀ s2:St,(∀ t ∈ (LOp.store vs.length x vv).tmps,s2.env t=s.env t)→x.ev s2=x.ev s∧vv.ev s2=vv.ev s:=fun s2 he =>
      ⟨Zd fun t ht=>he t (by simp [LOp.tmps,ht]),Zd fun t ht=>he t (by simp [LOp.tmps,ht])⟩
    generalize hx:x.ev s=px at h1
    cases px <;> simp only [zxi] at h1 <;> try (cases h1; done)
    · rename_i id off
      split at h1 <;> try (cases h1; done)
      rename_i cells hid
      split at h1 <;> try (cases h1; done)
      rename_i hle
      cases h1
      refine ⟨.set id (.box (zfd cells off vs)),rfl,rfl,fun id' ob' e=>by cases e; simp [LOp.foot,hx,Z8,ZQ,Z2],fun s2 he hs _=>?_⟩
      obtain ⟨e1,e2⟩:=hev s2 he
      have hid2:s2.heap[id]? = some (.box cells):=by rw [hs id (by simp [LOp.foot,hx,Z8,ZQ,Z2])]; exact hid
      simp only [zo,e1,e2,hvs,if_true,hx,zxi,hid2,hle,yaM]
      rfl
    · rename_i id ver sz idx off
      split at h1 <;> try (cases h1; done)
      rename_i v' ipu T sz' rows hid
      split at h1 <;> try (cases h1; done)
      rename_i hv
      split at h1 <;> try (cases h1; done)
      rename_i row hrow
      split at h1 <;> try (cases h1; done)
      rename_i hle
      cases h1
      refine ⟨.set id _,rfl,rfl,fun id' ob' e=>by cases e; simp [LOp.foot,hx,Z8,ZQ,Z2],fun s2 he hs _=>?_⟩
      obtain ⟨e1,e2⟩:=hev s2 he
      have hid2:s2.heap[id]? = some (.arr v' true ipu T sz' rows):=by rw [hs id (by simp [LOp.foot,hx,Z8,ZQ,Z2])]; exact hid
      have hfz:vs.map (frz s2.heap)=vs.map (frz s.heap):=zlj (hs.sub fun y hy=>by simp only [LOp.foot,yai]; exact .inr (hcells y hy))
      simp only [zo,e1,e2,hvs,if_true,hx,zxi,hid2,hv,and_self,hrow,hfz]
      rw [if_pos hle]
      rfl
  | nilchk x =>
    refine Zb (fun s=>match x.ev s with
      | .ptr id off=>some (.ptr id off)
      | .rptr cells=>some (.rptr cells)
      | .aptr id ver sz idx off=>match s.heap[id]? with
        | some (.arr v _ _ _ _ _)=>if v=ver then some (.aptr id ver sz idx off) else none
        | _=>none
      | _=>none) (fun s=>?_) h fun s2 he hs=>?_
    · simp only [zo]
      cases x.ev s <;> try rfl
      rename_i id ver sz idx off
      try simp only []
      cases s.heap[id]? with
      | none=>rfl
      | some ob => cases ob <;> try rfl
                   try simp only []
                   split <;> rfl
    · have e:=Zd (x:=x) he
      simp only [LOp.foot] at hs
      simp only [e]
      generalize x.ev s=p at hs
      cases p <;> try rfl
      try simp only []
      rw [hs _ (by simp [Z8,ZQ,Z2])]
  | bin bo x y =>
    exact Zb (fun s=>ztD bo (x.ev s) (y.ev s)) (fun s=>rfl) h fun s2 he _=>by
      rw [Zd (x:=x) fun t ht=>he t (by simp [LOp.tmps,ht]),Zd (x:=y) fun t ht=>he t (by simp [LOp.tmps,ht])]
  | binb neg x y =>
    refine Zb (fun s=>match x.ev s,y.ev s with | .bool a,.bool b=>some (.bool (if neg then !decide (a=b) else decide (a=b))) | _,_=>none) (fun s=>?_) h fun s2 he _=>?_
    · simp only [zo]; cases x.ev s <;> cases y.ev s <;> rfl
    · rw [Zd (x:=x) fun t ht=>he t (by simp [LOp.tmps,ht]),Zd (x:=y) fun t ht=>he t (by simp [LOp.tmps,ht])]
  | eqag neg ks x y =>
    refine Zb (fun s=>match x.ev s,y.ev s with | .agg xs,.agg ys=>(Z0 ks xs ys).map fun r => .bool (if neg then !r else r) | _,_=>none) (fun s=>?_) h fun s2 he _=>?_
    · simp only [zo]; cases x.ev s <;> cases y.ev s <;> try rfl
      try simp only []
      rename_i xs ys
      cases Z0 ks xs ys <;> rfl
    · rw [Zd (x:=x) fun t ht=>he t (by simp [LOp.tmps,ht]),Zd (x:=y) fun t ht=>he t (by simp [LOp.tmps,ht])]
  | isnil neg x=>simp [zo] at h
  | not x =>
    refine Zb (fun s=>match x.ev s with | .bool b=>some (.bool (!b)) | _=>none) (fun s=>?_) h fun s2 he _=>?_
    · simp only [zo]; cases x.ev s <;> rfl
    · rw [Zd (x:=x) he]
  | neg x =>
    refine Zb (fun s=>match x.ev s with | .int k n=>some (.int k (k.wrap (0 - n))) | _=>none) (fun s=>?_) h fun s2 he _=>?_
    · simp only [zo]; cases x.ev s <;> rfl
    · rw [Zd (x:=x) he]
  | conv k x =>
    refine Zb (fun s=>match x.ev s with | .int _ n=>some (.int k (k.wrap n)) | _=>none) (fun s=>?_) h fun s2 he _=>?_
    · simp only [zo]; cases x.ev s <;> rfl
    · rw [Zd (x:=x) he]
  | b2s x =>
    refine Zb (fun s=>((zcC s.heap (x.ev s)).bind bytesOf).map fun l => .str ⟨l.toArray⟩) (fun s=>?_) h fun s2 he hs=>?_
    · simp only [zo]; cases (zcC s.heap (x.ev s)).bind bytesOf <;> rfl
    · rw [Zd (x:=x) he,zhu hs]
  | clo f caps =>
    refine Zb (fun s=>some (.clo f (caps.map (LOpd.ev s)))) (fun s=>rfl) h fun s2 he _=>?_
    congr 2
    exact yaU fun x hx=>Zd fun t ht=>he t (by simp only [LOp.tmps]; exact ya5.2 ⟨x,hx,ht⟩)
  | clob f caps =>
    refine Zb (fun s=>some (.clob f (caps.map (LOpd.ev s)))) (fun s=>rfl) h fun s2 he _=>?_
    congr 2
    exact yaU fun x hx=>Zd fun t ht=>he t (by simp only [LOp.tmps]; exact ya5.2 ⟨x,hx,ht⟩)
  | slc sz x lo hi =>
    have hlo:∀ s2:St,(∀ t ∈ (LOp.slc sz x lo hi).tmps,s2.env t=s.env t)→x.ev s2=x.ev s∧zf3 s2 lo=zf3 s lo∧∀ n,zc0 s2 n hi=zc0 s n hi:=by
      intro s2 he
      refine ⟨Zd fun t ht=>he t (by simp [LOp.tmps,ht]),?_,fun n=>?_⟩
      · cases lo with
        | none=>rfl
        | some l=>simp only [zf3,zb2]; rw [Zd (x:=l) fun t ht=>he t (by simp [LOp.tmps,zj0,ht])]
      · cases hi with
        | none=>rfl
        | some l=>simp only [zc0,zb2]; rw [Zd (x:=l) fun t ht=>he t (by simp [LOp.tmps,zj0,ht])]
    have key:∀ s2:St,(∀ t ∈ (LOp.slc sz x lo hi).tmps,s2.env t=s.env t)→zfi s.heap s2.heap ((LOp.slc sz x lo hi).foot s)→∀ v H,zo s (.slc sz x lo hi)=some (v,H)→H=s.heap∧zo s2 (.slc sz x lo hi)=some (v,s2.heap):=by
      intro s2 he hs v H h
      obtain ⟨e1,e2,e3⟩:=hlo s2 he
      simp only [LOp.foot] at hs
      simp only [zo,e1,e2,e3] at h ⊢
      generalize x.ev s=p at h hs ⊢
      cases p <;> try (cases h; done)
      · rename_i b
        simp only [] at h ⊢
        cases hl:zf3 s lo <;> rw [hl] at h <;> try (cases h; done)
        cases hh:zc0 s b.size hi <;> rw [hh] at h <;> try (cases h; done)
        simp only [] at h ⊢
        split at h <;> try (cases h; done)
        rename_i hc
        cases h
        rw [if_pos hc]; exact ⟨rfl,rfl⟩
      · rename_i rows
        simp only [] at h ⊢
        cases hl:zf3 s lo <;> rw [hl] at h <;> try (cases h; done)
        cases hh:zc0 s rows.length hi <;> rw [hh] at h <;> try (cases h; done)
        simp only [] at h ⊢
        split at h <;> try (cases h; done)
        rename_i hc
        cases h
        rw [if_pos hc]; exact ⟨rfl,rfl⟩
      · simp only [] at h ⊢
        rename_i id ver
        rw [hs id (by simp [Z8,ZQ,Z2])]
        cases hid:s.heap[id]? with
        | none=>rw [hid] at h; cases h
        | some ob =>
          rw [hid] at h
          cases ob with
          | box cells=>cases h
          | gone=>cases h
          | arr v' st ipu T sz' rows =>
            cases st <;> try (cases h; done)
            cases ipu <;> try (cases h; done)
            simp only [] at h ⊢
            split at h <;> try (cases h; done)
            rename_i hv
            rw [if_pos hv]
            cases hl:zf3 s lo <;> rw [hl] at h <;> try (cases h; done)
            cases hh:zc0 s rows.length hi <;> rw [hh] at h <;> try (cases h; done)
            simp only [] at h ⊢
            split at h <;> try (cases h; done)
            rename_i hc
            cases h
            rw [if_pos hc]; exact ⟨rfl,rfl⟩
    obtain ⟨e,-⟩:=key s (fun _ _=>rfl) (fun _ _=>rfl) v H' h
    exact ⟨.none,e,rfl,(fun id ob e=>by cases e),fun s2 he hs _=>(key s2 he hs v H' h).2⟩
  | addr off x =>
    refine Zb (fun s=>match x.ev s with
      | .ptr id o=>some (.ptr id (o + off))
      | .rptr cells=>some (.rptr (cells.drop off))
      | .aptr id ver sz idx o=>match s.heap[id]? with
        | some (.arr v _ _ _ _ _)=>if v=ver then some (.aptr id ver sz idx (o + off)) else none
        | _=>none
      | _=>none) (fun s=>?_) h fun s2 he hs=>?_
    · simp only [zo]
      cases x.ev s <;> try rfl
      rename_i id ver sz idx o
      try simp only []
      cases s.heap[id]? with
      | none=>rfl
      | some ob => cases ob <;> try rfl
                   try simp only []
                   split <;> rfl
    · have e:=Zd (x:=x) he
      simp only [LOp.foot] at hs
      simp only [e]
      generalize x.ev s=p at hs
      cases p <;> try rfl
      try simp only []
      rw [hs _ (by simp [Z8,ZQ,Z2])]
  | iaddrA sz n x i =>
    refine Zb (fun s=>match x.ev s,zhv (i.ev s) with
      | .ptr id o,some k=>if 0≤k∧k < n then some (.ptr id (o + k.toNat * sz)) else none
      | _,_=>none) (fun s=>?_) h fun s2 he _=>?_
    · simp only [zo,zb2]
      cases x.ev s <;> cases zhv (i.ev s) <;> try rfl
      try simp only []
      split <;> rfl
    · rw [Zd (x:=x) fun t ht=>he t (by simp [LOp.tmps,ht]),Zd (x:=i) fun t ht=>he t (by simp [LOp.tmps,ht])]
  | iaddrS sz x i =>
    refine Zb (fun s=>match x.ev s,zhv (i.ev s) with
      | .list rows,some k=>if 0≤k∧k < rows.length then (match rows[k.toNat]? with
        | some row=>if row.length=sz then some (.rptr row) else none
        | none=>none) else none
      | .oll rows,some k=>if 0≤k∧k < rows.length then (match rows[k.toNat]? with
        | some row=>if row.length=sz then some (.olp row) else none
        | none=>none) else none
      | .arr id ver,some k=>match s.heap[id]? with
        | some (.arr v _ _ _ sz' rows)=>if v=ver∧sz'=sz∧0≤k∧k < rows.length then some (.aptr id ver sz k.toNat 0) else none
        | _=>none
      | _,_=>none) (fun s=>?_) h fun s2 he hs=>?_
    · simp only [zo,zb2]
      cases x.ev s <;> cases zhv (i.ev s) <;> try rfl
      · rename_i rows k
        try simp only []
        split
        · cases rows[k.toNat]? with
          | none=>rfl
          | some row=>simp only []; split <;> rfl
        · rfl
      · rename_i id ver k
        try simp only []
        cases s.heap[id]? with
        | none=>rfl
        | some ob => cases ob <;> try rfl
                     try simp only []
                     split <;> rfl
      · rename_i rows k
        try simp only []
        split
        · cases rows[k.toNat]? with
          | none=>rfl
          | some row=>simp only []; split <;> rfl
        · rfl
    · have e:=Zd (s1:=s2) (s2:=s) (x:=x) fun t ht=>he t (by simp [LOp.tmps,ht])
      have e2:=Zd (s1:=s2) (s2:=s) (x:=i) fun t ht=>he t (by simp [LOp.tmps,ht])
      simp only [LOp.foot] at hs
      simp only [e,e2]
      generalize x.ev s=p at hs
      generalize zhv (i.ev s)=q
      cases p <;> cases q <;> try rfl
      try simp only []
      rw [hs _ (by simp [Z8,ZQ,Z2])]
  | field off n ag x =>
    refine Zb (fun s=>match x.ev s with | .agg cs=>zhi cs off n ag | _=>none) (fun s=>?_) h fun s2 he _=>?_
    · simp only [zo]; cases x.ev s <;> rfl
    · rw [Zd (x:=x) he]
  | idxS x i =>
    refine Zb (fun s=>match x.ev s,zhv (i.ev s) with
      | .str b,some k=>if 0≤k then (match b[k.toNat]? with
        | some c=>some (.int .u8 c.toNat)
        | none=>none) else none
      | _,_=>none) (fun s=>?_) h fun s2 he _=>?_
    · simp only [zo,zb2]
      cases x.ev s <;> cases zhv (i.ev s) <;> try rfl
      rename_i b k
      try simp only []
      split
      · cases b[k.toNat]? <;> rfl
      · rfl
    · rw [Zd (x:=x) fun t ht=>he t (by simp [LOp.tmps,ht]),Zd (x:=i) fun t ht=>he t (by simp [LOp.tmps,ht])]
  | idxA sz n ag x i =>
    refine Zb (fun s=>match x.ev s,zhv (i.ev s) with
      | .agg cs,some k=>if 0≤k∧k < n then zhi cs (k.toNat * sz) sz ag else none
      | _,_=>none) (fun s=>?_) h fun s2 he _=>?_
    · simp only [zo,zb2]
      cases x.ev s <;> cases zhv (i.ev s) <;> try rfl
      try simp only []
      split <;> rfl
    · rw [Zd (x:=x) fun t ht=>he t (by simp [LOp.tmps,ht]),Zd (x:=i) fun t ht=>he t (by simp [LOp.tmps,ht])]
  | ext i x =>
    refine Zb (fun s=>match x.ev s with | .tup vs=>vs[i]? | _=>none) (fun s=>?_) h fun s2 he _=>?_
    · simp only [zo]; cases x.ev s <;> try rfl
      rename_i vs
      try simp only []
      cases vs[i]? <;> rfl
    · rw [Zd (x:=x) he]
  | len b x =>
    cases b with
    | true =>
      refine Zb (fun s=>match x.ev s with | .str b=>some (.int .i64 b.size) | _=>none) (fun s=>?_) h fun s2 he _=>?_
      · simp only [zo]; cases x.ev s <;> rfl
      · rw [Zd (x:=x) he]
    | false =>
      refine Zb (fun s=>(zcQ s.heap (x.ev s)).map fun (n:Nat) => .int .i64 (n:Int)) (fun s=>?_) h fun s2 he hs=>?_
      · simp only [zo]; cases zcQ s.heap (x.ev s) <;> rfl
      · rw [Zd (x:=x) he,ztS hs]
  | mm mx x y =>
    refine Zb (fun s=>match x.ev s,y.ev s with
      | .int k a,.int k' b=>if k=k' then some (.int k (if mx then (if a < b then b else a) else (if b < a then b else a))) else none
      | _,_=>none) (fun s=>?_) h fun s2 he _=>?_
    · simp only [zo]; cases x.ev s <;> cases y.ev s <;> try rfl
      try simp only []
      split <;> rfl
    · rw [Zd (x:=x) fun t ht=>he t (by simp [LOp.tmps,ht]),Zd (x:=y) fun t ht=>he t (by simp [LOp.tmps,ht])]
  | append T sz bytes x y =>
    have hev:∀ s2:St,(∀ t ∈ (LOp.append T sz bytes x y).tmps,s2.env t=s.env t)→x.ev s2=x.ev s∧y.ev s2=y.ev s:=fun s2 he =>
      ⟨Zd fun t ht=>he t (by simp [LOp.tmps,ht]),Zd fun t ht=>he t (by simp [LOp.tmps,ht])⟩
    simp only [zo,Z4] at h
    split at h <;> try (cases h; done)
    rename_i pu ys hy
    have hsame:∀ s2:St,zfi s.heap s2.heap ((LOp.append T sz bytes x y).foot s)→zch s2.heap sz (y.ev s)=some (pu,ys)∧zbZ s2.heap pu ys=zbZ s.heap pu ys∧zac s2.heap pu ys=zac s.heap pu ys:=by
      intro s2 hs
      have hs':zfi s.heap s2.heap (Z8 (y.ev s)):=hs.sub fun z hz=>by simp only [LOp.foot,yai]; exact .inr hz
      generalize y.ev s=p at hy hs'
      refine ⟨?_,?_⟩
      · cases p <;> simp only [zch] at hy ⊢ <;> first | exact hy | (rw [zhu hs']; exact hy)
      · cases pu with
        | true=>exact ⟨rfl,rfl⟩
        | false =>
          have hv:p = .vlist ys:=by
            cases p <;> simp only [zch,yae,ybd,reduceCtorEq,zcC,yaM,Option.map_none] at hy
            · split at hy <;> simp at hy
            · exact hy.1.elim
            · exact hy.1.elim
            · rw [hy.2]
            · obtain ⟨r,-,e⟩:=yad.1 hy; simp at e
          subst hv
          have hm:ys.map (·.map (frz s2.heap))=ys.map (·.map (frz s.heap)):=yaU fun r hr=>zlj (hs'.sub fun z hz=>by
            obtain ⟨q,hq,hzq⟩:=ya5.1 hz
            exact ya5.2 ⟨r,hr,ya5.2 ⟨q,hq,hzq⟩⟩)
          simp [zbZ,zac,hm]
    generalize hx:x.ev s=px at h
    cases px <;> simp only [] at h <;> try (cases h; done)
    · split at h <;> try (cases h; done)
      rename_i hc
      cases h
      refine ⟨.push (.arr 0 true false T sz (zac s.heap pu ys)),rfl,by simp only [LOp.kind,hx]; rfl,(fun id ob e=>by cases e),fun s2 he hs hl=>?_⟩
      obtain ⟨e1,e2⟩:=hev s2 he
      obtain ⟨f1,f2,f3⟩:=hsame s2 hs
      simp only [zo,Z4,e1,e2,hx,f1,f2,f3]
      rw [if_pos hc,hl rfl]; rfl
    · rename_i id ver
      split at h <;> try (cases h; done)
      rename_i v' st ipu T' sz' rows hid
      split at h <;> try (cases h; done)
      rename_i hc
      cases h
      refine ⟨.set id _,rfl,by simp only [LOp.kind,hx]; rfl,fun id' ob' e=>by cases e; simp [LOp.foot,hx,Z8,ZQ,Z2],fun s2 he hs _=>?_⟩
      obtain ⟨e1,e2⟩:=hev s2 he
      obtain ⟨f1,f2,f3⟩:=hsame s2 hs
      have hid2:s2.heap[id]? = some (.arr v' st ipu T' sz' rows):=by rw [hs id (by simp [LOp.foot,hx,Z8,ZQ,Z2])]; exact hid
      simp only [zo,Z4,e1,e2,hx,f1,f2,f3,hid2]
      rw [if_pos hc]; rfl
  | call f args hot=>simp [zo] at h
  | callv x args=>simp [zo] at h
def Opr (P:Program) (so:Bool) (o:LOp) (s:St) (v:PV) (H':List AObj):Prop :=
 match o with
 | .call f args h=>zpx P f (args.map (LOpd.ev s)) s.heap so h v H'
 | .callv x args=>∃ f pre caps,zq5 (x.ev s)=some (f,pre,caps)∧ZU P f=true∧CallTo P f (pre ++ args.map (LOpd.ev s) ++ caps) s.heap so v H'
 | .isnil .. => False
 | o=>zo s o=some (v,H')
theorem zeW {s1 s2:St} {l:List LOpd} (h:∀ t ∈ l.flatMap LOpd.tmps,s1.env t=s2.env t):l.map (LOpd.ev s1)=l.map (LOpd.ev s2) :=
 yaU fun x hx=>Zd fun t ht=>h t (ya5.2 ⟨x,hx,ht⟩)
def LOp.isCall:LOp→Bool
 | .call .. | .callv .. => true
 | _=>false
theorem zc2 {P:Program} {so:Bool} {o:LOp} {s:St} {v:PV} {H':List AObj} (hp:o.isCall=false):Opr P so o s v H'↔zo s o=some (v,H'):=by
 cases o <;> first | exact ybR | (simp [LOp.isCall] at hp; done) | (simp [Opr,zo])
theorem Opr.env {P:Program} {so:Bool} {o:LOp} {s s2:St} {v:PV} {H':List AObj} (h:Opr P so o s v H') (he:∀ t ∈ o.tmps,s2.env t=s.env t) (hh:s2.heap=s.heap):Opr P so o s2 v H':=by
 cases hp:o.isCall with
 | false =>
  have h':=(zc2 (P:=P) (so:=so) hp).1 h
  obtain ⟨ef,e1,-,-,e2⟩:=zj2 h'
  have:=e2 s2 he (fun id _=>by rw [hh]) (fun _=>by rw [hh])
  rw [hh,← e1] at this
  exact (zc2 hp).2 this
 | true =>
  cases o <;> simp only [LOp.isCall,yap,reduceCtorEq] at hp
  case call f args hot =>
   simp only [Opr] at h ⊢
   rw [zeW (s1:=s2) (s2:=s) he,hh]; exact h
  case callv x args =>
   obtain ⟨f,pre,caps,h1,h2,h3⟩:=h
   have ex:x.ev s2=x.ev s:=Zd fun t ht=>he t (by simp [LOp.tmps,ht])
   refine ⟨f,pre,caps,by rw [ex]; exact h1,h2,?_⟩
   rw [zeW (s1:=s2) (s2:=s) fun t ht=>he t (by simp only [LOp.tmps,yai]; exact .inr ht),hh]; exact h3
def LOper.want (o:LOper) (s:St):Option Bool:=match o.guard with
 | none=>some true
 | some (t,w)=>match s.env t with
  | .bool b=>some (b == w)
  | .undef=>some false
  | _=>none
theorem zbv {o:LOper} {s s2:St} (he:∀ t ∈ o.reads,s2.env t=s.env t):o.want s2=o.want s:=by
 unfold LOper.want
 cases hg:o.guard with
 | none=>rfl
 | some p =>
  obtain ⟨t,w⟩:=p
  simp only []
  rw [he t (by simp [LOper.reads,hg])]
def zje (P:Program) (o:LOper) (s:St) (v:PV) (H':List AObj):Prop:=(o.want s=some true∧Opr P o.solo o.op s v H')∨(o.want s=some false∧v = .undef∧H'=s.heap)
def LOper.fp (o:LOper) (s:St):List Nat × Nat:=if o.want s=some true then (o.op.foot s,o.op.kind s) else ([],0)
def zk4 (P:Program) (o:LOper) (s:St) (v:PV) (H':List AObj):Prop :=
 ∃ ef:Ef,H'=ef.apply s.heap∧(ef.kind=0∨ef.kind=(o.fp s).2)∧(∀ id ob,ef = .set id ob→id ∈ (o.fp s).1) ∧
  ∀ s2:St,(∀ t ∈ o.reads,s2.env t=s.env t)→zfi s.heap s2.heap (o.fp s).1→(ef.kind=2→s2.heap.length=s.heap.length)→(ef.kind=3→s2.heap=s.heap)→zje P o s2 v (ef.apply s2.heap)
theorem zje.env {P:Program} {o:LOper} {s s2:St} {v:PV} {H':List AObj} (h:zje P o s v H') (he:∀ t ∈ o.reads,s2.env t=s.env t) (hh:s2.heap=s.heap):zje P o s2 v H':=by
 have hw:=zbv he
 rcases h with ⟨h1,h2⟩ | ⟨h1,h2,h3⟩
 ·
  exact .inl ⟨hw.trans h1,h2.env (fun t ht=>he t (by simp [LOper.reads,ht])) hh⟩
 ·
  exact .inr ⟨hw.trans h1,h2,by rw [hh]; exact h3⟩
theorem zxt {o:LOp} {s s2:St} (he:∀ t ∈ o.tmps,s2.env t=s.env t):o.foot s2=o.foot s∧o.kind s2=o.kind s:=by
 have e1:∀ x:LOpd,(∀ t ∈ x.tmps,t ∈ o.tmps)→x.ev s2=x.ev s:=fun x hx=>Zd fun t ht=>he t (hx t ht)
 cases o <;> try exact ⟨rfl,rfl⟩
 case load n ag x=>exact ⟨by simp only [LOp.foot]; rw [e1 x (by simp [LOp.tmps])],rfl⟩
 case store n x v=>exact ⟨by simp only [LOp.foot]; rw [e1 x (by simp [LOp.tmps]; exact fun t ht => .inl ht),e1 v (by simp [LOp.tmps]; exact fun t ht => .inr ht)],rfl⟩
 case nilchk x=>exact ⟨by simp only [LOp.foot]; rw [e1 x (by simp [LOp.tmps])],rfl⟩
 case b2s x=>exact ⟨by simp only [LOp.foot]; rw [e1 x (by simp [LOp.tmps])],rfl⟩
 case slc sz x lo hi=>exact ⟨by simp only [LOp.foot]; rw [e1 x (by simp [LOp.tmps]; exact fun t ht => .inl ht)],rfl⟩
 case addr off x=>exact ⟨by simp only [LOp.foot]; rw [e1 x (by simp [LOp.tmps])],rfl⟩
 case iaddrS sz x i=>exact ⟨by simp only [LOp.foot]; rw [e1 x (by simp [LOp.tmps]; exact fun t ht => .inl ht)],rfl⟩
 case len b x=>exact ⟨by simp only [LOp.foot]; rw [e1 x (by simp [LOp.tmps])],rfl⟩
 case append T sz bytes x y =>
  have ex:=e1 x (by simp [LOp.tmps]; exact fun t ht => .inl ht)
  exact ⟨by simp only [LOp.foot]; rw [ex,e1 y (by simp [LOp.tmps]; exact fun t ht => .inr ht)],by simp only [LOp.kind]; rw [ex]⟩
 case callv x args =>
  refine ⟨?_,rfl⟩
  simp only [LOp.foot]
  rw [e1 x (by simp [LOp.tmps]; exact fun t ht => .inl ht)]
  have:∀ l:List LOpd,(∀ x ∈ l,x.ev s2=x.ev s)→(l.flatMap fun x=>Z8 (x.ev s2))=l.flatMap fun x=>Z8 (x.ev s):=by
   intro l
   induction l with
   | nil=>intro _; rfl
   | cons x l ih=>intro h; simp only [ybx]; rw [h x (by simp),ih fun y hy=>h y (by simp [hy])]
  rw [this args fun y hy=>e1 y fun t ht=>by simp only [LOp.tmps,yai]; exact .inr (ya5.2 ⟨y,hy,ht⟩)]
 case call f args hot =>
  refine ⟨?_,rfl⟩
  simp only [LOp.foot]
  have:∀ l:List LOpd,(∀ x ∈ l,x.ev s2=x.ev s)→(l.flatMap fun x=>Z8 (x.ev s2))=l.flatMap fun x=>Z8 (x.ev s):=by
   intro l
   induction l with
   | nil=>intro _; rfl
   | cons x l ih=>intro h; simp only [ybx]; rw [h x (by simp),ih fun y hy=>h y (by simp [hy])]
  exact this args fun x hx=>e1 x fun t ht=>by simp only [LOp.tmps]; exact ya5.2 ⟨x,hx,ht⟩
theorem zjf {o:LOper} {s s2:St} (he:∀ t ∈ o.reads,s2.env t=s.env t):o.fp s2=o.fp s:=by
 unfold LOper.fp
 rw [zbv he]
 obtain ⟨e1,e2⟩:=zxt (o:=o.op) (s:=s) (s2:=s2) fun t ht=>he t (by simp [LOper.reads,ht])
 rw [e1,e2]
theorem zk4.plain {P:Program} {o:LOper} {s:St} {v:PV} {H':List AObj} (h:zje P o s v H') (h1:o.op.isCall=false):zk4 P o s v H':=by
 rcases h with ⟨hw,ho⟩ | ⟨hw,rfl,rfl⟩
 ·
  have ho':=(zc2 (P:=P) (so:=o.solo) h1).1 ho
  obtain ⟨ef,e1,e2,e3,e4⟩:=zj2 ho'
  have hr:o.fp s=(o.op.foot s,o.op.kind s):=by unfold LOper.fp; rw [if_pos hw]
  refine ⟨ef,e1,.inr (by rw [hr]; exact e2),by rw [hr]; exact e3,fun s2 he hs hl _ => .inl ⟨(zbv he).trans hw,?_⟩⟩
  rw [hr] at hs
  exact (zc2 h1).2 (e4 s2 (fun t ht=>he t (by simp [LOper.reads,ht])) hs hl)
 ·
  have hr:o.fp s=([],0):=by unfold LOper.fp; rw [if_neg (by rw [hw]; simp)]
  exact ⟨.none,rfl,.inl rfl,(fun id ob e=>by cases e),fun s2 he _ _ _ => .inr ⟨(zbv he).trans hw,rfl,rfl⟩⟩
theorem zdN {nl all:Bool} {f:Nat→Option Nat} {H H2:List AObj} {p:PV} (h:zfi H H2 (Z2 p)):zp nl f (zt all H2) p=zp nl f (zt all H) p:=by
 cases p <;> try rfl
 case arr id ver =>
  have:=h id (by simp [Z2])
  simp only [zp,zt]
  rw [this]
theorem zdO {nl all:Bool} {f:Nat→Option Nat} {H H2:List AObj} {p:PV} (h:zfi H H2 (ZQ p)):zn nl f (zt all H2) p=zn nl f (zt all H) p:=by
 cases p <;> try (simp only [zn]; first | done | exact zdN h)
 case clo g cs =>
  simp only [zn,PV.clo.injEq,true_and]
  exact yaU fun q hq=>zdN fun id hid=>h id (ya5.2 ⟨q,hq,hid⟩)
 case clob g cs =>
  simp only [zn,PV.clob.injEq,true_and]
  exact yaU fun q hq=>zdN fun id hid=>h id (ya5.2 ⟨q,hq,hid⟩)
theorem ztU {nl all:Bool} {f:Nat→Option Nat} {H H2:List AObj} {p:PV} (h:zfi H H2 (Z8 p)):ren nl f (zt all H2) p=ren nl f (zt all H) p:=by
 cases p <;> try (simp only [ren]; first | done | exact zdO h)
 case agg cs =>
  simp only [ren,PV.agg.injEq]
  exact yaU fun q hq=>zdO fun id hid=>h id (ya5.2 ⟨q,hq,hid⟩)
 case vlist rows =>
  simp only [ren,PV.vlist.injEq]
  exact yaU fun r hr=>yaU fun q hq=>zdO fun id hid=>h id (ya5.2 ⟨r,hr,ya5.2 ⟨q,hq,hid⟩⟩)
theorem zfj {nl all:Bool} {f:Nat→Option Nat} {H H2:List AObj} {ps:List PV} (h:zfi H H2 (ps.flatMap Z8)):ps.map (ren nl f (zt all H2))=ps.map (ren nl f (zt all H)) :=
 yaU fun q hq=>ztU fun id hid=>h id (ya5.2 ⟨q,hq,hid⟩)
theorem CallTo.loc {P:Program} {f:Nat} {ps:List PV} {H H2:List AObj} {r:PV} {H':List AObj} (h:CallTo P f ps H false r H') (hs:zfi H H2 (ps.flatMap Z8)):H'=H∧CallTo P f ps H2 false r H2:=by
 cases h with
 | pure h=>exact ⟨rfl,.pure (by rw [zfj hs]; exact h)⟩
 | scalar h hr=>exact ⟨rfl,.scalar (by rw [zfj hs]; exact h) hr⟩
theorem One.loc {P : Program} {f : Nat} {ps : List PV} {H : List AObj} {r : PV} {H' : List AObj} (h : One P f ps H r H') :
    ∃ k ob',H'=H.set k ob'∧k ∈ ps.flatMap Z8∧∀ H2,zfi H H2 (ps.flatMap Z8)→One P f ps H2 r (H2.set k ob'):=by
  cases h with
  | mk k ob ob' hk ho ho' hr hin h =>
    exact ⟨k,ob',rfl,hin,fun H2 hs => .mk k ob ob' (by rw [hs k hin]; exact hk) ho ho' hr hin (by rw [zfj hs]; exact h)⟩
theorem Mk.loc {P : Program} {f : Nat} {ps : List PV} {H : List AObj} {r : PV} {H' : List AObj} (h : Mk P f ps H r H') :
    ∃ ob',H'=H ++ [ob']∧∀ H2,zfi H H2 (ps.flatMap Z8)→H2.length=H.length→Mk P f ps H2 r (H2 ++ [ob']):=by
  cases h with
  | mk ob' ho' hr h=>exact ⟨ob',rfl,fun H2 hs hl => .mk ob' ho' (by rw [hl]; exact hr) (by rw [zfj hs]; exact h)⟩
theorem CallTo.len {P:Program} {f:Nat} {ps:List PV} {H:List AObj} {so:Bool} {r:PV} {H':List AObj} (h:CallTo P f ps H so r H'):H.length≤H'.length:=by
 cases h with
 | pure h=>exact yag _
 | scalar h hr=>exact yag _
 | look h hr=>exact yag _
 | pureM H1 hm h=>exact Nat.le_of_eq hm.1.symm
 | heap ks h1 h2 h3=>simp only [ZN,yah,List.length_range]; omega
theorem zpx.len {P:Program} {f:Nat} {ps:List PV} {H:List AObj} {so:Bool} {hot:Nat} {r:PV} {H':List AObj} (h:zpx P f ps H so hot r H'):H.length≤H'.length:=by
 rcases h with h | ⟨-,h⟩ | ⟨-,h⟩ | ⟨-,h⟩
 ·
  exact h.len
 ·
  exact h.to.len
 ·
  exact h.to.len
 ·
  exact h.len
theorem zq8 {x:PV} {g:Nat} {pre caps:List PV} (h:zq5 x=some (g,pre,caps)):∀ id ∈ pre.flatMap Z8 ++ caps.flatMap Z8,id ∈ zom x:=by
 cases x <;> simp only [zq5,yae,ybd,reduceCtorEq] at h
 all_goals
  obtain ⟨rfl,rfl,rfl⟩:=h
  intro id hid
  simpa [zom] using hid
theorem ztV {o:LOp} {s:St} (hp:o.isCall=false):o.kind s≠3:=by
 cases o <;> simp [LOp.kind,LOp.isCall] at hp ⊢
 split <;> simp
theorem zje.len {P:Program} {o:LOper} {s:St} {v:PV} {H':List AObj} (h:zje P o s v H'):s.heap.length≤H'.length:=by
 rcases h with ⟨-,h⟩ | ⟨-,-,rfl⟩
 ·
  cases hp:o.op.isCall with
  | false =>
   obtain ⟨ef,e1,e2,-⟩:=zj2 ((zc2 (P:=P) (so:=o.solo) hp).1 h)
   rw [e1]
   cases ef <;> simp [Ef.apply]
   exact (ztV hp e2.symm).elim
  | true =>
   cases ho:o.op <;> rw [ho] at hp h <;> simp only [LOp.isCall,yap] at hp
   ·
    exact zpx.len h
   ·
    obtain ⟨f,pre,caps,-,-,h3⟩:=h
    exact h3.len
 ·
  exact yag _
theorem zk4.of {P:Program} {o:LOper} {s:St} {v:PV} {H':List AObj} (h:zje P o s v H') (hso:o.solo=false):zk4 P o s v H':=by
 cases hp:o.op.isCall with
 | false=>exact zk4.plain h hp
 | true =>
  rcases h with ⟨hw,ho⟩ | ⟨hw,rfl,rfl⟩
  ·
   have hr:o.fp s=(o.op.foot s,o.op.kind s):=by
    unfold LOper.fp; rw [if_pos hw]
   cases hq:o.op <;> rw [hq] at hp <;> simp only [LOp.isCall,yap] at hp
   case call f args hot =>
    rw [hq,hso] at ho
    rcases ho with ho | ⟨hh,ho⟩ | ⟨hh,ho⟩ | ⟨hh,ho⟩
    ·
     obtain ⟨rfl,-⟩:=ho.loc (H2:=s.heap) fun _ _=>rfl
     refine ⟨.none,rfl,.inl rfl,(fun id ob e=>by cases e),fun s2 he hs _ _ => .inl ⟨(zbv he).trans hw,?_⟩⟩
     rw [hq,hso]
     have hev:args.map (LOpd.ev s2)=args.map (LOpd.ev s):=zeW fun t ht=>he t (by simp only [LOper.reads,hq,LOp.tmps,yai]; exact .inl ht)
     simp only [Opr]
     rw [hev]
     refine .inl (ho.loc (H2:=s2.heap) fun id hid=>hs id ?_).2
     rw [hr,hq]
     simpa [LOp.foot,yce] using hid
    ·
     obtain ⟨k,ob',rfl,hk,hl⟩:=ho.loc
     refine ⟨.set k ob',rfl,.inr (by rw [hr,hq,hh]; rfl),(fun id ob e=>by cases e; rw [hr,hq]; simpa [LOp.foot,yce] using hk),fun s2 he hs _ _ => .inl ⟨(zbv he).trans hw,?_⟩⟩
     rw [hq,hso]
     have hev:args.map (LOpd.ev s2)=args.map (LOpd.ev s):=zeW fun t ht=>he t (by simp only [LOper.reads,hq,LOp.tmps,yai]; exact .inl ht)
     simp only [Opr]
     rw [hev]
     refine .inr (.inl ⟨hh,hl s2.heap fun id hid=>hs id ?_⟩)
     rw [hr,hq]
     simpa [LOp.foot,yce] using hid
    ·
     obtain ⟨ob',rfl,hl⟩:=ho.loc
     refine ⟨.push ob',rfl,.inr (by rw [hr,hq,hh]; rfl),(fun id ob e=>by cases e),fun s2 he hs hln _ => .inl ⟨(zbv he).trans hw,?_⟩⟩
     rw [hq,hso]
     have hev:args.map (LOpd.ev s2)=args.map (LOpd.ev s):=zeW fun t ht=>he t (by simp only [LOper.reads,hq,LOp.tmps,yai]; exact .inl ht)
     simp only [Opr]
     rw [hev]
     refine .inr (.inr (.inl ⟨hh,hl s2.heap (fun id hid=>hs id ?_) (hln rfl)⟩))
     rw [hr,hq]
     simpa [LOp.foot,yce] using hid
    ·
     refine ⟨.all H',rfl,.inr (by rw [hr,hq,hh]; rfl),(fun id ob e=>by cases e),fun s2 he hs _ h3 => .inl ⟨(zbv he).trans hw,?_⟩⟩
     rw [hq,hso]
     have hev:args.map (LOpd.ev s2)=args.map (LOpd.ev s):=zeW fun t ht=>he t (by simp only [LOper.reads,hq,LOp.tmps,yai]; exact .inl ht)
     simp only [Opr]
     rw [hev,h3 rfl]
     exact .inr (.inr (.inr ⟨hh,ho⟩))
   case callv x args =>
    rw [hq,hso] at ho
    obtain ⟨g,pre,caps,h1,h2,h3⟩:=ho
    obtain ⟨rfl,-⟩:=h3.loc (H2:=s.heap) fun _ _=>rfl
    refine ⟨.none,rfl,.inl rfl,(fun id ob e=>by cases e),fun s2 he hs _ _ => .inl ⟨(zbv he).trans hw,?_⟩⟩
    rw [hq,hso]
    have hev:args.map (LOpd.ev s2)=args.map (LOpd.ev s):=zeW fun t ht=>he t (by simp only [LOper.reads,hq,LOp.tmps,yai]; exact .inl (.inr ht))
    have hx:x.ev s2=x.ev s:=Zd fun t ht=>he t (by simp only [LOper.reads,hq,LOp.tmps,yai]; exact .inl (.inl ht))
    refine ⟨g,pre,caps,by rw [hx]; exact h1,h2,?_⟩
    rw [hev]
    refine (h3.loc (H2:=s2.heap) fun id hid=>hs id ?_).2
    rw [hr,hq]
    rw [yb3,yb3,yai,yai] at hid
    simp only [LOp.foot,yai]
    rcases hid with (hid | hid) | hid
    ·
     exact .inl (zq8 h1 id (yai.2 (.inl hid)))
    ·
     exact .inr (by simpa [yce] using hid)
    ·
     exact .inl (zq8 h1 id (yai.2 (.inr hid)))
  ·
   have hr:o.fp s=([],0):=by unfold LOper.fp; rw [if_neg (by rw [hw]; simp)]
   exact ⟨.none,rfl,.inl rfl,(fun id ob e=>by cases e),fun s2 he _ _ _ => .inr ⟨(zbv he).trans hw,rfl,rfl⟩⟩
theorem zk4.still {P:Program} {o:LOper} {s:St} {v:PV} {H':List AObj} (h:zje P o s v H') (he:o.op.eff=0):zk4 P o s v H'∧o.fp s=([],0):=by
 refine ⟨zk4.plain h (by cases ho:o.op <;> rw [ho] at he <;> first | rfl | (simp [LOp.eff] at he)),?_⟩
 unfold LOper.fp
 split
 ·
  cases ho:o.op <;> rw [ho] at he <;> first | rfl | (simp [LOp.eff] at he)
 ·
  rfl
def zfk (n0:Nat) (a b:List Nat × Nat):Bool :=
 !(a.2 == 2 && b.2 == 2) && ((a.2 == 0 && b.2 == 0) || (a.1.all fun i => !b.1.contains i)) && (a.2 != 2 || b.1.all (· < n0)) && (b.2 != 2 || a.1.all (· < n0)) && (a.2 != 3 || (b.2 == 0 && b.1.isEmpty)) && (b.2 != 3 || (a.2 == 0 && a.1.isEmpty))
theorem zj3 {s:St} {da db:Option Nat} {v u:PV} {H1 H2 H3 H4:List AObj} (hne:∀ t,da=some t→db≠some t) (hh:H2=H4):(s.put da v H1).put db u H2=(s.put db u H3).put da v H4:=by
 subst hh
 simp only [St.put,St.mk.injEq,and_true]
 funext t
 by_cases h1:db=some t
 ·
  have:da≠some t:=fun e=>hne t e h1
  simp [h1,this]
 ·
  simp [h1]
theorem zjg {s:St} {d:Option Nat} {v:PV} {H:List AObj} {l:List Nat} (h:∀ t,d=some t→t ∉ l):∀ t ∈ l,(s.put d v H).env t=s.env t:=by
 intro t ht
 simp only [St.put]
 rw [if_neg fun e=>h t e ht]
section
variable {P:Program} {n0:Nat}
theorem zfi.trans {H1 H2 H3:List AObj} {l:List Nat} (h:zfi H1 H2 l) (h':zfi H2 H3 l):zfi H1 H3 l:=fun id hid=>(h' id hid).trans (h id hid)
theorem zk4.move {o : LOper} {s s2 : St} {v : PV} {H' : List AObj} (h : zk4 P o s v H') (he : ∀ t ∈ o.reads, s2.env t = s.env t) (hs : zfi s.heap s2.heap (o.fp s).1) (hl : (o.fp s).2 = 2 → s2.heap.length = s.heap.length) (h3 : (o.fp s).2 = 3 → s2.heap = s.heap) :
    ∃ ef:Ef,H'=ef.apply s.heap∧(ef.kind=0∨ef.kind=(o.fp s).2)∧(∀ id ob,ef = .set id ob→id ∈ (o.fp s).1)∧zje P o s2 v (ef.apply s2.heap)∧zk4 P o s2 v (ef.apply s2.heap):=by
  obtain ⟨ef,e1,e2,e3,e4⟩:=h
  have hf:=zjf he
  have e2':ef.kind=2→(o.fp s).2=2:=fun e=>by rcases e2 with h | h <;> omega
  have e3':ef.kind=3→(o.fp s).2=3:=fun e=>by rcases e2 with h | h <;> omega
  refine ⟨ef,e1,e2,e3,e4 s2 he hs (fun e=>hl (e2' e)) (fun e=>h3 (e3' e)),ef,rfl,by rw [hf]; exact e2,by rw [hf]; exact e3,fun s3 he3 hs3 hl3 h33=>?_⟩
  rw [hf] at hs3
  exact e4 s3 (fun t ht=>(he3 t ht).trans (he t ht)) (hs.trans hs3) (fun e=>(hl3 e).trans (hl (e2' e))) (fun e=>(h33 e).trans (h3 (e3' e)))
def ztW (P:Program) (solo:Bool) (o:LOper) (s:St) (v:PV) (H':List AObj):Prop:=zje P o s v H'∧(solo=false→zk4 P o s v H')
def zD9 (n0:Nat) (sa sb:Bool) (oa ob:LOper) (fa fb:List Nat × Nat):Prop:=oa.op.eff=0∨ob.op.eff=0∨(sa=false∧sb=false∧zfk n0 fa fb=true)
theorem zf8 {ef:Ef} (h:ef.kind=0):ef = .none:=by cases ef <;> first | rfl | cases h
theorem zpz {a b:List Nat × Nat} (h:zfk n0 a b=true):¬ (a.2=2∧b.2=2)∧((a.2=0∧b.2=0)∨∀ i ∈ a.1,i ∉ b.1)∧(a.2=2→∀ i ∈ b.1,i < n0)∧(b.2=2→∀ i ∈ a.1,i < n0)∧(a.2=3→b.2=0∧b.1 = [])∧(b.2=3→a.2=0∧a.1 = []):=by
 simp only [zfk,yat,yaQ,ybI,Bool.and_eq_false_iff,beq_iff_eq,beq_eq_false_iff_ne,bne_iff_ne,yar,decide_eq_true_eq,List.contains_eq_mem,decide_eq_false_iff_not,List.isEmpty_iff] at h
 obtain ⟨⟨⟨⟨⟨h1,h2⟩,h3⟩,h4⟩,h5⟩,h6⟩:=h
 refine ⟨fun e=>?_,h2,fun e i hi=>?_,fun e i hi=>?_,fun e=>h5.resolve_left fun h=>h e,fun e=>h6.resolve_left fun h=>h e⟩
 ·
  rcases h1 with h | h
  ·
   exact h e.1
  ·
   exact h e.2
 ·
  rcases h3 with h | h
  ·
   exact (h e).elim
  ·
   exact h i hi
 ·
  rcases h4 with h | h
  ·
   exact (h e).elim
  ·
   exact h i hi
theorem zq9 {ef:Ef} {H:List AObj} {fa fb:List Nat × Nat} (hk:ef.kind=0∨ef.kind=fa.2) (hs:∀ id ob,ef = .set id ob→id ∈ fa.1) (hd:(fa.2=0∧fb.2=0)∨∀ i ∈ fa.1,i ∉ fb.1) (hn:fa.2=2→∀ i ∈ fb.1,i < n0) (h3:fa.2=3→fb.2=0∧fb.1 = []) (hl:n0≤H.length):zfi H (ef.apply H) fb.1:=by
  intro i hi
  cases ef with
  | none=>rfl
  | set id ob =>
    have hne:id≠i:=by
      rintro rfl
      rcases hd with h | h
      · rw [h.1] at hk; rcases hk with hk | hk <;> cases hk
      · exact h _ (hs _ _ rfl) hi
    simp only [Ef.apply]
    exact ybl hne
  | push ob =>
    have := hn (by rcases hk with hk | hk
                   · cases hk
                   · exact hk.symm) i hi
    simp only [Ef.apply]
    exact yaC (by omega)
  | all H2 =>
    have := (h3 (by rcases hk with hk | hk
                    · cases hk
                    · exact hk.symm)).2
    rw [this] at hi; cases hi
theorem zxu {ea eb : Ef} {H : List AObj} {fa fb : List Nat × Nat} (ka : ea.kind = 0 ∨ ea.kind = fa.2) (kb : eb.kind = 0 ∨ eb.kind = fb.2) (ha : ∀ id ob, ea = .set id ob → id ∈ fa.1) (hb : ∀ id ob, eb = .set id ob → id ∈ fb.1)
    (c:¬ (fa.2=2∧fb.2=2)∧((fa.2=0∧fb.2=0)∨∀ i ∈ fa.1,i ∉ fb.1)∧(fa.2=2→∀ i ∈ fb.1,i < n0)∧(fb.2=2→∀ i ∈ fa.1,i < n0)∧(fa.2=3→fb.2=0∧fb.1 = [])∧(fb.2=3→fa.2=0∧fa.1 = [])) (hl:n0≤H.length):eb.apply (ea.apply H)=ea.apply (eb.apply H):=by
  obtain ⟨c1,c2,c3,c4,c5,c6⟩:=c
  by_cases h3:fa.2=3
  · obtain rfl:=zf8 (ef:=eb) (by rcases kb with kb | kb; exact kb; rw [kb]; exact (c5 h3).1)
    rfl
  by_cases h4:fb.2=3
  · obtain rfl:=zf8 (ef:=ea) (by rcases ka with ka | ka; exact ka; rw [ka]; exact (c6 h4).1)
    rfl
  have na:∀ H,ea ≠ .all H:=fun H e=>by rw [e] at ka; rcases ka with ka | ka; cases ka; exact h3 ka.symm
  have nb:∀ H,eb ≠ .all H:=fun H e=>by rw [e] at kb; rcases kb with kb | kb; cases kb; exact h4 kb.symm
  cases ea <;> try exact (na _ rfl).elim
  all_goals cases eb <;> try exact (nb _ rfl).elim
  all_goals try rfl
  · rename_i i oi j oj
    have hne:i≠j:=by
      rintro rfl
      rcases c2 with h | h
      · rw [h.1] at ka; rcases ka with ka | ka <;> cases ka
      · exact h _ (ha _ _ rfl) (hb _ _ rfl)
    simp only [Ef.apply]
    exact List.set_comm _ _ hne
  · rename_i i oi oj
    have := c4 (by rcases kb with kb | kb
                   · cases kb
                   · exact kb.symm) i (ha _ _ rfl)
    simp only [Ef.apply]
    rw [List.set_append_left _ _ (by omega)]
  · rename_i oi j oj
    have := c3 (by rcases ka with ka | ka
                   · cases ka
                   · exact ka.symm) j (hb _ _ rfl)
    simp only [Ef.apply]
    rw [List.set_append_left _ _ (by omega)]
  · have ka':fa.2=2:=by
      rcases ka with ka | ka
      · cases ka
      · exact ka.symm
    have kb':fb.2=2:=by
      rcases kb with kb | kb
      · cases kb
      · exact kb.symm
    exact (c1 ⟨ka',kb'⟩).elim
theorem zxv {sa sb : Bool} {oa ob : LOper} {s : St} {v u : PV} {H1 H2 : List AObj} (ha : ztW P sa oa s v H1) (hb : ztW P sb ob (s.put oa.dst v H1) u H2)
    (t1:∀ t,oa.dst=some t→t ∉ ob.reads) (t2:∀ t,ob.dst=some t→t ∉ oa.reads) (t3:∀ t,oa.dst=some t→ob.dst≠some t)
    (hn:n0≤s.heap.length) (hc:zD9 n0 sa sb oa ob (oa.fp s) (ob.fp (s.put oa.dst v H1))) :
    ∃ H3 H4,ztW P sb ob s u H3∧ztW P sa oa (s.put ob.dst u H3) v H4∧(s.put oa.dst v H1).put ob.dst u H2=(s.put ob.dst u H3).put oa.dst v H4∧ob.fp s=ob.fp (s.put oa.dst v H1)∧oa.fp (s.put ob.dst u H3)=oa.fp s:=by
  have eb:∀ t ∈ ob.reads,s.env t=(s.put oa.dst v H1).env t:=fun t ht=>(zjg t1 t ht).symm
  have ea:∀ (w:PV) (H:List AObj),∀ t ∈ oa.reads,(s.put ob.dst w H).env t=s.env t:=fun w H=>zjg t2
  have fb:ob.fp s=ob.fp (s.put oa.dst v H1):=zjf eb
  rcases hc with hc | hc | ⟨ca,cb,cc⟩
  · -- the first one does not look at memory
    obtain ⟨⟨ef,e1,e2,e3,e4⟩,hf⟩:=zk4.still ha.1 hc
    rw [hf] at e2
    obtain rfl:=zf8 (by rcases e2 with h | h <;> exact h)
    have e1':H1=s.heap:=e1
    subst e1'
    have hb1:zje P ob s u H2:=hb.1.env eb rfl
    have ha1:zje P oa (s.put ob.dst u H2) v H2:=e4 _ (ea u H2) (by rw [hf]; intro i hi; cases hi) (by intro e; cases e) (by intro e; cases e)
    refine ⟨H2,H2,⟨hb1,fun h=>?_⟩,⟨ha1,fun _=>(zk4.still ha1 hc).1⟩,zj3 t3 rfl,fb,zjf (ea u H2)⟩
    obtain ⟨ef',g1,-,-,-,g2⟩:=(hb.2 h).move (s2:=s) eb (fun _ _=>rfl) (fun _=>rfl) (fun _=>rfl)
    rw [show H2=ef'.apply s.heap from g1]; exact g2
  · -- the second one does not
    obtain ⟨⟨ef,e1,e2,e3,e4⟩,hf⟩:=zk4.still hb.1 hc
    rw [hf] at e2
    obtain rfl:=zf8 (by rcases e2 with h | h <;> exact h)
    have e1':H2=H1:=e1
    subst e1'
    have hb1:zje P ob s u s.heap:=e4 s eb (by rw [hf]; intro i hi; cases hi) (by intro e; cases e) (by intro e; cases e)
    have ha1:zje P oa (s.put ob.dst u s.heap) v H2:=ha.1.env (ea u s.heap) rfl
    refine ⟨s.heap,H2,⟨hb1,fun _=>(zk4.still hb1 hc).1⟩,⟨ha1,fun h=>?_⟩,zj3 t3 rfl,fb,zjf (ea u s.heap)⟩
    obtain ⟨ef',g1,-,-,-,g2⟩:=(ha.2 h).move (s2:=s.put ob.dst u s.heap) (ea u s.heap) (fun _ _=>rfl) (fun _=>rfl) (fun _=>rfl)
    rw [g1]; exact g2
  · obtain ⟨c1,c2,c3,c4,c5,c6⟩:=zpz cc
    obtain ⟨efa,a1,a2,a3,-⟩:=ha.2 ca
    have hS1:zfi (s.put oa.dst v H1).heap s.heap (ob.fp (s.put oa.dst v H1)).1:=fun i hi=>by
      have:=zq9 (H:=s.heap) (n0:=n0) a2 a3 c2 c3 c5 hn i hi
      rw [← a1] at this
      exact this.symm
    have hlen:(ob.fp (s.put oa.dst v H1)).2=2→s.heap.length=(s.put oa.dst v H1).heap.length:=fun e=>by
      show s.heap.length=H1.length
      rw [a1]
      cases efa with
      | none=>rfl
      | set id ob=>simp [Ef.apply]
      | push ob =>
        rcases a2 with a2 | a2
        · cases a2
        · exact (c1 ⟨a2.symm,e⟩).elim
      | all H2 =>
        rcases a2 with a2 | a2
        · cases a2
        · have:=(c5 a2.symm).1; rw [this] at e; cases e
    obtain ⟨efb,b1,b2,b3,b4,b5⟩:=(hb.2 cb).move (s2:=s) eb hS1 hlen (fun e=>by
      obtain rfl:=zf8 (ef:=efa) (by rcases a2 with a2 | a2; exact a2; rw [a2]; exact (c6 e).1)
      exact a1.symm)
    have hS2:zfi s.heap (s.put ob.dst u (efb.apply s.heap)).heap (oa.fp s).1 :=
      zq9 (H:=s.heap) (n0:=n0) b2 b3 (by
        rcases c2 with h | h
        · exact .inl ⟨h.2,h.1⟩
        · exact .inr fun i hi hi'=>h i hi' hi) c4 c6 hn
    have hlen2:(oa.fp s).2=2→(s.put ob.dst u (efb.apply s.heap)).heap.length=s.heap.length:=fun e=>by
      show (efb.apply s.heap).length=s.heap.length
      cases efb with
      | none=>rfl
      | set id ob=>simp [Ef.apply]
      | push ob =>
        rcases b2 with b2 | b2
        · cases b2
        · exact (c1 ⟨e,b2.symm⟩).elim
      | all H2 =>
        rcases b2 with b2 | b2
        · cases b2
        · have:=(c6 b2.symm).1; rw [this] at e; cases e
    obtain ⟨efa',d1,d2,d3,d4,d5⟩:=(ha.2 ca).move (s2:=s.put ob.dst u (efb.apply s.heap)) (ea _ _) hS2 hlen2 (fun e=>by
      obtain rfl:=zf8 (ef:=efb) (by rcases b2 with b2 | b2; exact b2; rw [b2]; exact (c5 e).1)
      rfl)
    refine ⟨_,_,⟨b4,fun _=>b5⟩,⟨d4,fun _=>d5⟩,zj3 t3 ?_,fb,zjf (ea _ _)⟩
    have hb1:H2=efb.apply H1:=b1
    rw [hb1,d1]
    exact zxu d2 b2 d3 b3 ⟨c1,c2,c3,c4,c5,c6⟩ hn
end
section
variable {x:Cx} {C:Conc} {H:List AObj} {w w':World} {P:Program}
theorem zc3 (w:World) {may:Nat→Prop}:Step w w may:=⟨yag _,rfl,rfl,rfl,fun _ _ _=>rfl⟩
theorem HR.own (hr : HR x C H w) (ver T sz : Nat) (sto ipu : Bool) (hsz : 0 < sz) :
    ∃ C',HR x C' (H ++ [.arr ver sto ipu T sz []]) w∧(∀ p v,RepV (zu x C H w) w C p v→RepV (zu x C' (H ++ [.arr ver sto ipu T sz []]) w) w C' p v) ∧
      RepV (zu x C' (H ++ [.arr ver sto ipu T sz []]) w) w C' (.arr H.length ver) (.slice none 0 0):=by
  let C':Conc:=⟨C.n + 1,C.blk,fun k=>if k=C.n then .slice none 0 0 else C.sv k,fun k=>if k=C.n then ver else C.ver k,C.old⟩
  have e1:C'.sv H.length = .slice none 0 0:=by show (if H.length=C.n then _ else _)=_; rw [if_pos hr.n.symm]
  have e2:C'.ver H.length=ver:=by show (if H.length=C.n then _ else _)=_; rw [if_pos hr.n.symm]
  obtain ⟨k1,k2⟩:=hr.push (C':=C') (ob' := .arr ver sto ipu T sz []) (zc3 w) rfl (fun _ _=>rfl) (fun k hk=>by show (if k=C.n then _ else _)=_; rw [if_neg (by omega)])
    (fun k hk=>by show (if k=C.n then _ else _)=_; rw [if_neg (by omega)])
    (fun b hb=>by
      have hb':(C'.sv H.length).ownBlock=some b:=hb
      rw [e1] at hb'; cases hb')
    (fun hm hmp=>⟨e2,hsz,by simp,[],by rw [e1]; exact ybL w 0 T sz,fun k row j p q a b c=>by simp at a⟩)
  refine ⟨C',k1,k2,?_⟩
  have:=RepV.arr (S:=zu x C' (H ++ [.arr ver sto ipu T sz []]) w) (w:=w) (C:=C') H.length (by show H.length < C.n + 1; rw [hr.n]; omega) (by rw [e1]; rfl)
  rw [e1,e2] at this
  exact this
theorem HR.rerow (hr : HR x C H w) {id v v' T sz g' cap' : Nat} {rows rows' : List (List PV)} {cur' : Array Value}
    (hid:H[id]? = some (.arr v true false T sz rows)) (hs:Step w w' fun b=>(C.sv id).ownBlock=some b)
    (hg:(C.sv id).ownBlock=some g'∨(w.heap.size≤g'∧∀ b,(C.sv id).ownBlock=some b→Unf w b→Unf w' b))
    (hv:(v'=v∧C.sv id = .slice (some ⟨g',0,none⟩) rows'.length cap')∨v < v')
    (hc:w'.heap[g']? = some (.cells cur' T (0,0))) (hn:rows'.length≤cap') (hm:cap'≤maxLen) (hz:cur'.size=cap' * sz) (hrow:∀ row ∈ rows',row.length=sz)
    (hrep:∀ (k:Nat) row (j:Nat) p u,rows'[k]? = some row→row[j]? = some p→cur'[k * sz + j]? = some u→u.oneCell'=true∧RepP (zu x C H w) w p u) :
    ∃ C',HR x C' (H.set id (.arr v' true false T sz rows')) w'∧(∀ p u,RepV (zu x C H w) w C p u→RepV (zu x C' (H.set id (.arr v' true false T sz rows')) w') w' C' p u) ∧
      RepV (zu x C' (H.set id (.arr v' true false T sz rows')) w') w' C' (.arr id v') (.slice (some ⟨g',0,none⟩) rows'.length cap'):=by
  obtain ⟨o1,o2,o3,xs,o4,o5⟩:=hr.obj id _ hid
  let C':Conc:=⟨C.n,C.blk,fun i=>if i=id then .slice (some ⟨g',0,none⟩) rows'.length cap' else C.sv i,fun i=>if i=id then v' else C.ver i,C.old⟩
  have e1:C'.sv id = .slice (some ⟨g',0,none⟩) rows'.length cap':=if_pos rfl
  have e2:C'.ver id=v':=if_pos rfl
  have hlt:id < C.n:=by rw [hr.n]; exact (yab.1 hid).1
  obtain ⟨k1,k2⟩:=hr.change (C':=C') hid (ob' := .arr v' true false T sz rows') hs rfl (fun _=>rfl)
    (fun i hi=>⟨if_neg hi,if_neg hi⟩)
    (by
      rcases hv with ⟨h1,h2⟩ | h1
      · exact .inl ⟨by rw [e2,h1,o1],by rw [e1,h2]⟩
      · exact .inr (by rw [e2,o1]; exact h1))
    (fun b o hb hf hb'=>by
      rw [e1] at hb'
      have hgb:g'=b:=by simpa [Value.ownBlock] using hb'
      rcases hg with hg | hg
      · have:=hf (by rw [hg,hgb]); simp at this
      · omega)
    (fun b o hb hf=>by have:=hf hb; simp at this)
    (fun b hb=>by
      have hb':(C'.sv id).ownBlock=some b:=hb
      rw [e1] at hb'
      have hgb:g'=b:=by simpa [Value.ownBlock] using hb'
      rcases hg with hg | hg
      · exact .inl (by show (C.sv id).ownBlock=some b; rw [hg,hgb])
      · exact .inr (by omega))
    (fun hm' hmp=>⟨e2,o2,hrow,cur'.toList.take (rows'.length * sz),
      ⟨by
        have hcl:rows'.length * sz≤cap' * sz:=yaj _ hn
        have hcs:cur'.toList.length=cur'.size:=yb2
        rw [yaz,hcs]; omega,
       .inr ⟨g',cap',cur',e1,ybv _,hc,hn,hm,hz,rfl⟩⟩,
      fun k row j p u a b c=>by
        rw [yaK] at c
        split at c
        · rw [yaV] at c
          obtain ⟨q1,q2⟩:=hrep k row j p u a b c
          exact ⟨q1,hmp _ _ q2⟩
        · cases c⟩) (hfz:=fun b hb h=>by
      rcases hg with hg | hg
      · have e:=ybe (hg.symm.trans hb)
        subst e
        exact .of hc
      · exact hg.2 b hb h)
  refine ⟨C',k1,k2,?_⟩
  have:=RepV.arr (S:=zu x C' (H.set id (.arr v' true false T sz rows')) w') (w:=w') (C:=C') id hlt (by rw [e1]; rfl)
  rw [e1,e2] at this
  exact this
theorem ztX {H : List AObj} (hr : HR x C H w) {t e : TypeId} {sz id v : Nat} {zs : List PV} (hu : P.underlying t = some (.slice e)) (hz : zev P e = some zs) (hs : zaO P e = some sz) (hid : H[id]? = some (.arr v true false e sz [])) :
    Zr x C H w (((do let a ← Instr.buildSlice t 0 #[]; pure (.value a)):Sem Next).run P w) (.arr id (v + 1)) (H.set id (.arr (v + 1) true false e sz [])):=by
  obtain ⟨z,hzr,hzs,hl,⟨it,hit,hzz,his⟩,hc⟩:=zcD (P:=P) (w:=w) (S:=zu x C H w) hz
  obtain rfl:z.cells.size=sz:=by rw [hs] at hzs; cases hzs; rfl
  have hit2:it.size=z.cells.size:=his
  have hrun:(Instr.buildSlice t 0 #[]).run P w = .ok (.slice (some ⟨w.heap.size,0,none⟩) 0 0) (w.alloc (.cells #[] e)):=by
    have er:(Array.range 0:Array Nat)=#[]:=rfl
    have ef:Instr.fill (fun i=>some (i * z.cells.size,z.cells.size)) #[] []=some #[]:=rfl
    simp [Instr.buildSlice,run_underlying hu,sizeOf,typeInfo,hit,hit2,newRow,er,ef]
  have ha:=zbq (may:=fun _=>False) w (.cells #[] e)
  obtain ⟨C',k1,k2,k3⟩:=hr.rerow (w':=w.alloc (.cells #[] e)) (v':=v + 1) (g':=w.heap.size) (cap':=0) (rows' := []) (cur':=#[]) hid
    ⟨ha.size,ha.os,ha.tape,ha.output,fun b hb _=>ha.blk b hb (fun h=>h)⟩ (.inr ⟨yag _,fun b hb h=>h.same (heap_alloc_old w _ (hr.blk_lt hid hb))⟩) (.inr (by omega)) (heap_alloc_new w _) (yag _) (by unfold maxLen; omega) (by simp) (by simp) (fun k row j p u h=>by simp at h)
  exact ⟨_,_,C',.inl (ZH hrun),k1,k2,k3⟩
theorem zpA {H : List AObj} (hr : HR x C H w) {e : TypeId} {id v : Nat} {zs : List PV} (hz : zev P e = some zs) (h0 : 0 < zs.length) (hid : H[id]? = some (.arr v true true e zs.length [])) :
    Zr x C H w (((do let a ← Instr.alloc e true (.tuple #[]); pure (.value a)):Sem Next).run P w) (.aptr id (v + 1) zs.length 0 0) (H.set id (.arr (v + 1) true true e zs.length [zs])):=by
  obtain ⟨z,hzr,-,hl,-,hc⟩:=zcD (P:=P) (w:=w) (S:=zu x C H w) hz
  have hrun:(Instr.alloc e true (.tuple #[])).run P w = .ok (.pointer (some ⟨w.heap.size,0,none⟩)) (w.alloc (.cells z.cells e)):=by
    simp [Instr.alloc,hzr,newVar,newRow,yal]
  have ha:=zbq (may:=fun _=>False) w (.cells z.cells e)
  obtain ⟨o1,o2,o3,xs,o4,o5⟩:=hr.obj id _ hid
  let C':Conc:=⟨C.n,C.blk,fun i=>if i=id then .slice (some ⟨w.heap.size,0,none⟩) 1 1 else C.sv i,fun i=>if i=id then v + 1 else C.ver i,C.old⟩
  have e1:C'.sv id = .slice (some ⟨w.heap.size,0,none⟩) 1 1:=if_pos rfl
  have e2:C'.ver id=v + 1:=if_pos rfl
  have hlt:id < C.n:=by rw [hr.n]; exact (yab.1 hid).1
  have hzl:z.cells.size=zs.length:=by rw [← hl,yb2]
  obtain ⟨k1,k2⟩:=hr.change (w':=w.alloc (.cells z.cells e)) (C':=C') hid (ob' := .arr (v + 1) true true e zs.length [zs]) ⟨ha.size,ha.os,ha.tape,ha.output,fun b hb _=>ha.blk b hb (fun h=>h)⟩ rfl (fun _=>rfl)
    (fun i hi=>⟨if_neg hi,if_neg hi⟩) (.inr (by rw [e2,o1]; omega))
    (fun b o hb hf hb'=>by
      rw [e1] at hb'
      have hgb:w.heap.size=b:=by simpa [Value.ownBlock] using hb'
      omega)
    (fun b o hb hf=>by have:=hf hb; simp at this)
    (fun b hb=>by
      have hb':(C'.sv id).ownBlock=some b:=hb
      rw [e1] at hb'
      have hgb:w.heap.size=b:=by simpa [Value.ownBlock] using hb'
      exact .inr (by omega))
    (fun hm hmp => ⟨e2, h0, by simp, z.cells.toList, ⟨by rw [hl]; simp, .inr ⟨w.heap.size, 1, z.cells, e1, ybv _, heap_alloc_new w _, yag _, by unfold maxLen; omega, by rw [hzl, ybw], by
        rw [yan]; rw [hl]; simp⟩⟩,
      fun k row j p u a b c=>by
        obtain ⟨rfl,rfl⟩:k=0∧row=zs:=by
          cases k with
          | zero=>simp at a; exact ⟨rfl,a.symm⟩
          | succ k=>simp at a
        rw [Nat.zero_mul,yaF] at c
        have:=hc j p u b c
        exact ⟨this.one,by rw [if_pos rfl]; exact .pure (hmp _ _ this)⟩⟩) (hfz:=fun b hb h=>h.same (heap_alloc_old w _ (hr.blk_lt hid hb)))
  refine ⟨_,_,C',.inl (ZH hrun),k1,k2,?_⟩
  have:=RepV.aptr (S:=zu x C' (H.set id (.arr (v + 1) true true e zs.length [zs])) (w.alloc (.cells z.cells e))) (w:=w.alloc (.cells z.cells e)) (C:=C') id zs.length 0 0 w.heap.size 1 1 hlt e1
  rw [e2,Nat.zero_mul,ybh] at this
  exact this
def zfl (op:Option Op) (lo lo':LOp):Prop:=lo'=lo∨(∃ T sz id,lo = .mk0 T sz∧lo' = .mk0i T sz id)∨∃ id zs,lo = .alloc zs∧lo' = .alloci (zlh op) id zs
theorem WOp.wp_inst {nt : Nat} {st : St} {a : Act} {o : Oper} {so : Bool} {lo lo' : LOp} {K : PV → List AObj → Prop} (hl : Z1 P o.op = some lo) (hi : zfl (some o.op) lo lo') (hd : ∀ t, o.dst = some t → t < nt) (h : WOp P so lo' st K) (hrel : Rel x nt st a w) {Kc : Act → World → Prop} {Q : Exit → Act → World → Prop}
    (hK:∀ v H' a' w',K v H'→Rel x nt (st.put o.dst v H') a' w'→Kc a' w'):o.wp P a w Kc Q:=by
  rcases hi with rfl | ⟨T,sz,id,rfl,rfl⟩ | ⟨id,zs,rfl,rfl⟩
  · exact h.wp hl hd hrel hK
  · obtain ⟨⟨C,hr,he⟩,hdf,hsz⟩:=hrel
    obtain ⟨v,H',h1,hk⟩:=h
    simp only [zo] at h1
    split at h1 <;> try (cases h1; done)
    rename_i v' T' sz' hid
    split at h1 <;> try (cases h1; done)
    rename_i hc
    obtain ⟨rfl,rfl⟩:=hc
    cases h1
    have:∃ t,o.op = .buildSlice t 0 #[]∧P.underlying t=some (.slice T')∧∃ zs,zev P T'=some zs∧zaO P T'=some sz':=by
      cases ho:o.op <;> rw [ho] at hl <;> simp only [Z1,reduceCtorEq] at hl
      case buildSlice t len parts =>
        split at hl <;> try (cases hl; done)
        rename_i e hu
        split at hl <;> try (cases hl; done)
        rename_i zs sz r h1 h2 h3
        split at hl <;> try (cases hl; done)
        split at hl
        · rename_i h0
          subst h0
          split at hl <;> try (cases hl; done)
          rename_i hp0
          cases hl
          obtain rfl:parts=#[]:=ybp hp0
          exact ⟨t,rfl,hu,zs,h1,h2⟩
        · split at hl <;> cases hl
      all_goals (repeat' (split at hl))
      all_goals first | (simp only [reduceCtorEq] at *; done) | (cases hl; done) | (obtain ⟨_,e⟩:=zE hl; cases e; done)
    obtain ⟨t,ho,hu,zs,h1,h2⟩:=this
    obtain ⟨vv,w',C',g1,g2,g3,g4⟩:=ztX (P:=P) hr hu h1 h2 hid
    unfold Oper.wp
    have hex:(execOp a.eval o).run P w=((do let a ← Instr.buildSlice t 0 #[]; pure (.value a)):Sem Next).run P w:=by simp [execOp,ho]
    rcases g1 with g1 | ⟨g1,rfl⟩ <;> rw [hex,g1]
    · exact hK _ _ _ w' hk (zbc hsz hdf g2 he g3 g4 hd)
    · exact hK _ _ _ w' hk (zbc hsz hdf g2 he g3 g4 hd)
  · obtain ⟨⟨C,hr,he⟩,hdf,hsz⟩:=hrel
    obtain ⟨v,H',h1,hk⟩:=h
    simp only [zo] at h1
    split at h1 <;> try (cases h1; done)
    rename_i v' T' sz' hid
    split at h1 <;> try (cases h1; done)
    rename_i hc
    obtain ⟨rfl,rfl,h0⟩:=hc
    cases h1
    have:∃ e,o.op = .alloc e∧zev P e=some zs:=by
      cases ho:o.op <;> rw [ho] at hl <;> simp only [Z1,reduceCtorEq] at hl
      case alloc e =>
        obtain ⟨zs',h3,h4⟩:=yad.1 hl
        cases h4
        exact ⟨e,rfl,h3⟩
      all_goals (repeat' (split at hl))
      all_goals first | (simp only [reduceCtorEq] at *; done) | (cases hl; done) | (obtain ⟨_,e⟩:=zE hl; cases e; done)
    obtain ⟨e,ho,hz⟩:=this
    have hid:st.heap[id]? = some (.arr v' true true e zs.length []):=by rw [hid,ho]; rfl
    obtain ⟨vv,w',C',g1,g2,g3,g4⟩:=zpA (P:=P) hr hz h0 hid
    unfold Oper.wp
    have hex:(execOp a.eval o).run P w=((do let a ← Instr.alloc e true (.tuple #[]); pure (.value a)):Sem Next).run P w:=by simp [execOp,ho]
    have hT:zlh (some o.op)=e:=by rw [ho]; rfl
    rw [hT] at hk
    rcases g1 with g1 | ⟨g1,rfl⟩ <;> rw [hex,g1]
    · exact hK _ _ _ w' hk (zbc hsz hdf g2 he g3 g4 hd)
    · exact hK _ _ _ w' hk (zbc hsz hdf g2 he g3 g4 hd)
end
inductive Run (P:Program) (n0:Nat) (F:Nat→List Nat × Nat):List (Nat × LOper)→St→St→Prop
 | nil {s:St}:Run P n0 F [] s s
 | cons {i:Nat} {o:LOper} {l:List (Nat × LOper)} {s s':St} {v:PV} {H':List AObj} (hn:n0≤s.heap.length) (hF:o.solo=false→o.fp s=F i) (h:zje P o s v H') (ht:Run P n0 F l (s.put o.dst v H') s'):Run P n0 F ((i,o) :: l) s s'
def zzz (n0:Nat) (F:Nat→List Nat × Nat) (i j:Nat) (a b:LOper):Prop :=
 (∀ t,a.dst=some t→t ∉ b.reads)∧(∀ t,b.dst=some t→t ∉ a.reads)∧(∀ t,a.dst=some t→b.dst≠some t)∧zD9 n0 a.solo b.solo a b (F i) (F j)
section
variable {P:Program} {n0:Nat} {F:Nat→List Nat × Nat}
theorem Run.bubble {j : Nat} {oj : LOper} {post : List (Nat × LOper)} {s' : St} : ∀ (pre : List (Nat × LOper)) (s : St), Run P n0 F (pre ++ (j, oj) :: post) s s' → (∀ p ∈ pre, zzz n0 F p.1 j p.2 oj) →
    ∃ v H',n0≤s.heap.length∧zje P oj s v H'∧(oj.solo=false→oj.fp s=F j)∧Run P n0 F (pre ++ post) (s.put oj.dst v H') s'
  | [],s,h,_=>by
    cases h with
    | cons hn hF h ht=>exact ⟨_,_,hn,h,hF,ht⟩
  | (i,oi) :: pre,s,h,hf=>by
    cases h with
    | cons hn hF h ht =>
      rename_i v H1
      obtain ⟨u,H2,h1,h2,h3,h4⟩:=Run.bubble pre _ ht fun p hp=>hf p (by simp [hp])
      obtain ⟨f1,f2,f3,f4⟩:=hf (i,oi) (by simp)
      obtain ⟨H3,H4,g1,g2,g3,g4,g5⟩:=zxv (n0:=n0) (sa:=oi.solo) (sb:=oj.solo) ⟨h,zk4.of h⟩ ⟨h2,zk4.of h2⟩ f1 f2 f3 hn (by
        rcases f4 with f4 | f4 | ⟨f4,f5,f6⟩
        · exact .inl f4
        · exact .inr (.inl f4)
        · exact .inr (.inr ⟨f4,f5,by rw [hF f4,h3 f5]; exact f6⟩))
      refine ⟨u,H3,hn,g1.1,fun e=>by rw [g4]; exact h3 e,.cons (v:=v) (H':=H4) (yaP hn g1.1.len) (fun e=>by rw [g5]; exact hF e) g2.1 (by rw [← g3]; exact h4)⟩
theorem Zq.run {K : St → Prop} : ∀ (l : List LOper) (k : Nat) (s : St), n0 ≤ s.heap.length → (∀ o ∈ l, o.op.isNil = false) →
    (∀ (i j:Nat) (a b:LOper),l[i]? = some a→l[j]? = some b→i≤j→a.solo=false→∀ t,b.dst=some t→t ∉ a.reads)→Zq P l K s →
    ∃ s',K s'∧(∀ t,(∀ o ∈ l,o.dst≠some t)→s'.env t=s.env t)∧∀ F:Nat→List Nat × Nat,(∀ (i:Nat) (o:LOper),l[i]? = some o→F (k + i)=o.fp s')→Run P n0 F ((l.zipIdx k).map fun p=>(p.2,p.1)) s s'
  | [],k,s,hn,_,_,h=>⟨s,h,fun _ _=>rfl,fun F _ => .nil⟩
  | o :: l,k,s,hn,hnil,hr,h=>by
    have step : ∀ v H', zje P o s v H' → Zq P l K (s.put o.dst v H') → ∃ s', K s' ∧ (∀ t, (∀ o' ∈ o :: l, o'.dst ≠ some t) → s'.env t = s.env t) ∧
        ∀ F:Nat→List Nat × Nat,(∀ (i:Nat) (o':LOper),(o :: l)[i]? = some o'→F (k + i)=o'.fp s')→Run P n0 F (((o :: l).zipIdx k).map fun p=>(p.2,p.1)) s s':=by
      intro v H' h1 h2
      obtain ⟨s',g1,g2,g3⟩:=Zq.run l (k + 1) (s.put o.dst v H') (yaP hn h1.len) (fun o' ho=>hnil o' (by simp [ho]))
        (fun i j a b ha hb hij=>hr (i + 1) (j + 1) a b (by simpa using ha) (by simpa using hb) (by omega)) h2
      have henv:∀ t,(∀ o' ∈ o :: l,o'.dst≠some t)→s'.env t=s.env t:=fun t ht=>by
        rw [g2 t fun o' ho=>ht o' (by simp [ho])]
        simp only [St.put]
        rw [if_neg (ht o (by simp))]
      refine ⟨s',g1,henv,fun F hF=>?_⟩
      simp only [List.zipIdx_cons,yaA]
      refine .cons hn (fun hso=>?_) h1 (g3 F fun i o' hi=>?_)
      · have:=hF 0 o rfl
        rw [ybh] at this
        rw [this]
        refine (zjf fun t ht=>henv t fun o' ho' e=>?_).symm
        obtain ⟨i,hi⟩:=List.getElem?_of_mem ho'
        exact hr 0 i o o' rfl hi (ybv _) hso t e ht
      · have:=hF (i + 1) o' (by simpa using hi)
        rw [← this]; congr 1; omega
    have take : o.want s = some true → WOp P o.solo o.op s (fun v H => Zq P l K (s.put o.dst v H)) → ∃ s', K s' ∧ (∀ t, (∀ o' ∈ o :: l, o'.dst ≠ some t) → s'.env t = s.env t) ∧
        ∀ F:Nat→List Nat × Nat,(∀ (i:Nat) (o':LOper),(o :: l)[i]? = some o'→F (k + i)=o'.fp s')→Run P n0 F (((o :: l).zipIdx k).map fun p=>(p.2,p.1)) s s':=by
      intro hw hk
      have hni:=hnil o (by simp)
      have:∃ v H',Opr P o.solo o.op s v H'∧Zq P l K (s.put o.dst v H'):=by
        cases ho:o.op <;> rw [ho] at hk hni <;> first | (obtain ⟨v,H',h1,h2⟩:=hk; exact ⟨v,H',h1,h2⟩) | (simp only [LOp.isNil,reduceCtorEq] at hni; done) | (obtain ⟨f,pre,caps,h1,h2,v,H',h3,h4⟩:=hk; exact ⟨v,H',⟨f,pre,caps,h1,h2,h3⟩,h4⟩)
      obtain ⟨v,H',h1,h2⟩:=this
      exact step v H' (.inl ⟨hw,h1⟩) h2
    simp only [Zq] at h
    split at h
    · rename_i hg
      exact take (by simp [LOper.want,hg]) h
    · rename_i t want hg
      split at h
      · rename_i b hb
        split at h
        · rename_i e; exact take (by simp [LOper.want,hg,hb,e]) h
        · rename_i e; exact step _ _ (.inr ⟨by simp [LOper.want,hg,hb,e],rfl,rfl⟩) h
      · rename_i hb
        exact step _ _ (.inr ⟨by simp [LOper.want,hg,hb],rfl,rfl⟩) h
      · exact h.elim
end
section
variable {P:Program} {x:Cx} {nt:Nat} {st:St} {ops:Array Oper}
theorem zje.wp {i : Nat} {o : Oper} {lo : LOper} {so : Bool} (hi : ops[i]? = some o) (hl : Zc P nt ops o = some lo) {op' : LOp} (hin : zfl (some o.op) lo.op op') {v : PV} {H' : List AObj} (h : zje P { lo with op := op', solo := so } st v H') {a : Act} {w : World} (hrel : Rel x nt st a w)
    {Kc:Act→World→Prop} {Q:Exit→Act→World→Prop} (hK:∀ a' w',Rel x nt (st.put lo.dst v H') a' w'→Kc a' w'):wpOp P ops Q i Kc a w:=by
  unfold Zc at hl
  split at hl <;> try (cases hl; done)
  rename_i lop hop
  split at hl <;> try (cases hl; done)
  rename_i hd
  have hd':∀ t,o.dst=some t→t < nt:=by
    intro t e
    rw [e] at hd
    simpa [zmR] using hd
  have skip:Region.wanted o (yielded ops a.tmps)=false→Rel x nt (st.put o.dst .undef st.heap) (a.put o.dst undef) w:=by
    intro hw
    obtain ⟨⟨C,hr1,he⟩,hdf,hsz⟩:=hrel
    exact zbc hsz hdf hr1 he (fun _ _ h=>h) .undef hd'
  have take:zfl (some o.op) lop op'→Region.wanted o (yielded ops a.tmps)=true→Opr P so op' st v H'→(∀ a' w',Rel x nt (st.put o.dst v H') a' w'→Kc a' w')→wpOp P ops Q i Kc a w:=by
    intro hin hw hr hK
    unfold wpOp
    simp only [hi]
    rw [if_pos hw]
    have hwo:WOp P so op' st fun v' H1=>v'=v∧H1=H':=by
      cases op' <;> first | exact ⟨v,H',hr,rfl,rfl⟩ | exact hr.elim | (obtain ⟨f,pre,caps,h1,h2,h3⟩:=hr; exact ⟨f,pre,caps,h1,h2,v,H',h3,rfl,rfl⟩)
    exact .inl (WOp.wp_inst hop hin hd' hwo hrel fun v1 H1 a' w' hk hrel'=>by obtain ⟨rfl,rfl⟩:=hk; exact hK a' w' hrel')
  have skip':Region.wanted o (yielded ops a.tmps)=false→v = .undef→H'=st.heap→(∀ a' w',Rel x nt (st.put o.dst v H') a' w'→Kc a' w')→wpOp P ops Q i Kc a w:=by
    intro hw e1 e2 hK
    subst e1; subst e2
    unfold wpOp
    simp only [hi]
    rw [if_neg (by simp [hw])]
    exact hK _ _ (skip hw)
  split at hl
  · rename_i hg
    cases hl
    rcases h with ⟨-,h⟩ | ⟨hw,-⟩
    · exact take hin (by simp [Region.wanted,hg]) h hK
    · simp [LOper.want] at hw
  · rename_i j want hg
    split at hl <;> try (cases hl; done)
    rename_i t ht
    split at hl <;> try (cases hl; done)
    rename_i htn
    cases hl
    obtain ⟨⟨C,hr1,he⟩,hdf,hsz⟩:=id hrel
    have hy:yielded ops a.tmps j=match a.tmps.getD t Go.undef with | .bool b=>some b | _=>none:=by
      unfold yielded
      rw [ht]
      have:t < a.tmps.size:=by rw [hsz]; exact htn
      have e:a.tmps[t]? = some (a.tmps.getD t Go.undef):=by simp [this]
      simp only [Option.bind_some,e]
      cases a.tmps.getD t Go.undef <;> rfl
    have het:=he t
    have hwant:∀ b,({ dst:=o.dst,op:=op',guard:=some (t,want),solo:=so:LOper }).want st=some b→Region.wanted o (yielded ops a.tmps)=b:=by
      intro b hb
      simp only [LOper.want] at hb
      split at hb <;> try (cases hb; done)
      · rename_i b' e
        cases hb
        rw [e] at het
        rw [het.bool_inv] at hy
        simp only [Region.wanted,hg,hy]
        cases b' <;> cases want <;> rfl
      · rename_i e
        cases hb
        rw [e] at het
        rw [het.undef_inv] at hy
        simp only [Region.wanted,hg,hy]
        rfl
    rcases h with ⟨hw,h⟩ | ⟨hw,h1,h2⟩
    · exact take hin (hwant _ hw) h hK
    · exact skip' (hwant _ hw) h1 h2 hK
structure Drawn (P:Program) (nt:Nat) (ops:Array Oper) (l:List LOper) (C:Nat→Nat→Prop) (n0:Nat) (F:Nat→List Nat × Nat):Prop where
 len:l.length=ops.size
 low:∀ (i:Nat) (o:Oper) (lo:LOper),ops[i]? = some o→l[i]? = some lo→∃ lo0 so op',Zc P nt ops o=some lo0∧zfl (some o.op) lo0.op op'∧lo = { lo0 with op:=op',solo:=so }
 back:∀ (j:Nat) (o:Oper),ops[j]? = some o→∀ e ∈ o.after,Region.binds .any e=true→e.on < j
 conn:∀ (i j:Nat) (o:Oper),ops[j]? = some o→i < j→C i j→∃ e ∈ o.after,Region.binds .any e=true∧(e.on=i∨i < e.on∧C i e.on)
 free:∀ (i j:Nat) (a b:LOper),l[i]? = some a→l[j]? = some b→i < j→C i j∨zzz n0 F i j a b
def zvI (ops:Array Oper) (listed:Array Bool):Prop:=∀ (j:Nat) (o:Oper),ops[j]? = some o→listed.getD j false=true→∀ e ∈ o.after,Region.binds .any e=true→listed.getD e.on false=true
theorem Drawn.up {l:List LOper} {C:Nat→Nat→Prop} {n0:Nat} {F:Nat→List Nat × Nat} (hd:Drawn P nt ops l C n0 F) {listed:Array Bool} (hc:zvI ops listed):∀ (j i:Nat) (o:Oper),ops[j]? = some o→(∀ e ∈ o.after,Region.binds .any e=true→listed.getD e.on false=true)→i < j→C i j→listed.getD i false=true:=by
 intro j
 induction j using Nat.strongRecOn with
 | _ j ih =>
  intro i o ho hall hij hcon
  obtain ⟨e,he,hb,h⟩:=hd.conn i j o ho hij hcon
  have hl:=hall e he hb
  have hlt:=hd.back j o ho e he hb
  rcases h with h | h
  ·
   rw [← h]; exact hl
  ·
   obtain ⟨o',ho'⟩:∃ o',ops[e.on]? = some o':=⟨ops[e.on]'(Nat.lt_trans hlt (yak.1 ho).1),ya4 _⟩
   exact ih e.on hlt i o' ho' (hc e.on o' ho' hl) h.1 h.2
theorem zxw {listed:Array Bool} {i:Nat} (h:i < listed.size) (hf:listed.getD i false=false):listed.getD i true=false:=by
 simp [h] at hf ⊢; exact hf
theorem zxx {listed:Array Bool} {i:Nat} (h:listed.getD i true=false):i < listed.size∧listed.getD i false=false:=by
 rcases Nat.lt_or_ge i listed.size with h' | h'
 ·
  refine ⟨h',?_⟩
  simp [h'] at h ⊢; exact h
 ·
  simp [ybV h'] at h
theorem Drawn.any {l : List LOper} {C : Nat → Nat → Prop} {n0 : Nat} {F : Nat → List Nat × Nat} (hd : Drawn P nt ops l C n0 F) {s' : St} {Qc : Exit → Act → World → Prop} (hQ : ∀ a w, Rel x nt s' a w → Qc .normal a w) :
    ∀ (fuel:Nat) (listed:Array Bool) (rem:List (Nat × LOper)) (s:St) (a:Act) (w:World),zvI ops listed→listed.size=ops.size→rem.length=fuel→rem.Pairwise (fun p q=>p.1 < q.1) →
      (∀ (i:Nat) (o:LOper),(i,o) ∈ rem↔l[i]? = some o∧listed.getD i true=false)→Run P n0 F rem s s'→Rel x nt s a w→wpAny P .any ops Qc fuel listed a w:=by
  intro fuel
  induction fuel with
  | zero =>
    intro listed rem s a w hc hsz hlen hp hm hrun hrel
    obtain rfl:=ybs.1 hlen
    cases hrun
    refine ⟨?_,hQ a w hrel⟩
    cases hr:Region.ready .any ops listed with
    | nil=>rfl
    | cons j js =>
      have hj:j ∈ Region.ready .any ops listed:=by rw [hr]; simp
      obtain ⟨h0,o,ho,-⟩:=mem_ready.1 hj
      have hlt:j < l.length:=by rw [hd.len]; exact (yak.1 ho).1
      have:=(hm j l[j]).2 ⟨yac hlt,h0⟩
      cases this
  | succ fuel ih =>
    intro listed rem s a w hc hsz hlen hp hm hrun hrel
    refine ⟨fun hr=>?_,fun j hj=>?_⟩
    · cases rem with
      | nil=>simp at hlen
      | cons p rest =>
        obtain ⟨i0,o0⟩:=p
        obtain ⟨g1,g2⟩:=(hm i0 o0).1 (by simp)
        have hlt:i0 < ops.size:=by rw [← hd.len]; exact (yab.1 g1).1
        have:i0 ∈ Region.ready .any ops listed:=by
          refine mem_ready.2 ⟨g2,ops[i0],ya4 hlt,fun e he hb=>?_⟩
          have hlt2:=hd.back i0 _ (ya4 hlt) e he hb
          cases hq:listed.getD e.on false with
          | true=>rfl
          | false =>
            have h1:=zxw (by omega) hq
            have hl2:e.on < l.length:=by rw [hd.len]; omega
            have h2:=(hm e.on l[e.on]).2 ⟨yac hl2,h1⟩
            rcases yaN.1 h2 with h2 | h2
            · cases h2; omega
            · have:=(ya7.1 hp).1 _ h2
              simp only at this; omega
        rw [hr] at this; cases this
    · obtain ⟨h0,o,ho,hall⟩:=mem_ready.1 hj
      have hjl:j < l.length:=by rw [hd.len]; exact (yak.1 ho).1
      have hlj:l[j]? = some l[j]:=yac hjl
      have hmem:=(hm j l[j]).2 ⟨hlj,h0⟩
      obtain ⟨pre,post,rfl⟩:=List.append_of_mem hmem
      obtain ⟨p1,p2,p3⟩:=ybf.1 hp
      obtain ⟨p4,p5⟩:=ya7.1 p2
      obtain ⟨v,H',-,q1,-,q2⟩:=Run.bubble pre s hrun fun p hpp=>by
        have hlt:p.1 < j:=p3 p hpp (j,l[j]) (by simp)
        obtain ⟨r1,r2⟩:=(hm p.1 p.2).1 (by simp [hpp])
        rcases hd.free p.1 j p.2 l[j] r1 hlj hlt with h | h
        · have:=hd.up hc j p.1 o ho hall hlt h
          rw [(zxx r2).2] at this; cases this
        · exact h
      obtain ⟨lo0,so,op',k1,k0,k2⟩:=hd.low j o _ ho hlj
      rw [k2] at q1 q2
      refine q1.wp ho k1 k0 hrel fun a' w' hrel'=>ih (listed.setIfInBounds j true) (pre ++ post) _ a' w' ?_ (by simpa using hsz) (by simp at hlen ⊢; omega) ?_ ?_ q2 hrel'
      · intro k ok hok hkl e he hb
        by_cases hkj:j=k
        · subst hkj
          rw [ho] at hok; cases hok
          exact getD_set_true (hall e he hb)
        · rw [getD_set_ne false hkj] at hkl
          exact getD_set_true (hc k ok hok hkl e he hb)
      · refine ybf.2 ⟨p1,p5,fun a ha b hb=>p3 a ha b (by simp [hb])⟩
      · intro k ok
        constructor
        · intro hk
          have hk':(k,ok) ∈ pre ++ (j,l[j]) :: post:=by
            rcases yai.1 hk with h | h
            · simp [h]
            · simp [h]
          obtain ⟨e1,e2⟩:=(hm k ok).1 hk'
          have hne:j≠k:=by
            rcases yai.1 hk with h | h
            · have:=p3 _ h _ (ybZ ..); simp only at this; omega
            · have:=p4 _ h; simp only at this; omega
          exact ⟨e1,by rw [getD_set_ne true hne]; exact e2⟩
        · rintro ⟨e1,e2⟩
          have hne:j≠k:=by
            rintro rfl
            have:=getD_set_true (i:=j) (j:=j) (listed:=listed)
            simp [hsz,(yak.1 ho).1] at e2
          rw [getD_set_ne true hne] at e2
          have:=(hm k ok).2 ⟨e1,e2⟩
          rcases yai.1 this with h | h
          · exact yai.2 (.inl h)
          · rcases yaN.1 h with h | h
            · cases h; exact (hne rfl).elim
            · exact yai.2 (.inr h)
theorem zra {a:Act} {w:World} (h:Rel x nt st a w) (n:Nat):Rel x nt st a { w with drawn:=n }:=by
 obtain ⟨⟨C,hr,he⟩,hdf,hsz⟩:=h
 obtain ⟨k1,k2,-⟩:=hr.grow (w' := { w with drawn:=n }) ⟨yag _,rfl,rfl,rfl,fun _ _ _=>rfl⟩
 exact ⟨⟨C,k1,fun t=>k2 _ _ (he t)⟩,hdf,hsz⟩
def zrb:List (Nat × Nat)→List LOper→Nat→(AE→St→Prop)→St→Prop
 | [],_,_,Q,st=>Q .normal st
 | (i,j) :: ps,ops,n0,Q,st=>(match ops[i]?,ops[j]? with | some a,some b=>zfk n0 (a.fp st) (b.fp st) | _,_=>false)=true∧zrb ps ops n0 Q st
def ziH:Option (List (Nat × Nat))→List LOper→Nat→(AE→St→Prop)→St→Prop
 | none,_,_,Q,st=>Q .normal st
 | some ps,ops,n0,Q,st=>zrb ps ops n0 Q st
theorem zjh {l:List LOper} {n0:Nat} {Q:AE→St→Prop} {s:St}:∀ {ps:List (Nat × Nat)},zrb ps l n0 Q s→Q .normal s∧∀ i j a b,(i,j) ∈ ps→l[i]? = some a→l[j]? = some b→zfk n0 (a.fp s) (b.fp s)=true
 | [],h=>⟨h,fun _ _ _ _ hm=>by cases hm⟩
 | (i0,j0) :: ps,h=>by
  obtain ⟨h1,h2⟩:=h
  obtain ⟨g1,g2⟩:=zjh h2
  refine ⟨g1,fun i j a b hm ha hb=>?_⟩
  rcases yaN.1 hm with hm | hm
  ·
   cases hm
   rw [ha,hb] at h1
   exact h1
  ·
   exact g2 i j a b hm ha hb
theorem zfm {nt:Nat} {ops:Array Oper}:∀ {l:List Oper} {lops:List LOper},zF P nt ops l=some lops→lops.length=l.length∧∀ (i:Nat) (o:Oper) (lo:LOper),l[i]? = some o→lops[i]? = some lo→Zc P nt ops o=some lo
 | [],lops,h=>by
  simp only [zF,yae] at h; subst h
  exact ⟨rfl,fun i o lo h=>by simp at h⟩
 | o :: l,lops,h=>by
  simp only [zF] at h
  split at h <;> try (cases h; done)
  rename_i lo r h1 h2
  cases h
  obtain ⟨g1,g2⟩:=zfm h2
  refine ⟨by simp [g1],fun i o' lo' ho hl=>?_⟩
  cases i with
  | zero=>simp at ho hl; subst ho; subst hl; exact h1
  | succ i=>exact g2 i o' lo' (by simpa using ho) (by simpa using hl)
theorem zdP {d:Option Nat} {l:List Nat} (h:zhr d l=true):∀ t,d=some t→t ∉ l:=by
 rintro t rfl ht
 simp [zhr,ht] at h
theorem zlk {d e:Option Nat} (h:zm0 d e=false):∀ t,d=some t→e≠some t:=by
 rintro t rfl rfl
 simp [zm0] at h
theorem zpB {o:LOp} (h:o.kind0=true) (s:St):o.kind s=0:=by
 cases o <;> first | rfl | (simp [LOp.kind0] at h; done) | (simp [LOp.kind0] at h; simp [LOp.kind,h])
theorem zll {n0:Nat} {a b:LOper} {s:St} (ha:a.op.kind0=true) (hb:b.op.kind0=true):zfk n0 (a.fp s) (b.fp s)=true:=by
 have h1:∀ c:LOper,c.op.kind0=true→(c.fp s).2=0:=fun c hc=>by
  unfold LOper.fp
  split
  ·
   exact zpB hc s
  ·
   rfl
 simp [zfk,h1 a ha,h1 b hb]
theorem zf9 {l : List LOper} {pre : List (List Nat)} {ms : List Nat} {pairs : List (Nat × Nat)} (hc : zcR pre ms l pairs = true) {i j : Nat} {a b : LOper} (ha : l[i]? = some a) (hb : l[j]? = some b) (hij : i ≤ j) :
    (a.solo=false→∀ t,b.dst=some t→t ∉ a.reads)∧(i < j→conn ms i j=true∨zjd pairs i j a b=true)∧a.op.isNil=false:=by
  simp only [zcR,yat] at hc
  obtain ⟨-,c3⟩:=hc
  have h1:=yar.1 c3 (a,i) (ybB.2 ha)
  simp only [yat,yaQ] at h1
  obtain ⟨h2,h3⟩:=h1
  have h4:=yar.1 h3 (b,j) (ybB.2 hb)
  simp only [ybI,yat,decide_eq_true_eq] at h4
  rcases h4 with h4 | ⟨h4,h5⟩
  · omega
  · refine ⟨fun hso=>zdP (h4.resolve_left (by simp [hso])),fun hlt=>?_,h2⟩
    rcases h5 with (h5 | h5) | h5
    · omega
    · exact .inl h5
    · exact .inr h5
theorem zlm {l : List LOper} {n0 : Nat} {s : St} {ms : List Nat} {pairs : List (Nat × Nat)} (hlen : l.length = ops.size)
    (hlow:∀ (i:Nat) (o:Oper) (lo:LOper),ops[i]? = some o→l[i]? = some lo→∃ lo0 so op',Zc P nt ops o=some lo0∧zfl (some o.op) lo0.op op'∧lo = { lo0 with op:=op',solo:=so })
    (hc:zcR (zcB ops) ms l pairs=true)
    (hp:∀ i j a b,(i,j) ∈ pairs→l[i]? = some a→l[j]? = some b→zfk n0 (a.fp s) (b.fp s)=true) :
    Drawn P nt ops l (fun i j=>conn ms i j=true) n0 (fun i=>match l[i]? with | some o=>o.fp s | none=>([],0)):=by
  have hc0:=hc
  simp only [zcR,yat] at hc
  obtain ⟨⟨c1,c2⟩,c3⟩:=hc
  have hpre:∀ (j:Nat) (o:Oper),ops[j]? = some o→(((o.after.toList.filter (Region.binds .any)).map (·.on)),j) ∈ (zcB ops).zipIdx:=by
    intro j o ho
    rw [ybB]
    simp [zcB,ho]
  have k1:∀ (j:Nat) (o:Oper),ops[j]? = some o→∀ e ∈ o.after,Region.binds .any e=true→e.on < j:=by
    intro j o ho e he hb
    have:=yar.1 c1 _ (hpre j o ho)
    have:=yar.1 this e.on (yaG.2 ⟨e,ya1.2 ⟨by simpa using he,hb⟩,rfl⟩)
    simpa using this
  have k3:=fun i j a b=>zf9 (i:=i) (j:=j) (a:=a) (b:=b) hc0
  refine ⟨hlen,hlow,k1,?_,?_⟩
  · intro i j o ho hij hcon
    have:=yar.1 c2 _ (hpre j o ho)
    have:=yar.1 this i (yaW.2 hij)
    simp only [ybI,yaQ,ybn,yat,decide_eq_true_eq,beq_iff_eq] at this
    rcases this with h | ⟨e,h1,h2⟩
    · rw [hcon] at h; cases h
    · obtain ⟨e',h3,rfl⟩:=yaG.1 h1
      obtain ⟨h4,h5⟩:=ya1.1 h3
      exact ⟨e',by simpa using h4,h5,h2⟩
  · intro i j a b ha hb hij
    obtain ⟨h1,h2,-⟩:=k3 i j a b ha hb (Nat.le_of_lt hij)
    rcases h2 hij with h | h
    · exact .inl h
    · refine .inr ?_
      simp only [zjd,yat,yaQ,ybI,beq_iff_eq] at h
      obtain ⟨⟨⟨g0,g1⟩,g2⟩,g3⟩:=h
      refine ⟨zdP g1,zdP g0,zlk g2,?_⟩
      simp only [ha,hb]
      rcases g3 with (g3 | g3) | ⟨⟨g3,g4⟩,g5⟩
      · exact .inl g3
      · exact .inr (.inl g3)
      · refine .inr (.inr ⟨g3,g4,?_⟩)
        rcases g5 with ⟨g5,g6⟩ | g5
        · exact zll g5 g6
        · exact hp i j a b (by simpa using g5) ha hb
theorem zhw {l0 l1 : List LOper} {ms : List Nat} (hl0 : zF P nt ops ops.toList = some l0) (hlen : l1.length = l0.length)
    (h1:∀ (i:Nat) (lo1:LOper),l1[i]? = some lo1→∃ lo0 op',l0[i]? = some lo0∧zfl ((ops.toList[i]?).map (·.op)) lo0.op op'∧lo1 = { lo0 with op:=op' }) :
    (zdl ms l1).length=ops.size∧∀ (i:Nat) (o:Oper) (lo:LOper),ops[i]? = some o→(zdl ms l1)[i]? = some lo→∃ lo0 so op',Zc P nt ops o=some lo0∧zfl (some o.op) lo0.op op'∧lo = { lo0 with op:=op',solo:=so }:=by
  obtain ⟨m1,m2⟩:=zfm hl0
  refine ⟨by simp [zdl,m1,hlen],fun i o lo ho hlo=>?_⟩
  simp only [zdl,yav,yad] at hlo
  obtain ⟨p,hp1,rfl⟩:=hlo
  rw [List.getElem?_zipIdx] at hp1
  obtain ⟨lo1,g1,rfl⟩:=yad.1 hp1
  obtain ⟨lo0,op',g2,g3,rfl⟩:=h1 i lo1 g1
  have hot:ops.toList[i]? = some o:=by simpa using ho
  rw [hot] at g3
  exact ⟨lo0,_,op',m2 i o lo0 hot g2,g3,rfl⟩
theorem zon {id : Nat} {rops : Array Oper} {l : List LOper} {ps : List (Nat × Nat)} {Q : AE → St → Prop} (hfol : P.follows .mixedOrders = true) (hlen : l.length = rops.size)
    (hlow:∀ (i:Nat) (o:Oper) (lo:LOper),rops[i]? = some o→l[i]? = some lo→∃ lo0 so op',Zc P nt rops o=some lo0∧zfl (some o.op) lo0.op op'∧lo = { lo0 with op:=op',solo:=so })
    (hchk:zcR (zcB rops) (zbB (zcB rops) []) l ps=true) (h:Zq P l (ziH (some ps) l st.heap.length Q) st) {a:Act} {w:World} (hrel:Rel x nt st a w):(Code.region id rops true).wp P (zbV x nt Q) a w:=by
  obtain ⟨s',h1,-,h2⟩:=Zq.run (n0:=st.heap.length) l 0 st (yag _) (fun o ho=>by
    obtain ⟨i,hi⟩:=List.getElem?_of_mem ho
    exact (zf9 hchk hi hi (yag _)).2.2) (fun i j a b ha hb hij=>(zf9 hchk ha hb hij).1) h
  obtain ⟨hq,hcp⟩:=zjh h1
  have hd:=zlm (n0:=st.heap.length) (s:=s') hlen hlow hchk hcp
  refine wp_region_any hfol (hd.any (s':=s') (fun a' w' hr=>⟨s',hq,hr⟩) rops.size _ _ st a _ ?_ (by simp) ?_ ?_ ?_ (h2 _ fun i o ho=>?_) (zra hrel _))
  · intro j o hj hl
    exfalso
    by_cases hjn:j < rops.size <;> simp [hjn] at hl
  · simp [hd.len]
  · rw [yaT]
    intro i j hi hj hij
    simpa using hij
  · intro i o
    have hlo:∀ lo,l[i]? = some lo→i < rops.size:=fun lo h=>by rw [← hd.len]; exact (yab.1 h).1
    constructor
    · intro hm
      obtain ⟨p,h3,h4⟩:=yaG.1 hm
      cases h4
      have h5:=ybB.1 h3
      have:=hlo _ h5
      exact ⟨h5,by simp [this]⟩
    · rintro ⟨h3,-⟩
      exact yaG.2 ⟨(o,i),ybB.2 h3,rfl⟩
  · simp only [yaF,ho]
theorem zCB {dr:Option (List (Nat × Nat))} {l:List LOper} {Q:AE→St→Prop} (h:Zq P l (ziH dr l st.heap.length Q) st):W P x nt (.reg dr l) Q st:=by
 intro c hc a w hrel
 cases c <;> simp only [zq,reduceCtorEq] at hc
 case region id rops draw =>
  split at hc <;> try (cases hc; done)
  rename_i l0 hl
  split at hc
  ·
   rename_i hd
   subst hd
   split at hc
   ·
    unfold Za at hc
    split at hc <;> cases hc
   ·
    unfold Zl at hc
    split at hc <;> try (cases hc; done)
    rename_i hok
    obtain ⟨hchk,hfol⟩:=hok
    cases hc
    obtain ⟨k1,k2⟩:=zhw (ms:=zbB (zcB rops) []) hl rfl fun i lo1 h1=>⟨lo1,lo1.op,h1,.inl rfl,rfl⟩
    exact zon hfol k1 k2 hchk h hrel
  ·
   rename_i hd
   cases hc
   obtain rfl:draw=false:=by simpa using hd
   exact wp_region_list (Zq.wp (fun st a w hk hr=>⟨st,hk,hr⟩) rops.toList _ st a w hl h hrel)
 all_goals (repeat' (split at hc)) <;> first | (cases hc; done) | (unfold Zl at hc; split at hc <;> cases hc; done) | (unfold Za at hc; split at hc <;> cases hc; done) | (obtain ⟨_,e⟩:=zE hc; cases e; done)
theorem zj4 {o:Oper} {lo:LOper} {T sz id:Nat} (h:Zc P nt ops o=some lo) (he:lo.op = .mk0i T sz id):False:=by
 unfold Zc at h
 split at h <;> try (cases h; done)
 rename_i lop hop
 have hl:lo.op=lop:=by
  repeat' (split at h)
  all_goals first | (cases h; rfl) | (cases h; done)
 rw [hl] at he
 subst he
 cases hoo:o.op <;> rw [hoo] at hop <;> simp only [Z1,reduceCtorEq] at hop
 all_goals (repeat' (split at hop))
 all_goals first | (simp only [reduceCtorEq] at *; done) | (cases hop; done) | (obtain ⟨_,e⟩:=zE hop; cases e; done)
theorem zhx {o:Oper} {lo:LOper} {T id:Nat} {zs:List PV} (h:Zc P nt ops o=some lo) (he:lo.op = .alloci T id zs):False:=by
 unfold Zc at h
 split at h <;> try (cases h; done)
 rename_i lop hop
 have hl:lo.op=lop:=by
  repeat' (split at h)
  all_goals first | (cases h; rfl) | (cases h; done)
 rw [hl] at he
 subst he
 cases hoo:o.op <;> rw [hoo] at hop <;> simp only [Z1,reduceCtorEq] at hop
 all_goals (repeat' (split at hop))
 all_goals first | (simp only [reduceCtorEq] at *; done) | (cases hop; done) | (obtain ⟨_,e⟩:=zE hop; cases e; done)
/-! regions whose empty slices have objects from the beginning -/
def zm2 (L:Nat):LOp→LOp
 | .mk0i T sz k => .mk0i T sz (L + k)
 | .alloci T k zs => .alloci T (L + k) zs
 | o=>o
def zdQ (L:Nat) (o:LOper):LOper:=⟨o.dst,zm2 L o.op,o.guard,o.solo⟩
theorem zfn (L:Nat) (o:LOp):(zm2 L o).eff=o.eff∧(zm2 L o).kind0=o.kind0∧(zm2 L o).isNil=o.isNil∧(zm2 L o).tmps=o.tmps:=by
 cases o <;> exact ⟨rfl,rfl,rfl,rfl⟩
theorem zhy (L:Nat) (o:LOper):(zdQ L o).reads=o.reads:=by
 simp only [LOper.reads,zdQ,(zfn L o.op).2.2.2]
theorem zrc {pairs:List (Nat × Nat)} {i j:Nat} {L:Nat} (a b:LOper):zjd pairs i j (zdQ L a) (zdQ L b)=zjd pairs i j a b:=by
 obtain ⟨a1,a2,a3,a4⟩:=zfn L a.op
 obtain ⟨b1,b2,b3,b4⟩:=zfn L b.op
 simp only [zjd,zhy]
 simp only [zdQ,a1,a2,b1,b2]
theorem ztY {pre:List (List Nat)} {ms:List Nat} {l:List LOper} {pairs:List (Nat × Nat)} (L:Nat):zcR pre ms (l.map (zdQ L)) pairs=zcR pre ms l pairs:=by
 have hz:(l.map (zdQ L)).zipIdx=l.zipIdx.map fun p=>(zdQ L p.1,p.2):=by
  apply List.ext_getElem?
  intro i
  simp only [List.getElem?_zipIdx,yav,Option.map_map]
  rfl
 simp only [zcR,hz,List.all_map]
 congr 1
 refine congrArg (fun f=>List.all l.zipIdx f) (funext fun p=>?_)
 obtain ⟨a,i⟩:=p
 obtain ⟨a1,a2,a3,a4⟩:=zfn L a.op
 simp only [Function.comp_apply]
 have e1:(zdQ L a).op.isNil=a.op.isNil:=a3
 rw [e1]
 congr 1
 refine congrArg (fun f=>List.all l.zipIdx f) (funext fun q=>?_)
 obtain ⟨b,j⟩:=q
 simp only [Function.comp_apply,zrc,zhy]
 rfl
theorem zji {al:Bool}:∀ (l:List LOper) (os:List Oper) (k i:Nat) (lo1:LOper),(zbQ al k os l)[i]? = some lo1→∃ lo0 op',l[i]? = some lo0∧zfl ((os[i]?).map (·.op)) lo0.op op'∧lo1 = { lo0 with op:=op' }
 | [],os,k,i,lo1,h=>by simp [zbQ] at h
 | o :: l,os,k,0,lo1,h=>by
  simp only [zbQ,ya8,yae] at h
  subst h
  refine ⟨o,zq6 al (zlh (os[0]?.map (·.op))) k o.op,rfl,?_,rfl⟩
  cases ho:o.op <;> first | exact .inl rfl | exact .inr (.inl ⟨_,_,_,rfl,rfl⟩) | skip
  simp only [zq6]
  split
  ·
   exact .inr (.inr ⟨_,_,rfl,rfl⟩)
  ·
   exact .inl rfl
 | o :: l,os,k,i + 1,lo1,h=>by
  simp only [zbQ,ybP] at h
  obtain ⟨lo0,op',h1,h2,h3⟩:=zji l _ _ i lo1 h
  rw [ybg,Nat.add_comm 1 i] at h2
  exact ⟨lo0,op',by simpa using h1,h2,h3⟩
theorem zhz {al:Bool}:∀ (l:List LOper) (os:List Oper) (k:Nat),(zbQ al k os l).length=l.length
 | [],os,k=>rfl
 | o :: l,os,k=>by simp [zbQ,zhz l]
def zeX (p:Nat × Nat × Bool):AObj := .arr 0 true p.2.2 p.1 p.2.1 []
theorem zln:∀ (sl:List (Nat × Nat × Bool)) {st:St},(sl.all fun p=>decide (0 < p.2.1))=true→∀ a w,Rel x nt st a w→Rel x nt ⟨st.env,st.heap ++ sl.map zeX⟩ a w
 | [],st,_,a,w,h=>by simpa using h
 | p :: sl,st,hs,a,w,⟨⟨C,hr,he⟩,hdf,hsz⟩=>by
  simp only [ybN,yat,decide_eq_true_eq] at hs
  obtain ⟨C',k1,k2,-⟩:=hr.own 0 p.1 p.2.1 true p.2.2 hs.1
  have:=zln sl (st:=⟨st.env,st.heap ++ [zeX p]⟩) hs.2 a w ⟨⟨C',k1,fun t=>k2 _ _ (he t)⟩,hdf,hsz⟩
  simpa [ybb] using this
theorem zzA {sl:List (Nat × Nat × Bool)} {ps:List (Nat × Nat)} {l:List LOper} {Q:AE→St→Prop} (h:Zq P (l.map (zdQ st.heap.length)) (ziH (some ps) (l.map (zdQ st.heap.length)) (st.heap.length + sl.length) Q) ⟨st.env,st.heap ++ sl.map zeX⟩):W P x nt (.regS sl ps l) Q st:=by
 intro c hc a w hrel
 cases c <;> simp only [zq,reduceCtorEq] at hc
 case region id rops draw =>
  split at hc <;> try (cases hc; done)
  rename_i l0 hl
  split at hc
  ·
   rename_i hd
   subst hd
   split at hc
   ·
    unfold Za at hc
    split at hc <;> try (cases hc; done)
    rename_i hok
    obtain ⟨hchk,hfol,hsl⟩:=hok
    cases hc
    obtain ⟨k1,k2⟩:=zhw (ms:=zbB (zcB rops) []) hl (zhz l0 rops.toList 0) fun i lo1 h1=>zji l0 rops.toList 0 i lo1 h1
    refine zon (l:=(zdl (zbB (zcB rops) []) (zbQ (ztQ rops l0) 0 rops.toList l0)).map (zdQ st.heap.length)) (st:=⟨st.env,st.heap ++ (zhs (ztQ rops l0) rops.toList l0).map zeX⟩) hfol (by simpa using k1) (fun i o lo ho hlo=>?_) (by rw [ztY]; exact hchk) (by simpa using h) (zln _ hsl a w hrel)
    rw [yav] at hlo
    obtain ⟨lo1,h1,rfl⟩:=yad.1 hlo
    obtain ⟨lo0,so,op',g1,g2,rfl⟩:=k2 i o lo1 ho h1
    refine ⟨lo0,so,zm2 st.heap.length op',g1,?_,rfl⟩
    rcases g2 with rfl | ⟨T,sz,id,e1,rfl⟩ | ⟨id,zs,e1,rfl⟩
    ·
     cases hq:lo0.op <;> first | exact .inl rfl | (exact (zj4 g1 hq).elim) | (exact (zhx g1 hq).elim)
    ·
     exact .inr (.inl ⟨T,sz,_,e1,rfl⟩)
    ·
     exact .inr (.inr ⟨_,zs,e1,rfl⟩)
   ·
    unfold Zl at hc
    split at hc <;> cases hc
  ·
   cases hc
 all_goals (repeat' (split at hc)) <;> first | (cases hc; done) | (unfold Zl at hc; split at hc <;> cases hc; done) | (unfold Za at hc; split at hc <;> cases hc; done) | (obtain ⟨_,e⟩:=zE hc; cases e; done)
end
def mkE (d:PV):List (Nat × PV)→Nat→PV
 | [],_=>d
 | (k,v) :: l,t=>if k=t then v else mkE d l t
theorem zaW (d:PV) (k:Nat) (v:PV) (l:List (Nat × PV)) (t:Nat):mkE d ((k,v) :: l) t=if k=t then v else mkE d l t:=rfl
theorem zbR (d:PV) (t:Nat):mkE d [] t=d:=rfl
theorem zc4 (d:PV) (l:List (Nat × PV)) (H H':List AObj) (t:Nat) (v:PV):(St.mk (mkE d l) H).put (some t) v H'=⟨mkE d ((t,v) :: l),H'⟩:=by
 simp only [St.put,St.mk.injEq,and_true]
 funext u
 simp only [mkE,yae]
theorem ztZ (s:St) (v:PV) (H':List AObj):s.put none v H'=⟨s.env,H'⟩:=by
 simp [St.put]
def zmL:Nat→List PV→List (Nat × PV)
 | _,[] => []
 | k,p :: ps=>(k,p) :: zmL (k + 1) ps
theorem zzB (ps:List PV):∀ k t,mkE .undef (zmL k ps) t=if t < k then .undef else ps.getD (t - k) .undef:=by
 induction ps with
 | nil=>intro k t; simp [zmL,mkE]
 | cons p ps ih =>
  intro k t
  simp only [zmL,mkE]
  by_cases e:k=t
  ·
   subst e; simp
  ·
   rw [if_neg e,ih (k + 1) t]
   by_cases h:t < k
   ·
    rw [if_pos h,if_pos (by omega)]
   ·
    rw [if_neg h,if_neg (by omega)]
    obtain ⟨m,hm⟩:∃ m,t - k=m + 1:=⟨t - k - 1,by omega⟩
    rw [hm,show t - (k + 1)=m by omega]; rfl
theorem zj5 (ps:List PV) (H:List AObj):St.init ps H=⟨mkE .undef (zmL 0 ps),H⟩:=by
 simp only [St.init,St.mk.injEq,and_true]
 funext t
 rw [zzB]; simp
theorem zh (d : PV) (l : List (Nat × PV)) (H : List AObj) (live : List Nat) (m : Nat) :
    (St.mk (mkE d l) H).trim live m=⟨mkE .top (live.map fun t=>(t,zdA false (pos (List.range m)) (zt true H) (mkE d l t))),ze (pos (List.range m)) (zt true H) H (List.range m)⟩:=by
  simp only [St.trim,St.mk.injEq,and_true]
  funext t
  induction live with
  | nil=>simp [mkE]
  | cons k live ih =>
    simp only [yaA,mkE]
    by_cases e:k=t
    · subst e; simp
    · rw [if_neg e,← ih]
      simp [Ne.symm e]
section
variable {P:Program} {so:Bool} {st:St} {rest:List LOper} {K:St→Prop} {d:Option Nat}
def LOp.plain:LOp→Bool
 | .call .. | .callv .. | .isnil .. => false
 | _=>true
theorem zrd {o:LOp} (ho:o.plain=true) {st:St} {K:PV→List AObj→Prop}:WOp P so o st K=(match zo st o with | some (v,H)=>K v H | none=>False):=by
 have key:∀ r:Option (PV × List AObj),(∃ v H,r=some (v,H)∧K v H)=(match r with | some (v,H)=>K v H | none=>False):=by
  intro r
  cases r with
  | none=>simp
  | some p =>
   obtain ⟨v,H⟩:=p
   exact propext ⟨fun ⟨v',H',e,h⟩=>by cases e; exact h,fun h=>⟨v,H,rfl,h⟩⟩
 cases o <;> first | exact key _ | simp [LOp.plain] at ho
theorem zxy:Zq P [] K st=K st:=rfl
theorem zre {o:LOp} (ho:o.plain=true):Zq P (⟨d,o,none,so⟩ :: rest) K st=(match zo st o with | some (v,H)=>Zq P rest K (st.put d v H) | none=>False):=by
 simp only [Zq]; exact zrd ho
def ZB (P:Program) (d:Option Nat) (rest:List LOper) (K:St→Prop) (st:St):Option (PV × List AObj)→Prop
 | some (v,H)=>Zq P rest K (st.put d v H)
 | none=>False
theorem zm3 {v:PV} {H:List AObj}:ZB P d rest K st (some (v,H))=Zq P rest K (st.put d v H):=rfl
theorem zH {o:LOp} (ho:o.plain=true):Zq P (⟨d,o,none,so⟩ :: rest) K st=ZB P d rest K st (zo st o):=by
 rw [zre ho]
 cases zo st o with
 | none=>rfl
 | some p=>rfl
theorem zzC {x:LOpd}:Zq P (⟨d,.mv x,none,so⟩ :: rest) K st=ZB P d rest K st (zo st (.mv x)):=zH rfl
theorem zt0 {x y z:LOpd}:Zq P (⟨d,.pick x y z,none,so⟩ :: rest) K st=ZB P d rest K st (zo st (.pick x y z)):=zH rfl
theorem zrf {zs:List PV}:Zq P (⟨d,.alloc zs,none,so⟩ :: rest) K st=ZB P d rest K st (zo st (.alloc zs)):=zH rfl
theorem zxz {x:LOpd}:Zq P (⟨d,.box x,none,so⟩ :: rest) K st=ZB P d rest K st (zo st (.box x)):=zH rfl
theorem zrg {zs:List PV} {parts:List (Nat × Nat × LOpd)}:Zq P (⟨d,.build zs parts,none,so⟩ :: rest) K st=ZB P d rest K st (zo st (.build zs parts)):=zH rfl
theorem zxA {sz:Nat} {zs:List PV} {n:Nat} {parts:List (Nat × LOpd)}:Zq P (⟨d,.mks sz zs n parts,none,so⟩ :: rest) K st=ZB P d rest K st (zo st (.mks sz zs n parts)):=zH rfl
theorem zt1 {T sz:Nat} {zs:List PV} {n:Nat} {parts:List (Nat × LOpd)}:Zq P (⟨d,.mksA T sz zs n parts,none,so⟩ :: rest) K st=ZB P d rest K st (zo st (.mksA T sz zs n parts)):=zH rfl
theorem zxB {T sz:Nat}:Zq P (⟨d,.mk0 T sz,none,so⟩ :: rest) K st=ZB P d rest K st (zo st (.mk0 T sz)):=zH rfl
theorem zt2 {T sz id:Nat}:Zq P (⟨d,.mk0i T sz id,none,so⟩ :: rest) K st=ZB P d rest K st (zo st (.mk0i T sz id)):=zH rfl
theorem zpC {T id:Nat} {zs:List PV}:Zq P (⟨d,.alloci T id zs,none,so⟩ :: rest) K st=ZB P d rest K st (zo st (.alloci T id zs)):=zH rfl
theorem zxC {T sz bytes:Nat} {zs:List PV} {n c:LOpd}:Zq P (⟨d,.mkn T sz bytes zs n c,none,so⟩ :: rest) K st=ZB P d rest K st (zo st (.mkn T sz bytes zs n c)):=zH rfl
theorem zt3 {n:Nat} {ag:Bool} {x:LOpd}:Zq P (⟨d,.load n ag x,none,so⟩ :: rest) K st=ZB P d rest K st (zo st (.load n ag x)):=zH rfl
theorem zrh {n:Nat} {x v:LOpd}:Zq P (⟨d,.store n x v,none,so⟩ :: rest) K st=ZB P d rest K st (zo st (.store n x v)):=zH rfl
theorem zpD {x:LOpd}:Zq P (⟨d,.nilchk x,none,so⟩ :: rest) K st=ZB P d rest K st (zo st (.nilchk x)):=zH rfl
theorem zxD {o:BinOp} {x y:LOpd}:Zq P (⟨d,.bin o x y,none,so⟩ :: rest) K st=ZB P d rest K st (zo st (.bin o x y)):=zH rfl
theorem zt4 {neg:Bool} {x y:LOpd}:Zq P (⟨d,.binb neg x y,none,so⟩ :: rest) K st=ZB P d rest K st (zo st (.binb neg x y)):=zH rfl
theorem zt5 {neg:Bool} {ks:List FK} {x y:LOpd}:Zq P (⟨d,.eqag neg ks x y,none,so⟩ :: rest) K st=ZB P d rest K st (zo st (.eqag neg ks x y)):=zH rfl
theorem zxE {x:LOpd}:Zq P (⟨d,.not x,none,so⟩ :: rest) K st=ZB P d rest K st (zo st (.not x)):=zH rfl
theorem zxF {x:LOpd}:Zq P (⟨d,.neg x,none,so⟩ :: rest) K st=ZB P d rest K st (zo st (.neg x)):=zH rfl
theorem zt6 {k:IntKind} {x:LOpd}:Zq P (⟨d,.conv k x,none,so⟩ :: rest) K st=ZB P d rest K st (zo st (.conv k x)):=zH rfl
theorem zxG {x:LOpd}:Zq P (⟨d,.b2s x,none,so⟩ :: rest) K st=ZB P d rest K st (zo st (.b2s x)):=zH rfl
theorem zt7 {f:Nat} {caps:List LOpd}:Zq P (⟨d,.clob f caps,none,so⟩ :: rest) K st=ZB P d rest K st (zo st (.clob f caps)):=zH rfl
theorem zxH {f:Nat} {caps:List LOpd}:Zq P (⟨d,.clo f caps,none,so⟩ :: rest) K st=ZB P d rest K st (zo st (.clo f caps)):=zH rfl
theorem zxI {sz:Nat} {x:LOpd} {lo hi:Option LOpd}:Zq P (⟨d,.slc sz x lo hi,none,so⟩ :: rest) K st=ZB P d rest K st (zo st (.slc sz x lo hi)):=zH rfl
theorem zt8 {off:Nat} {x:LOpd}:Zq P (⟨d,.addr off x,none,so⟩ :: rest) K st=ZB P d rest K st (zo st (.addr off x)):=zH rfl
theorem zpE {sz n:Nat} {x i:LOpd}:Zq P (⟨d,.iaddrA sz n x i,none,so⟩ :: rest) K st=ZB P d rest K st (zo st (.iaddrA sz n x i)):=zH rfl
theorem zpF {sz:Nat} {x i:LOpd}:Zq P (⟨d,.iaddrS sz x i,none,so⟩ :: rest) K st=ZB P d rest K st (zo st (.iaddrS sz x i)):=zH rfl
theorem zri {off n:Nat} {ag:Bool} {x:LOpd}:Zq P (⟨d,.field off n ag x,none,so⟩ :: rest) K st=ZB P d rest K st (zo st (.field off n ag x)):=zH rfl
theorem zt9 {x i:LOpd}:Zq P (⟨d,.idxS x i,none,so⟩ :: rest) K st=ZB P d rest K st (zo st (.idxS x i)):=zH rfl
theorem zua {sz n:Nat} {ag:Bool} {x i:LOpd}:Zq P (⟨d,.idxA sz n ag x i,none,so⟩ :: rest) K st=ZB P d rest K st (zo st (.idxA sz n ag x i)):=zH rfl
theorem zxJ {i:Nat} {x:LOpd}:Zq P (⟨d,.ext i x,none,so⟩ :: rest) K st=ZB P d rest K st (zo st (.ext i x)):=zH rfl
theorem zxK {b:Bool} {x:LOpd}:Zq P (⟨d,.len b x,none,so⟩ :: rest) K st=ZB P d rest K st (zo st (.len b x)):=zH rfl
theorem zzD {b:Bool} {x y:LOpd}:Zq P (⟨d,.mm b x y,none,so⟩ :: rest) K st=ZB P d rest K st (zo st (.mm b x y)):=zH rfl
theorem zpG {T sz bytes:Nat} {x y:LOpd}:Zq P (⟨d,.append T sz bytes x y,none,so⟩ :: rest) K st=ZB P d rest K st (zo st (.append T sz bytes x y)):=zH rfl
theorem zrj {o : LOp} {t : Nat} {want : Bool} : Zq P (⟨d, o, some (t, want), so⟩ :: rest) K st = (match st.env t with
    | .bool b=>if b=want then Zq P (⟨d,o,none,so⟩ :: rest) K st else Zq P rest K (st.put d .undef st.heap)
    | .undef=>Zq P rest K (st.put d .undef st.heap)
    | _=>False):=rfl
theorem zc {f:Nat} {args:List LOpd} {hot:Nat} {r:PV} {H:List AObj} (h:CallTo P f (args.map (LOpd.ev st)) st.heap so r H) (hk:Zq P rest K (st.put d r H)):Zq P (⟨d,.call f args hot,none,so⟩ :: rest) K st :=
 ⟨r,H,.inl h,hk⟩
theorem zfo {f : Nat} {args : List LOpd} (k : Nat) {ob ob' : AObj} {r' r : PV} {ps : List PV} {H' : List AObj} (h : zg P f ps [ob] r' [ob']) (hk : st.heap[k]? = some ob) (ho : ob.flat = true) (ho' : ob'.flat = true) (hr : zlg k r' = some r)
    (hin:k ∈ (args.map (LOpd.ev st)).flatMap Z8) (hps:(args.map (LOpd.ev st)).map (ren true (pos [k]) (zt false st.heap))=ps) (hH:st.heap.set k ob'=H') (hK:Zq P rest K (st.put d r H')):Zq P (⟨d,.call f args 1,none,so⟩ :: rest) K st:=by
  subst hps; subst hH
  exact ⟨r,_,.inr (.inl ⟨rfl,.mk k ob ob' hk ho ho' hr hin h⟩),hK⟩
theorem zc5 {f : Nat} {args : List LOpd} {ob' : AObj} {r' r : PV} {ps : List PV} {H' : List AObj} (h : zg P f ps [] r' [ob']) (ho' : ob'.flat = true) (hr : zlg st.heap.length r' = some r)
    (hps:(args.map (LOpd.ev st)).map (ren true (pos []) (zt false st.heap))=ps) (hH:st.heap ++ [ob']=H') (hK:Zq P rest K (st.put d r H')):Zq P (⟨d,.call f args 2,none,so⟩ :: rest) K st:=by
  subst hps; subst hH
  exact ⟨r,_,.inr (.inr (.inl ⟨rfl,.mk ob' ho' hr h⟩)),hK⟩
theorem Zm {X : LOpd} {args : List LOpd} {f : Nat} {caps : List PV} {r : PV} {H : List AObj} (hX : X.ev st = .clo f caps) (hb : ZU P f = true) (h : CallTo P f (args.map (LOpd.ev st) ++ caps) st.heap so r H) (hk : Zq P rest K (st.put d r H)) :
    Zq P (⟨d,.callv X args,none,so⟩ :: rest) K st:=⟨f,[],caps,by rw [hX]; rfl,hb,r,H,h,hk⟩
theorem zrk {X : LOpd} {args : List LOpd} {f : Nat} {pre : List PV} {r : PV} {H : List AObj} (hX : X.ev st = .clob f pre) (hb : ZU P f = true) (h : CallTo P f (pre ++ args.map (LOpd.ev st)) st.heap so r H) (hk : Zq P rest K (st.put d r H)) :
    Zq P (⟨d,.callv X args,none,so⟩ :: rest) K st:=⟨f,pre,[],by rw [hX]; rfl,hb,r,H,by rw [ya6]; exact h,hk⟩
theorem zrl {x:Cx} {lrs:List LRes} {r:PV} {ps:List PV} (hx:x.H0 = []) (h1:zat st lrs=some ps) (h2:zdA true (pos []) (zt true st.heap) (zeV ps)=r):∃ keep,zzk x lrs keep r [] st :=
 ⟨[],ps,h1,List.nodup_nil,(fun k hk=>by cases hk),by rw [hx]; exact ybv _,by rw [hx]; exact h2.symm,by rw [hx]; rfl⟩
end
class Bx where
 out:Prop
def zpH (v:PV) [A:Bx] [B:Bx]:Prop:=match v with | .bool true=>A.out | .bool false=>B.out | _=>False
theorem zpI {A B:Bx}:@zpH (.bool true) A B=A.out:=id rfl
theorem zm4 {A B:Bx}:@zpH (.bool false) A B=B.out:=id rfl
class BxK where
 k:St→Prop
def zga [K:BxK] (Q:AE→St→Prop):AE→St→Prop
 | .normal,st=>K.k st
 | .exit id,st=>Q (.exit id) st
 | .ret,st=>Q .ret st
def nxt (Q:AE→St→Prop) (st:St):Prop:=Q .normal st
theorem zpJ {ops:List LOper} {n:Nat} {Q:AE→St→Prop}:ziH none ops n Q=nxt Q:=id rfl
theorem zrm {ops:List LOper} {n:Nat} {Q:AE→St→Prop}:ziH (some []) ops n Q=nxt Q:=id rfl
theorem zpK {p:Nat × Nat} {ps:List (Nat × Nat)} {ops:List LOper} {n:Nat} {Q:AE→St→Prop} {st:St}:ziH (some (p :: ps)) ops n Q st=zrb (p :: ps) ops n Q st:=id rfl
def zf2 (P:Program) (x:Cx) (nt:Nat):LC→(AE→St→Prop)→St→Prop
 | .skip,Q,st=>Q .normal st
 | .reg dr ops,Q,st=>Zq P ops (ziH dr ops st.heap.length Q) st
 | .regS sl ps ops,Q,st=>Zq P (ops.map (zdQ st.heap.length)) (ziH (some ps) (ops.map (zdQ st.heap.length)) (st.heap.length + sl.length) Q) ⟨st.env,st.heap ++ sl.map zeX⟩
 | .seq a b,Q,st=>zf2 P x nt a (@zga ⟨zf2 P x nt b Q⟩ Q) st
 | .cond c a b,Q,st=>@zpH (c.ev st) ⟨zf2 P x nt a Q st⟩ ⟨zf2 P x nt b Q st⟩
 | .block id b,Q,st=>zf2 P x nt b (zdB id Q) st
 | .loop b,Q,st=>W P x nt (.loop b) Q st
 | .exit id,Q,st=>Q (.exit id) st
 | .ret,Q,st=>Q .ret st
section
variable {P:Program} {x:Cx} {nt:Nat}
theorem zbd:∀ {lc:LC} {Q:AE→St→Prop} {st:St},zf2 P x nt lc Q st→W P x nt lc Q st
  | .skip,_,_,h=>zzw h
  | .reg _ _,_,_,h=>zCB h
  | .regS _ _ _,_,_,h=>zzA h
  | .seq a b, Q, st, h => zpy ((zbd (lc := a) h).mono fun e st' hq => by
      cases e with
      | normal=>exact zbd (lc:=b) hq
      | exit id=>exact hq
      | ret=>exact hq)
  | .cond c a b,Q,st,h=>by
    simp only [zf2] at h
    cases hc:c.ev st <;> rw [hc] at h <;> try exact h.elim
    rename_i t
    refine zzy hc (fun e=>?_) (fun e=>?_) <;> subst e
    · exact zbd (lc:=a) h
    · exact zbd (lc:=b) h
  | .block _ b,_,_,h=>zm1 (zbd (lc:=b) h)
  | .loop _,_,_,h=>h
  | .exit _,_,_,h=>zzx h
  | .ret,_,_,h=>zCA h
def zrn (live:List Nat) (m:Nat) (I:Nat→St→Prop) (n:Nat) (st:St):Prop:=m≤st.heap.length∧∃ n',n' < n∧I n' (st.trim live m)
theorem zy {b : LC} {Q : AE → St → Prop} {st : St} (live : List Nat) (m : Nat) (I : Nat → St → Prop) (n : Nat) (h1 : x.H0.length ≤ m) (h2 : m ≤ st.heap.length) (h0 : I n (st.trim live m))
    (hstep:∀ n st,I n st→zf2 P x nt b (@zga ⟨zrn live m I n⟩ Q) st):W P x nt (.loop b) Q st:=by
  have hi:W P x nt (.loop b) Q (st.trim live m):=by
    refine zol (fun n st=>I n st∨(m≤st.heap.length∧I n (st.trim live m))) n (.inl h0) ?_
    intro n st hI
    have key:∀ st,I n st→W P x nt b (zeU (fun st'=>∃ n',n' < n∧(I n' st'∨(m≤st'.heap.length∧I n' (st'.trim live m)))) Q) st:=fun st hI =>
      (zbd (hstep n st hI)).mono fun e st' hq=>by
        cases e with
        | normal=>obtain ⟨g1,n',g2,g3⟩:=hq; exact ⟨n',g2,.inr ⟨g1,g3⟩⟩
        | exit id=>exact hq
        | ret=>exact hq
    rcases hI with hI | ⟨hm,hI⟩
    · exact key st hI
    · exact zcF (fun a w hrel=>zfh live h1 hm hrel) (key _ hI)
  exact zcF (fun a w hrel=>zfh live h1 h2 hrel) hi
theorem zd {lrs:List LRes} {r:PV} {st:St} (hx:x.H0 = []) (h:(zat st lrs).map (fun ps=>zdA true (pos []) (zt true st.heap) (zeV ps))=some r):zli x nt lrs r [] .ret st:=by
 obtain ⟨ps,h1,h2⟩:=yad.1 h
 obtain ⟨keep,h3⟩:=zrl hx h1 h2
 exact ⟨st,keep,za3.refl x nt st,h3⟩
theorem zg.of_walk {f : Nat} {fn : Func} {lc : LC} {lrs : List LRes} {args : List PV} {Hs Hs' : List AObj} {r : PV} {nt : Nat} (hf : P.funcs[f]? = some fn) (hnt : fn.ntmps = nt) (hlc : (fn.body.bind (zq P nt)) = some lc) (hres : ZC P fn.results.toList = some lrs)
    (hargs:args.length≤nt) (h:∀ x:Cx,x.H0=Hs→zf2 P x nt lc (zli x nt lrs r Hs') ⟨mkE .undef (zmL 0 args),Hs⟩):zg P f args Hs r Hs' :=
  zg.of hf hnt hlc hres hargs fun x hx=>by rw [zj5]; exact zbd (h x hx)
def zdC (v:PV) (want:Bool) [A:Bx] [B:Bx]:Prop:=match v with | .bool b=>if b=want then A.out else B.out | .undef=>B.out | _=>False
theorem zro {A B:Bx}:@zdC (.bool true) true A B=A.out:=by simp [zdC]
theorem zrp {A B:Bx}:@zdC (.bool false) false A B=A.out:=by simp [zdC]
theorem zrq {A B:Bx}:@zdC (.bool true) false A B=B.out:=by simp [zdC]
theorem zrr {A B:Bx}:@zdC (.bool false) true A B=B.out:=by simp [zdC]
theorem zub {w:Bool} {A B:Bx}:@zdC .undef w A B=B.out:=by simp [zdC]
theorem zpL {o : LOp} {t : Nat} {want : Bool} {so : Bool} {d : Option Nat} {rest : List LOper} {K : St → Prop} {st : St} : Zq P (⟨d, o, some (t, want), so⟩ :: rest) K st =
    @zdC (st.env t) want ⟨Zq P (⟨d,o,none,so⟩ :: rest) K st⟩ ⟨Zq P rest K (st.put d .undef st.heap)⟩:=by
  rw [zrj]
  unfold zdC
  rfl
end
/-! the walk's rules,as rewritings that the kernel need not reckon zrn -/
section
variable {P:Program} {x:Cx} {nt:Nat} {Q:AE→St→Prop} {st:St} {K:BxK}
theorem zrs:zf2 P x nt .skip Q st=Q .normal st:=id rfl
theorem zuc {dr:Option (List (Nat × Nat))} {ops:List LOper}:zf2 P x nt (.reg dr ops) Q st=Zq P ops (ziH dr ops st.heap.length Q) st:=id rfl
theorem zrt {sl:List (Nat × Nat × Bool)} {ps:List (Nat × Nat)} {ops:List LOper}:zf2 P x nt (.regS sl ps ops) Q st=Zq P (ops.map (zdQ st.heap.length)) (ziH (some ps) (ops.map (zdQ st.heap.length)) (st.heap.length + sl.length) Q) ⟨st.env,st.heap ++ sl.map zeX⟩:=id rfl
theorem zud {a b:LC}:zf2 P x nt (.seq a b) Q st=zf2 P x nt a (@zga ⟨zf2 P x nt b Q⟩ Q) st:=id rfl
theorem zru {c:LOpd} {a b:LC}:zf2 P x nt (.cond c a b) Q st=@zpH (c.ev st) ⟨zf2 P x nt a Q st⟩ ⟨zf2 P x nt b Q st⟩:=id rfl
theorem zpM {i:Nat} {b:LC}:zf2 P x nt (.block i b) Q st=zf2 P x nt b (zdB i Q) st:=id rfl
theorem zrv {b:LC}:zf2 P x nt (.loop b) Q st=W P x nt (.loop b) Q st:=id rfl
theorem zrw {i:Nat}:zf2 P x nt (.exit i) Q st=Q (.exit i) st:=id rfl
theorem zue:zf2 P x nt .ret Q st=Q .ret st:=id rfl
theorem zlo:@zga K Q .normal st=K.k st:=id rfl
theorem zpN {i:Nat}:@zga K Q (.exit i) st=Q (.exit i) st:=id rfl
theorem zrx:@zga K Q .ret st=Q .ret st:=id rfl
theorem zzE:nxt Q st=Q .normal st:=id rfl
theorem zj6 {i:Nat}:zdB i Q .normal st=Q .normal st:=id rfl
theorem zpO {i:Nat}:zdB i Q .ret st=Q .ret st:=id rfl
theorem zm5 {i j:Nat}:zdB i Q (.exit j) st=if j=i then Q .normal st else Q (.exit j) st:=id rfl
end
theorem zg.len {P:Program} {f:Nat} {args:List PV} {Hs Hs':List AObj} {r:PV} (j:Nat) {rows:List (List PV)} (hj:args[j]? = some (.list rows)) (h:rows.length≤maxLen→zg P f args Hs r Hs'):zg P f args Hs r Hs':=by
 intro x vs hx hr hp
 refine h ?_ x vs hx hr hp
 have hlt:j < vs.toList.length:=by rw [hp.1]; exact (yab.1 hj).1
 have:=(hp.2 j _ _ hj (yac hlt)).list_inv
 generalize vs.toList[j]=v at this
 cases this with
 | list rows a c sz x hc hm=>omega
theorem zg.len2 {P:Program} {f:Nat} {args:List PV} {Hs Hs':List AObj} {r:PV} (j i:Nat) {cs:List PV} {rows:List (List PV)} (hj:args[j]? = some (.agg cs)) (hi:cs[i]? = some (.list rows)) (h:rows.length≤maxLen→zg P f args Hs r Hs'):zg P f args Hs r Hs':=by
 intro x vs hx hr hp
 refine h ?_ x vs hx hr hp
 have hlt:j < vs.toList.length:=by rw [hp.1]; exact (yab.1 hj).1
 obtain ⟨us,e,hl,-,h2⟩:=(hp.2 j _ _ hj (yac hlt)).agg_inv
 have hlt2:i < us.length:=by rw [hl]; exact (yab.1 hi).1
 have:=(h2 i _ _ hi (yac hlt2)).list_inv
 generalize us[i]=v at this
 cases this with
 | list rows a c sz x hc hm=>omega
attribute [go_sem] olc zrs zuc zrt zdQ zm2 zeX zt2 zpC zud zru zpM zrv zrw zue zlo zpN zrx zzE zj6 zpO zm5 zpI zm4 zro zrp zrq zrr zub zpL zzC zt0 zrf zxz zrg zxA zt1 zxB zxC zt3 zrh zpD zxD zt4 zt5 zxE zxF zt6 zxG zxH zt7 zxI zt8 zpE zpF zri zt9 zua zxJ zxK zzD zpG zxy zm3 zo LOpd.ev zc4 ztZ zpJ zrm zpK zrb zfk LOper.fp LOper.want LOp.foot LOp.kind Z8 ZQ Z2 zom ztD zaW zbR zmL PV.cells? zbO zk6 zxi zfd zhi zgP za0 Z0 zdI zf3 zc0 zcQ zcC zat zeV zdA ren zn zp PV.isPure Nat.zero_add Nat.add_zero if_true if_false ite_true ite_false Option.map_some Option.map_none Option.bind_some Bool.false_eq_true Bool.true_eq_false Bool.not_true Bool.not_false List.length_cons List.length_nil List.drop_zero List.drop_succ_cons List.drop_nil List.take_zero List.take_succ_cons List.take_nil List.nil_append List.cons_append List.append_nil List.getElem?_cons_zero List.getElem?_cons_succ List.getElem?_nil List.set_cons_zero List.set_cons_succ List.map_cons List.map_nil List.all_cons List.all_nil Bool.and_true Bool.true_and Bool.and_self and_self and_true true_and decide_true decide_false not_true_eq_false not_false_eq_true Int.toNat_natCast Int.ofNat_lt Int.natCast_nonneg List.length_map List.getElem?_map Int.ofNat_le List.replicate_succ List.replicate_zero Nat.le_refl
attribute [go_sem] Nat.reduceLT Nat.reduceAdd Nat.reduceEqDiff Nat.reduceLeDiff Nat.reduceSub Nat.reduceMul Int.reduceEq eq_self reduceIte
theorem zab:(type_of% @yaX)∧(type_of% @ybr)∧(type_of% @yao)∧(type_of% @yaD)∧(type_of% @Int.natCast_zero)∧(type_of% @yaO)∧(type_of% @Int.lt_irrefl)∧(type_of% @false_or)∧(type_of% @or_true):=⟨@yaX,@ybr,@yao,@yaD,@Int.natCast_zero,@yaO,@Int.lt_irrefl,@false_or,@or_true⟩
def nlN:Nat→PV→PV
 | 0,p=>p
 | n + 1,p=>match p with
  | .nilsl => .list []
  | .list rows => .list (rows.map (·.map (nlN n)))
  | .agg cs => .agg (cs.map (nlN n))
  | .tup cs => .tup (cs.map (nlN n))
  | p=>p
theorem zzF {S:Nat→Nat→Prop} {w:World}:∀ (n:Nat) {p:PV} {v:Value},RepP S w p v→RepP S w (nlN n p) v
 | 0,_,_,h=>h
 | n + 1,p,v,h=>by
  cases h with
  | top h=>exact .top h
  | bool b=>exact .bool b
  | int k m=>exact .int k m
  | str s=>exact .str s
  | nilp=>exact .nilp
  | rptr cells b o x hl h=>exact .rptr cells b o x hl h
  | nilsl =>
   exact .list [] none 0 1 (fun _ _=>Go.undef) (by simp) (by simp [maxLen]) (by omega) (by simp) (fun k row j p h=>by simp at h) (fun k row j p h=>by simp at h)
  | list rows a c sz x hc hm hsz hz hl h =>
   have:=RepP.list (S:=S) (w:=w) (rows.map (·.map (nlN n))) a c sz x (by simpa using hc) hm hsz (fun row hr=>by
    obtain ⟨r,h1,rfl⟩:=yaG.1 hr
    simpa using hz r h1) (fun k row j p h1 h2=>by
    obtain ⟨r,h3,rfl⟩:=zO h1
    obtain ⟨q,h4,rfl⟩:=zO h2
    exact hl k r j q h3 h4) (fun k row j p h1 h2=>by
    obtain ⟨r,h3,rfl⟩:=zO h1
    obtain ⟨q,h4,rfl⟩:=zO h2
    exact zzF n (h k r j q h3 h4))
   simpa [nlN] using this
theorem zuf {S:Nat→Nat→Prop} {w:World} {C:Conc}:∀ (n:Nat) {p:PV} {v:Value},RepV S w C p v→RepV S w C (nlN n p) v
 | 0,_,_,h=>h
 | n + 1,p,v,h=>by
  cases h with
  | pure h=>exact .pure (zzF (n + 1) h)
  | agg cs vs hl h1 h =>
   refine .agg (cs.map (nlN n)) vs (by simpa using hl) h1 fun j p x h2 h3=>?_
   obtain ⟨q,h4,rfl⟩:=zO h2
   exact zuf n (h j q x h4 h3)
  | tup cs vs hl h =>
   refine .tup (cs.map (nlN n)) vs (by simpa using hl) fun j p x h2 h3=>?_
   obtain ⟨q,h4,rfl⟩:=zO h2
   exact zuf n (h j q x h4 h3)
  | any=>exact .any
  | undef=>exact .undef
  | vlist rows a c sz x hc hm hsz hz hl h=>exact .vlist rows a c sz x hc hm hsz hz hl h
  | clo f cs vs hl h=>exact .clo f cs vs hl h
  | clob f cs vs hl h=>exact .clob f cs vs hl h
  | oll p h=>exact .oll p h
  | olp p h=>exact .olp p h
  | ptr id off hi=>exact .ptr id off hi
  | aptr id sz idx off g m c hi hs=>exact .aptr id sz idx off g m c hi hs
  | aptrOld id ver sz idx off hi hv h1=>exact .aptrOld id ver sz idx off hi hv h1
  | arr id hi h1=>exact .arr id hi h1
  | arrOld id ver hi hv h1=>exact .arrOld id ver hi hv h1
theorem zg.nl {P:Program} {f:Nat} {args:List PV} {Hs Hs':List AObj} {r r':PV} (n:Nat) (h:zg P f args Hs r Hs') (hr:nlN n r=r'):zg P f args Hs r' Hs':=by
 intro x vs hx h0 hp
 refine (h x vs hx h0 hp).mono fun e w' ⟨v,C',h1,h2,h3⟩=>⟨v,C',h1,h2,?_⟩
 rw [← hr]
 exact zuf n h3
section
variable {x:Cx} {C:Conc} {H:List AObj} {w:World} {nt:Nat} {st:St} {P:Program}
theorem ZR (t ver T sz:Nat) (sto ipu:Bool) (h:st.env t = .nilsl) (hsz:0 < sz):za3 x nt st (st.put (some t) (.arr st.heap.length ver) (st.heap ++ [.arr ver sto ipu T sz []])):=by
 intro a w ⟨⟨C,hr,he⟩,hdf,hs⟩
 obtain ⟨C',k1,k2,k3⟩:=hr.own ver T sz sto ipu hsz
 refine ⟨⟨C',k1,fun u=>?_⟩,hdf,hs⟩
 simp only [St.put,yae]
 by_cases e:t=u
 ·
  subst e
  rw [if_pos rfl]
  have:=he t
  rw [h] at this
  rw [this.nilsl_inv]; exact k3
 ·
  rw [if_neg e]; exact k2 _ _ (he u)
theorem zX (id j ver T sz : Nat) (sto ipu : Bool) {cells : List PV} (h : st.heap[id]? = some (.box cells)) (hj : cells[j]? = some .nilsl) (hsz : 0 < sz) :
    za3 x nt st ⟨st.env,(st.heap.set id (.box (cells.set j (.arr st.heap.length ver)))) ++ [.arr ver sto ipu T sz []]⟩:=by
  intro a w ⟨⟨C,hr,he⟩,hdf,hs⟩
  obtain ⟨C',k1,k2,k3⟩:=hr.own ver T sz sto ipu hsz
  have hlt:id < st.heap.length:=(yab.1 h).1
  have hid:(st.heap ++ [AObj.arr ver sto ipu T sz []])[id]? = some (.box cells):=by rw [yaC hlt]; exact h
  obtain ⟨m1,m2⟩:=k1.change (C':=C') hid (ob' := .box (cells.set j (.arr st.heap.length ver))) (zc3 w) rfl (fun _=>rfl) (fun _ _=>⟨rfl,rfl⟩) (.inl ⟨rfl,rfl⟩) (fun b o _ h=>h) (fun b o _ _=>rfl) (fun b h => .inl h)
    (fun hm hmp=>by
      obtain ⟨cs,T',g1,g2,g3⟩:=k1.obj id _ hid
      refine ⟨cs,T',g1,by simp [g2],fun i p v hp hv=>?_⟩
      by_cases e:i=j
      · subst e
        rw [ya9 (yab.1 hj).1] at hp
        cases hp
        obtain ⟨q1,q2⟩:=g3 i _ v hj hv
        refine ⟨q1,hm _ _ ?_⟩
        rw [q2.nilsl_inv]; exact k3
      · rw [ybl (Ne.symm e)] at hp
        obtain ⟨q1,q2⟩:=g3 i _ v hp hv
        exact ⟨q1,hm _ _ q2⟩)
  rw [List.set_append_left _ _ hlt] at m1 m2
  exact ⟨⟨C',m1,fun u=>m2 _ _ (k2 _ _ (he u))⟩,hdf,hs⟩
theorem HR.shutA (hr : HR x C H w) {id v T sz : Nat} {sto : Bool} {rows : List (List PV)} (h : H[id]? = some (.arr v sto false T sz rows)) :
    HR x C (H.set id (.arr v false false T sz rows)) w∧∀ p v',RepV (zu x C H w) w C p v'→RepV (zu x C (H.set id (.arr v false false T sz rows)) w) w C p v' :=
  hr.change (C':=C) h (zc3 w) rfl (fun _=>rfl) (fun _ _=>⟨rfl,rfl⟩) (.inl ⟨rfl,rfl⟩) (fun b o _ hf hb=>⟨rfl,rfl,(hf hb).2.2⟩) (fun b o _ _=>rfl) (fun b h => .inl h)
    (fun hm hmp=>by
      obtain ⟨o1,o2,o3,xs,o4,o5⟩:=hr.obj id _ h
      exact ⟨o1,o2,o3,xs,o4,fun k row j p u a b c=>⟨(o5 k row j p u a b c).1,by
        have:=(o5 k row j p u a b c).2
        simp only [yap,if_false] at this ⊢
        exact hmp _ _ this⟩⟩)
theorem zhp.shut {H:List AObj} (id:Nat) {v T sz:Nat} {sto:Bool} {rows:List (List PV)} (h:H[id]? = some (.arr v sto false T sz rows)):zhp H (H.set id (.arr v false false T sz rows)) :=
 ⟨by simp,fun _ _ _ hr=>hr.shutA h⟩
theorem ZW (id:Nat) {v T sz:Nat} {sto:Bool} {rows:List (List PV)} (h:st.heap[id]? = some (.arr v sto false T sz rows)):za3 x nt st ⟨st.env,st.heap.set id (.arr v false false T sz rows)⟩:=by
 intro a w ⟨⟨C,hr,he⟩,hdf,hs⟩
 obtain ⟨k1,k2⟩:=hr.shutA h
 exact ⟨⟨C,k1,fun u=>k2 _ _ (he u)⟩,hdf,hs⟩
theorem zg.shut {f id v T sz:Nat} {sto:Bool} {rows:List (List PV)} {args:List PV} {Hs Hs':List AObj} {r:PV} (h:zg P f args Hs r Hs') (hid:Hs'[id]? = some (.arr v sto false T sz rows)):zg P f args Hs r (Hs'.set id (.arr v false false T sz rows)):=by
 intro x vs hx h0 hp
 refine (h x vs hx h0 hp).mono fun e w' ⟨v,C',h1,h2,h3⟩=>?_
 obtain ⟨k1,k2⟩:=h2.shutA hid
 exact ⟨v,C',h1,k1,k2 _ _ h3⟩
theorem zaM {lc:LC} {Q:AE→St→Prop} {st':St} (hle:za3 x nt st st') (h:W P x nt lc Q st'):W P x nt lc Q st:=zcF hle h
theorem CallTo.pureE {f:Nat} {ps args:List PV} {so:Bool} {r:PV} (h:zg P f args [] r []) (he:ps.map (ren true (pos []) (zt false H))=args):CallTo P f ps H so r H := .pure (he ▸ h)
theorem CallTo.scalarE {f:Nat} {ps args:List PV} {so:Bool} {r:PV} (h:zg P f args [] r []) (hs:zvH r=true) (he:ps.map (ren true (pos []) (zt true H))=args):CallTo P f ps H so r H := .scalar (he ▸ h) hs
theorem CallTo.lookE {f:Nat} {ps args:List PV} {r:PV} (h:zg P f args [] r []) (hs:zvH r=true) (he:ps.map (zjY H)=args):CallTo P f ps H true r H := .look (he ▸ h) hs
theorem CallTo.heapE (ks : List Nat) {f : Nat} {ps args : List PV} {r r' : PV} {Hs Hs' H' : List AObj} (h : zg P f args Hs r Hs') (hnd : ks.Nodup) (hlt : ∀ k ∈ ks, k < H.length) (he : ps.map (ren true (pos ks) (zt false H)) = args) (hh : ze (pos ks) (zt false H) H ks = Hs)
    (hr:zdA false (ZV H.length ks) zpu r=r') (hm:ZN H Hs' ks=H'):CallTo P f ps H true r' H':=by
  subst he; subst hh; subst hr; subst hm
  exact .heap ks hnd hlt h
theorem zc6 {so neg : Bool} {d : Option Nat} {X : LOpd} {rest : List LOper} {K : St → Prop} {rows : List (List PV)} (hX : X.ev st = .list rows) (h : ∀ b : Bool, (b = true → rows = []) → Zq P rest K (st.put d (.bool (if neg then !b else b)) st.heap)) :
    Zq P (⟨d,.isnil neg X,none,so⟩ :: rest) K st:=by
  simp only [Zq,WOp,hX]
  exact h
theorem Zf {H : List AObj} {T sz bytes id ver : Nat} {y : PV} {sto : Bool} {rows ys : List (List PV)} (hid : H[id]? = some (.arr ver sto false T sz rows)) (hy : zch H sz y = some (true, ys)) (hrow : ∀ row ∈ ys, row.length = sz)
    (hb:(rows.length + ys.length) * bytes≤140737488355328):Z4 H T sz bytes (.arr id ver) y=some (.arr id (ver + 1),H.set id (.arr (ver + 1) sto false T sz (rows ++ ys))):=by
  simp only [Z4,hy,hid,zbZ,zac,Bool.true_or,if_true]
  rw [if_pos ⟨trivial,trivial,trivial,hrow,hb,.inr trivial⟩]
  simp
theorem zdm {H : List AObj} {T sz bytes id ver : Nat} {y : PV} {sto pu : Bool} {rows ys : List (List PV)} (hid : H[id]? = some (.arr ver sto true T sz rows)) (hy : zch H sz y = some (pu, ys)) (hrow : ∀ row ∈ ys, row.length = sz)
    (hb:(rows.length + ys.length) * bytes≤140737488355328):Z4 H T sz bytes (.arr id ver) y=some (.arr id (ver + 1),H.set id (.arr (ver + 1) sto true T sz (rows ++ ys))):=by
  simp only [Z4,hy,hid]
  rw [if_pos ⟨trivial,trivial,trivial,hrow,hb,.inl trivial⟩]
  simp
theorem zhb {H : List AObj} {T sz bytes id ver : Nat} {y : PV} {sto : Bool} {rows ys : List (List PV)} (hid : H[id]? = some (.arr ver sto false T sz rows)) (hy : zch H sz y = some (false, ys)) (hrow : ∀ row ∈ ys, row.length = sz)
    (hp:(ys.map (·.map (frz H))).all (fun row=>row.all PV.isPure)=true) (hb:(rows.length + ys.length) * bytes≤140737488355328) :
    Z4 H T sz bytes (.arr id ver) y=some (.arr id (ver + 1),H.set id (.arr (ver + 1) sto false T sz (rows ++ ys.map (·.map (frz H))))):=by
  simp only [Z4,hy,hid,zbZ,zac,Bool.false_or,yap,if_false]
  rw [if_pos ⟨trivial,trivial,trivial,hrow,hb,.inr hp⟩]
theorem zI {lrs : List LRes} {r : PV} {Hs' : List AObj} {st : St} (keep : List Nat) (hnd : keep.Nodup) (hlt : ∀ k ∈ keep, x.H0.length ≤ k ∧ k < st.heap.length) (hle : x.H0.length ≤ st.heap.length)
    (h:(zat st lrs).map (fun ps=>zdA true (pos (List.range x.H0.length ++ keep)) (zt true st.heap) (zeV ps))=some r)
    (h2:ze (pos (List.range x.H0.length ++ keep)) (zt true st.heap) st.heap (List.range x.H0.length ++ keep)=Hs'):zli x nt lrs r Hs' .ret st:=by
  obtain ⟨ps,g1,g2⟩:=yad.1 h
  exact ⟨st,keep,za3.refl _ _ _,ps,g1,hnd,hlt,hle,g2.symm,h2.symm⟩
theorem zN {lrs:List LRes} {r:PV} {Hs':List AObj} {st st':St} (hw:za3 x nt st st') (h:zli x nt lrs r Hs' .ret st'):zli x nt lrs r Hs' .ret st:=by
 obtain ⟨st2,keep,h1,h2⟩:=h
 exact ⟨st2,keep,hw.trans h1,h2⟩
end
def LC.flat:LC→List LC
 | .seq a b=>a.flat ++ b.flat
 | lc => [lc]
def WL (P:Program) (x:Cx) (nt:Nat):List LC→(AE→St→Prop)→St→Prop
 | [],Q,st=>Q .normal st
 | a :: l,Q,st=>W P x nt a (zeU (WL P x nt l Q) Q) st
def zm6 (P:Program) (x:Cx) (nt:Nat):List LC→(AE→St→Prop)→St→Prop
 | [],Q,st=>Q .normal st
 | a :: l,Q,st=>zf2 P x nt a (@zga ⟨zm6 P x nt l Q⟩ Q) st
def zug (x:Cx) (nt:Nat) (live:List Nat) (m:Nat) (K:St→Prop) (Q:AE→St→Prop):AE→St→Prop
 | .normal,st=>m≤st.heap.length∧∃ st',za3 x nt (st.trim live m) st'∧K st'
 | .exit i,st=>Q (.exit i) st
 | .ret,st=>Q .ret st
section
variable {P:Program} {x:Cx} {nt:Nat} {st:St}
theorem zvJ:∀ {l1 l2:List LC} {Q:AE→St→Prop} {st:St},WL P x nt (l1 ++ l2) Q st→WL P x nt l1 (zeU (WL P x nt l2 Q) Q) st
  | [],_,_,_,h=>h
  | a :: l1, l2, Q, st, h => W.mono (lc := a) h fun e st' hq => by
      cases e with
      | normal=>exact zvJ (l1:=l1) hq
      | exit id=>exact hq
      | ret=>exact hq
theorem zry:∀ {l:List LC} {Q Q':AE→St→Prop} {st:St},WL P x nt l Q st→(∀ e st,Q e st→Q' e st)→WL P x nt l Q' st
  | [],_,_,_,h,hq=>hq _ _ h
  | a :: l, Q, Q', st, h, hq => W.mono (lc := a) h fun e st' h' => by
      cases e with
      | normal=>exact zry (l:=l) h' hq
      | exit id=>exact hq _ _ h'
      | ret=>exact hq _ _ h'
theorem zjj:∀ {lc:LC} {Q:AE→St→Prop} {st:St},WL P x nt lc.flat Q st→W P x nt lc Q st:=by
 intro lc
 induction lc with
 | seq a b iha ihb =>
  intro Q st h
  refine zpy (iha ?_)
  refine zry (zvJ h) fun e st' hq=>?_
  cases e with
  | normal=>exact ihb hq
  | exit id=>exact hq
  | ret=>exact hq
 | _ =>
  intro Q st h
  refine W.mono h fun e st' hq=>?_
  cases e <;> exact hq
theorem zaz:∀ {l:List LC} {Q:AE→St→Prop} {st:St},zm6 P x nt l Q st→WL P x nt l Q st
  | [],_,_,h=>h
  | a :: l, Q, st, h => (zbd (lc := a) h).mono fun e st' hq => by
      cases e with
      | normal=>exact zaz (l:=l) hq
      | exit id=>exact hq
      | ret=>exact hq
theorem zj7 {a:LC} {l:List LC} {Q:AE→St→Prop} {st st':St} (hw:za3 x nt st st') (h:WL P x nt (a :: l) Q st'):WL P x nt (a :: l) Q st:=zcF hw h
theorem zhA : ∀ (k : Nat) {l : List LC} {Q : AE → St → Prop} {st : St} (live : List Nat) (m : Nat) (K : St → Prop), x.H0.length ≤ m → l.drop k ≠ [] →
    zm6 P x nt (l.take k) (zug x nt live m K Q) st→(∀ st,K st→WL P x nt (l.drop k) Q st)→WL P x nt l Q st
  | 0,[],_,_,_,_,_,_,hne,_,_=>(hne rfl).elim
  | 0,a :: l,Q,st,live,m,K,hm,_,h,hK=>by
    obtain ⟨h1,st',h2,h3⟩:=h
    exact zj7 (fun a w hrel=>zfh live hm h1 hrel) (zj7 h2 (hK st' h3))
  | k + 1,[],_,_,_,_,_,_,hne,_,_=>(hne rfl).elim
  | k + 1, a :: l, Q, st, live, m, K, hm, hne, h, hK => (zbd (lc := a) h).mono fun e st' hq => by
      cases e with
      | normal=>exact zhA k (l:=l) live m K hm hne hq hK
      | exit id=>exact hq
      | ret=>exact hq
theorem zg.of_parts {f : Nat} {fn : Func} {lc : LC} {lrs : List LRes} {args : List PV} {Hs Hs' : List AObj} {r : PV} {nt : Nat} (hf : P.funcs[f]? = some fn) (hnt : fn.ntmps = nt) (hlc : (fn.body.bind (zq P nt)) = some lc) (hres : ZC P fn.results.toList = some lrs)
    (hargs:args.length≤nt) (h:∀ x:Cx,x.H0=Hs→WL P x nt lc.flat (zli x nt lrs r Hs') ⟨mkE .undef (zmL 0 args),Hs⟩):zg P f args Hs r Hs' :=
  zg.of hf hnt hlc hres hargs fun x hx=>by rw [zj5]; exact zjj (h x hx)
end
section
variable {P:Program} {x:Cx} {nt:Nat} {Q:AE→St→Prop} {st:St} {a b:LC} {l:List LC}
theorem zrz:zm6 P x nt [] Q st=Q .normal st:=id rfl
theorem zpP:zm6 P x nt (a :: l) Q st=zf2 P x nt a (@zga ⟨zm6 P x nt l Q⟩ Q) st:=id rfl
theorem zcl {live:List Nat} {m:Nat} {K:St→Prop}:zug x nt live m K Q .normal st=(m≤st.heap.length∧∃ st',za3 x nt (st.trim live m) st'∧K st'):=id rfl
theorem zuh {live:List Nat} {m:Nat} {K:St→Prop}:zug x nt live m K Q .ret st=Q .ret st:=id rfl
theorem zrA {live:List Nat} {m i:Nat} {K:St→Prop}:zug x nt live m K Q (.exit i) st=Q (.exit i) st:=id rfl
end
attribute [go_sem] zrz zpP zuh zrA
def St.keep (st:St) (live:List Nat):St:=⟨fun t=>if t ∈ live then st.env t else .top,st.heap⟩
theorem ZX (d:PV) (l:List (Nat × PV)) (H:List AObj) (live:List Nat):(St.mk (mkE d l) H).keep live=⟨mkE .top (live.map fun t=>(t,mkE d l t)),H⟩:=by
 simp only [St.keep,St.mk.injEq,and_true]
 funext t
 induction live with
 | nil=>simp [mkE]
 | cons k live ih =>
  simp only [yaA,mkE]
  by_cases e:k=t
  ·
   subst e; simp
  ·
   rw [if_neg e,← ih]
   simp [Ne.symm e]
section
variable {P:Program} {x:Cx} {nt:Nat} {st:St}
theorem zdR (live:List Nat):za3 x nt st (st.keep live):=by
 intro a w ⟨⟨C,hr,he⟩,hdf,hs⟩
 refine ⟨⟨C,hr,fun u=>?_⟩,hdf,hs⟩
 simp only [St.keep]
 split
 ·
  exact he u
 ·
  exact .any
def zzG (live:List Nat) (I:Nat→St→Prop) (n:Nat) (st:St):Prop:=∃ n',n' < n∧I n' (st.keep live)
theorem zcm {b : LC} {Q : AE → St → Prop} {st : St} (live : List Nat) (I : Nat → St → Prop) (n : Nat) (h0 : I n (st.keep live))
    (hstep:∀ n st,I n st→zf2 P x nt b (@zga ⟨zzG live I n⟩ Q) st):W P x nt (.loop b) Q st:=by
  refine zol (fun n st=>∃ st',za3 x nt st st'∧I n st') n ⟨_,zdR live,h0⟩ ?_
  rintro n st ⟨st',hw,hI⟩
  refine zcF hw ((zbd (hstep n st' hI)).mono fun e st2 hq=>?_)
  cases e with
  | normal =>
    obtain ⟨n',g1,g2⟩:=hq
    exact ⟨n',g1,_,zdR live,g2⟩
  | exit id=>exact hq
  | ret=>exact hq
end
structure ClosedH (Hs:List AObj) (caps:List PV):Prop where
 leaf:caps.map (zp true (pos (List.range Hs.length)) (zt false Hs))=caps
 caps:caps.map (ren true (pos (List.range Hs.length)) (zt false Hs))=caps
 sub:ze (pos (List.range Hs.length)) (zt false Hs) Hs (List.range Hs.length)=Hs
 back:ZN Hs Hs (List.range Hs.length)=Hs
 kept:ze (pos (List.range Hs.length)) (zt true Hs) Hs (List.range Hs.length)=Hs
theorem CallTo.whole {P : Program} {f : Nat} {ps args : List PV} {H : List AObj} {r : PV} (h : zg P f args H r H) (hs : zvH r = true) (he : ps.map (ren true (pos (List.range H.length)) (zt false H)) = args)
    (hsub:ze (pos (List.range H.length)) (zt false H) H (List.range H.length)=H) (hback:ZN H H (List.range H.length)=H):CallTo P f ps H true r H:=by
  refine .heapE (List.range H.length) h ybS (fun k hk=>yaW.1 hk) he hsub ?_ hback
  cases r <;> simp only [zvH,zpv,zaw,yap] at hs <;> try rfl
  · rename_i cs
    simp only [zdA,ren]
    congr 1
    refine (yaU fun p hp=>?_).trans (List.map_id _)
    have:=yar.1 hs p hp
    cases p <;> simp only [zaw,yap] at this <;> rfl
  · rename_i vs
    simp only [zdA]
    congr 1
    refine (yaU fun p hp=>?_).trans (List.map_id _)
    have:=yar.1 hs p hp
    cases p <;> simp only [zpv,zaw,yap] at this <;> try rfl
    rename_i cs
    simp only [ren]
    congr 1
    refine (yaU fun q hq=>?_).trans (List.map_id _)
    have:=yar.1 this q hq
    cases q <;> simp only [zaw,yap] at this <;> rfl
theorem zav {x : Cx} {nt : Nat} {lrs : List LRes} {r : PV} {Hs : List AObj} {st : St} (hx : x.H0 = Hs) (hst : st.heap = Hs) (hk : ze (pos (List.range Hs.length)) (zt true Hs) Hs (List.range Hs.length) = Hs)
    (h:(zat st lrs).map (fun ps=>zdA true (pos (List.range Hs.length)) (zt true Hs) (zeV ps))=some r):zli x nt lrs r Hs .ret st:=by
  refine zI [] (by simp) (by simp) (by rw [hx,hst]; exact yag _) ?_ ?_
  · rw [hx,hst,ya6]; exact h
  · rw [hx,hst,ya6]; exact hk
structure Id where
 r:Int
 n:Int
theorem Id.eq_iff (a b:Id):a=b↔a.r=b.r∧a.n=b.n:=by cases a; cases b; simp
instance:DecidableEq Id:=fun a b=>decidable_of_iff (a.r=b.r∧a.n=b.n) (Id.eq_iff a b).symm
instance:Inhabited Id:=⟨⟨0,0⟩⟩
def nth {α:Type} [Inhabited α] (l:List α) (k:Nat):α:=l.getD k default
theorem zv {α:Type} [Inhabited α] (l:List α) (k:Nat) (h:k < l.length):nth l k=l[k]:=by simp [nth,h]
theorem zk {α:Type} [Inhabited α] (l:List α) (k:Nat) (h:k < l.length):l[k]? = some (nth l k):=by simp [nth,h]
def zP (f:Nat→Int):Nat→Int
 | 0=>0
 | n + 1=>if zP f n=0 then f n else zP f n
theorem Zv {f:Nat→Int} {k:Nat} (h:zP f k=0) (hk:f k=0):zP f (k + 1)=0:=by simp [zP,h,hk]
theorem zlp {f:Nat→Int} {k n:Nat} (h:zP f k≠0) (hn:k≤n):zP f n=zP f k:=by
  induction n with
  | zero => have : k = 0 := by omega
            rw [this]
  | succ n ih =>
    by_cases e:k=n + 1
    · rw [e]
    · have:=ih (by omega)
      rw [zP,if_neg (by rw [this]; exact h),this]
theorem Zg {f:Nat→Int} {k n:Nat} (h:zP f k=0) (hk:f k≠0) (hn:k < n):zP f n=f k:=by
 have e:zP f (k + 1)=f k:=by simp [zP,h]
 rw [zlp (k:=k + 1) (by rw [e]; exact hk) (by omega),e]
theorem zai {f:Nat→Int} {n:Nat}:zP f n=0↔∀ k,k < n→f k=0:=by
 constructor
 ·
  intro h k hk
  by_cases e:f k=0
  ·
   exact e
  ·
   induction n with
   | zero=>omega
   | succ n ih =>
    have h0:zP f n=0:=by
     by_cases g:zP f n=0
     ·
      exact g
     ·
      rw [zP,if_neg g] at h; exact h
    rw [zP,if_pos h0] at h
    by_cases hh:k=n
    ·
     rw [hh]; exact h
    ·
     exact ih h0 (by omega)
 ·
  intro h
  induction n with
  | zero=>rfl
  | succ n ih=>rw [zP,ih (fun k hk=>h k (by omega)),if_pos rfl]; exact h n (by omega)
theorem zeY {W w1:World} (hb:Below W.heap.size W w1):(∀ b o,b < W.heap.size→w1.cell? ⟨b,o,none⟩=W.cell? ⟨b,o,none⟩)∧(∀ b o,b < W.heap.size→w1.frozen? ⟨b,o,none⟩=W.frozen? ⟨b,o,none⟩) :=
 ⟨fun b o h=>hb.cell (p:=⟨b,o,none⟩) h,fun b o h=>hb.frozen (p:=⟨b,o,none⟩) h⟩
theorem zlq (W:World):∀ (d:Nat) (os:Array Obj) b o,b < W.heap.size→(Sort.grow (redrawn W d) os).cell? ⟨b,o,none⟩=W.cell? ⟨b,o,none⟩ :=
 fun d os b o h=>(below_regrown W d os).cell (p:=⟨b,o,none⟩) h
theorem zeG {w w':World} (h:∃ p:Regrown,w'=Sort.grow (redrawn w p.d) p.os):Below w.heap.size w w':=by
 obtain ⟨p,rfl⟩:=h
 exact below_regrown w p.d p.os
theorem zaA {k:IntKind} {a b:Int} (h:a=b):Ending.returned (.int k a) = .returned (.int k b):=by rw [h]
theorem zZ {B:Nat} {a w:World} {n:Nat} (h:Below B a w):Below B a (w.drewN n):=⟨h.os,h.tape,h.output,h.size,h.block⟩
theorem Zs {w w1 w2:World} (h:Below w.heap.size w w1) (h2:Below w1.heap.size w1 w2):Below w.heap.size w w2:=h.trans (h2.mono h.size)
theorem zvK {w:World} {base size n b:Nat} {e:TypeId} {v:Value} {xs:List Value} (h:w.ownsRow base e size v n xs) (hb:b < base):some b≠v.ownBlock:=by
 intro e
 have:=(h.lt b e.symm).1
 omega
theorem zdn {w:World} {base size n:Nat} {e:TypeId} {v:Value} {xs:List Value} (h:w.ownsRow base e size v n xs):∃ a c,v = .slice a n c:=by
 rcases h.2 with ⟨rfl,rfl⟩ | ⟨g,cap,cur,rfl,_⟩
 ·
  exact ⟨none,0,rfl⟩
 ·
  exact ⟨_,cap,rfl⟩
theorem zcn {w w1:World} {base size n b:Nat} {e:TypeId} {v:Value} {xs:List Value} {o:Obj} (h:w.ownsRow base e size v n xs) (hb:b < base) (hbw:b < w.heap.size) (hg:(w.alloc o).grownBy w1 v.ownBlock):w1.heap[b]? = w.heap[b]? :=
 (hg.block b (by simp; omega) (zvK h hb)).trans (heap_alloc_old w o hbw)
theorem zm7 {w0 w w1:World} {B base size n:Nat} {e:TypeId} {v:Value} {xs:List Value} {o:Obj} (hbe:Below B w0 w) (h:w.ownsRow base e size v n xs) (hB:B≤base) (hz:B≤w.heap.size) (hg:(w.alloc o).grownBy w1 v.ownBlock):Below B w0 w1 :=
 (hbe.alloc hz o).grown hg (by simp; omega) (fun k hk=>by have:=(h.lt k hk).1; omega)
theorem Zn {w w1:World} {b o:Nat} (h:w1.heap[b]? = w.heap[b]?):w1.cell? ⟨b,o,none⟩=w.cell? ⟨b,o,none⟩:=World.cell?_of_block (a:=⟨b,o,none⟩) h
theorem ZJ {w w1:World} {b o:Nat} (h:w1.heap[b]? = w.heap[b]?):w1.frozen? ⟨b,o,none⟩=w.frozen? ⟨b,o,none⟩:=World.frozen?_of_block (a:=⟨b,o,none⟩) h
theorem zlr {w:World} {e:TypeId} {vs:List Value} {j:Nat} {u:Value} (h:vs[j]? = some u):(w.alloc (.cells vs.toArray e)).cell? ((⟨w.heap.size,0,none⟩:Addr).add j)=some u:=by
 have ha:(⟨w.heap.size,0,none⟩:Addr).add j=⟨w.heap.size,j,none⟩:=by unfold Addr.add; split <;> simp_all
 rw [ha,cell_of_row (w.alloc (.cells vs.toArray e)) w.heap.size j vs.toArray e (0,0) (heap_alloc_new w _)]
 simpa using h
def zb4 (S:Nat→Prop) (w:World) (v:Value) (l:List Id):Prop :=
 ∃ a c,v = .slice a l.length c∧l.length≤c∧c≤maxLen∧∀ k,k < l.length→∃ b o,a=some ⟨b,o,none⟩∧S b∧b < w.heap.size ∧
  w.cell? ⟨b,o + k * 2,none⟩=some (.int .i64 (nth l k).r)∧w.cell? ⟨b,o + k * 2 + 1,none⟩=some (.int .i64 (nth l k).n)
theorem zb4.keep {S:Nat→Prop} {w w':World} {v:Value} {l:List Id} (h:zb4 S w v l) (hz:w.heap.size≤w'.heap.size) (hb:∀ b,S b→b < w.heap.size→w'.heap[b]? = w.heap[b]?):zb4 S w' v l:=by
 obtain ⟨a,c,hv,h1,h2,h3⟩:=h
 refine ⟨a,c,hv,h1,h2,fun k hk=>?_⟩
 obtain ⟨b,o,ha,hS,hlt,c1,c2⟩:=h3 k hk
 have hh:=hb b hS hlt
 exact ⟨b,o,ha,hS,yam hlt hz,(World.cell?_of_block (a:=⟨b,o + k * 2,none⟩) hh).trans c1,(World.cell?_of_block (a:=⟨b,o + k * 2 + 1,none⟩) hh).trans c2⟩
theorem zb4.below {S:Nat→Prop} {w w':World} {v:Value} {l:List Id} (h:zb4 S w v l) (hb:Below w.heap.size w w'):zb4 S w' v l :=
 h.keep hb.size (fun b _ hlt=>hb.block b hlt)
theorem zb4.mono {S S':Nat→Prop} {w:World} {v:Value} {l:List Id} (h:zb4 S w v l) (hS:∀ b,S b→S' b):zb4 S' w v l:=by
 obtain ⟨a,c,hv,h1,h2,h3⟩:=h
 refine ⟨a,c,hv,h1,h2,fun k hk=>?_⟩
 obtain ⟨b,o,ha,h4,r⟩:=h3 k hk
 exact ⟨b,o,ha,hS b h4,r⟩
theorem zb4.len {S:Nat→Prop} {w:World} {v:Value} {l:List Id} (h:zb4 S w v l):l.length≤9223372036854775807:=by
 obtain ⟨a,c,hv,h1,h2,h3⟩:=h
 unfold maxLen at h2
 omega
theorem zb4.get {S : Nat → Prop} {w : World} {a : Option Addr} {n c k : Nat} {l : List Id} (h : zb4 S w (.slice a n c) l) (hk : k < l.length) : ∃ b o, a = some ⟨b, o, none⟩ ∧ S b ∧ b < w.heap.size ∧
    w.cell? ⟨b,o + k * 2,none⟩=some (.int .i64 (nth l k).r)∧w.cell? ⟨b,o + k * 2 + 1,none⟩=some (.int .i64 (nth l k).n):=by
  obtain ⟨a',c',hv,h1,h2,h3⟩:=h
  cases hv
  exact h3 k hk
theorem zb4.form {S:Nat→Prop} {w:World} {v:Value} {l:List Id} (h:zb4 S w v l):∃ a c,v = .slice a l.length c∧l.length≤c∧c≤9223372036854775807:=by
 obtain ⟨a,c,hv,h1,h2,h3⟩:=h
 unfold maxLen at h2
 exact ⟨a,c,hv,h1,by omega⟩
structure Entry where
 id:Id
 c:Int
 t:ByteArray
 ls:List Id
theorem Entry.eq_iff (a b:Entry):a=b↔a.id=b.id∧a.c=b.c∧a.t=b.t∧a.ls=b.ls:=by cases a; cases b; simp
instance:DecidableEq Entry:=fun a b=>decidable_of_iff (a.id=b.id∧a.c=b.c∧a.t=b.t∧a.ls=b.ls) (Entry.eq_iff a b).symm
def ZI (n a b:Int):Bool:=decide (a≤n∧n≤b)
theorem zY {n a b:Int}:ZI n a b=true↔a≤n∧n≤b:=by simp [ZI]
def zcS (x:Id):Bool:=ZI x.r 0 1 && ZI x.n 1 20
def ziI (a b:Int):Int:=if a < b then -1 else if b < a then 1 else 0
def Zi (a b:Id):Bool:=decide (a.r < b.r∨a.r=b.r∧a.n < b.n)
def zgb (a b:Id):Int:=if ziI a.r b.r=0 then ziI a.n b.n else ziI a.r b.r
theorem zbe {a b:Id}:zgb a b < 0↔Zi a b=true:=by
 simp only [zgb,ziI,Zi,decide_eq_true_eq]
 repeat' split
 all_goals omega
def zU (e:Id) (ls:List Id) (k:Nat):Int :=
 if zcS (nth ls k)=false then 3
 else if (decide (0 < k) && !Zi (nth ls (k - 1)) (nth ls k))=true then 4
 else if (nth ls k).r=e.r∧e.n≤(nth ls k).n then 4 else 0
def zm (e:Entry):Int :=
 if zcS e.id=false then 3 else if ZI e.c 1 7=false then 3
 else if 12 < e.t.size then 2 else if 6 < e.ls.length then 2
 else zP (zU e.id e.ls) e.ls.length
theorem zm8 {e:Id} {ls:List Id} {k:Nat} (h5:zcS (nth ls k)=true) (hk:0 < k) (h:0≤zgb (nth ls (k - 1)) (nth ls k)):zU e ls k=4:=by
 have:Zi (nth ls (k - 1)) (nth ls k)=false:=by rw [← ybt,← zbe]; omega
 rw [zU,if_neg (by simp [h5]),if_pos (by simp [hk,this])]
theorem zhB {e:Id} {ls:List Id} {k:Nat} (h5:zcS (nth ls k)=true) (h6:(nth ls k).r=e.r) (h7:e.n≤(nth ls k).n):zU e ls k=4:=by
 rw [zU,if_neg (by simp [h5])]
 split
 ·
  rfl
 ·
  rw [if_pos ⟨h6,h7⟩]
theorem zjk {e:Id} {ls:List Id} {k:Nat} (h5:zcS (nth ls k)=true) (hk:k=0∨zgb (nth ls (k - 1)) (nth ls k) < 0) (h6:¬((nth ls k).r=e.r∧e.n≤(nth ls k).n)):zU e ls k=0:=by
 rw [zU,if_neg (by simp [h5]),if_neg,if_neg h6]
 rcases hk with hk | hk
 ·
  simp [hk]
 ·
  simp [zbe.1 hk]
def byt (n:Int):UInt8:=UInt8.ofNat (n % 256).toNat
def BA (l:List UInt8):ByteArray:=⟨l.toArray⟩
theorem zvL (a b:List UInt8):BA a ++ BA b=BA (a ++ b):=by
 exact ByteArray.mk_append_mk a b
theorem zcT (l:List UInt8):(BA l).size=l.length:=by simp [BA,ByteArray.size]
theorem zxL (t:ByteArray):BA t.data.toList=t:=by simp [BA]
def idL (x:Id):List UInt8 := [byt x.r,byt x.n]
def zui (e:Entry):List UInt8 := [byt e.id.r,byt e.id.n,byt e.c,byt e.ls.length]
def ziD (e:Entry):List UInt8:=zui e ++ (e.ls.flatMap idL ++ (byt e.t.size :: e.t.data.toList))
theorem zrB (l:List Id) (k:Nat) (h:k < l.length):(l.take (k + 1)).flatMap idL=(l.take k).flatMap idL ++ idL (nth l k):=by
 rw [yaE h,yb3,zv l k h]
 simp
def zm9 (e:Entry) (k:Nat):List UInt8:=zui e ++ (e.ls.take k).flatMap idL
theorem zls (e:Entry) (k:Nat) (h:k < e.ls.length):zm9 e (k + 1)=zm9 e k ++ idL (nth e.ls k):=by
 rw [zm9,zm9,zrB _ _ h,ybb]
theorem zoo (e:Entry) (k:Nat) (h:k≤e.ls.length):(zm9 e k).length=4 + 2 * k:=by
 induction k with
 | zero=>simp [zm9,zui]
 | succ k ih =>
  rw [zls e k (by omega),yaR,ih (by omega)]
  simp [idL]; omega
theorem zV {e:Entry} (h:zm e=0):zcS e.id=true∧ZI e.c 1 7=true∧e.t.size≤12∧e.ls.length≤6∧zP (zU e.id e.ls) e.ls.length=0:=by
 unfold zm at h
 split at h
 ·
  cases h
 ·
  split at h
  ·
   cases h
  ·
   split at h
   ·
    cases h
   ·
    split at h
    ·
     cases h
    ·
     refine ⟨by simp_all,by simp_all,by omega,by omega,h⟩
def zfp (e:Entry):List UInt8:=if zm e=0 then ziD e else []
def zgQ:List UInt8→Except Int (Id × List UInt8)
 | [] => .error 5
 | a :: t=>if 1 < a then .error 1 else match t with
  | [] => .error 5
  | b :: t => .ok (⟨a.toNat,b.toNat⟩,t)
def zaQ:Nat→List UInt8→Except Int (List Id × List UInt8)
 | 0,t => .ok ([],t)
 | n + 1,t=>match zgQ t with
  | .error c => .error c
  | .ok (x,t)=>match zaQ n t with
   | .error c => .error c
   | .ok (l,t) => .ok (x :: l,t)
def zgR (l:List Id):Except Int (List Id × List UInt8)→Except Int (List Id × List UInt8)
 | .error c => .error c
 | .ok (l',t) => .ok (l ++ l',t)
theorem zrC {l:List Id} {m:Nat} {t:List UInt8} {c:Int} (h:zgQ t = .error c):zgR l (zaQ (m + 1) t) = .error c:=by simp [zaQ,h,zgR]
theorem zuj {l:List Id} {m:Nat} {t t':List UInt8} {x:Id} (h:zgQ t = .ok (x,t')):zgR l (zaQ (m + 1) t)=zgR (l ++ [x]) (zaQ m t'):=by
 simp only [zaQ,h]
 cases zaQ m t' with
 | error c=>simp [zgR]
 | ok v=>simp [zgR]
def zbC (x:Id) (c:Int) (r:Except Int (List Id × List UInt8)):Except Int (Entry × List UInt8) :=
 match r with
 | .error d => .error d
 | .ok (_,[]) => .error 5
 | .ok (l,m :: t)=>if t.length < m.toNat then .error 5 else .ok (⟨x,c,BA (t.take m.toNat),l⟩,t.drop m.toNat)
def Zt (t:List UInt8):Except Int (Entry × List UInt8) :=
 match zgQ t with
 | .error d => .error d
 | .ok (_,[]) => .error 5
 | .ok (_,[_]) => .error 5
 | .ok (x,c :: n :: t)=>zbC x c.toNat (zaQ n.toNat t)
def zxM:Entry:=⟨⟨0,0⟩,0,BA [],[]⟩
def z6 (t:List UInt8):Entry × List UInt8 × Int :=
 match Zt t with
 | .error c=>(zxM,[],c)
 | .ok (x,r)=>(x,r,zm x)
def Zj (t:List UInt8):Entry × Int × Int:=if (z6 t).2.2=0 then ((z6 t).1,(t.length:Int) - ((z6 t).2.1.length:Int),0) else (zxM,0,(z6 t).2.2)
theorem zj8 {t:List UInt8} {x:Id} {r:List UInt8} (h:zgQ t = .ok (x,r)):r.length≤t.length:=by
 match t,h with
 | [],h=>cases h
 | [a],h=>simp only [zgQ] at h; split at h <;> cases h
 | a :: b :: t,h =>
  simp only [zgQ] at h
  split at h
  ·
   cases h
  ·
   cases h; simp; omega
theorem zlt {n:Nat} {t:List UInt8} {l:List Id} {r:List UInt8} (h:zaQ n t = .ok (l,r)):r.length≤t.length∧l.length=n:=by
 induction n generalizing t l with
 | zero=>cases h; simp
 | succ n ih =>
  rw [zaQ] at h
  cases h1:zgQ t with
  | error c=>rw [h1] at h; cases h
  | ok v =>
   obtain ⟨x,t1⟩:=v
   rw [h1] at h
   simp only at h
   cases h2:zaQ n t1 with
   | error c=>rw [h2] at h; cases h
   | ok u =>
    obtain ⟨l1,t2⟩:=u
    rw [h2] at h
    cases h
    have:=ih h2
    have:=zj8 h1
    exact ⟨by omega,by simp; omega⟩
theorem zjl {x:Id} {c:Int} {v:Except Int (List Id × List UInt8)} {z:Entry} {r:List UInt8} (h:zbC x c v = .ok (z,r)):∃ l u,v = .ok (l,u)∧r.length≤u.length:=by
 unfold zbC at h
 split at h
 ·
  cases h
 ·
  cases h
 ·
  rename_i l m t
  split at h
  ·
   cases h
  ·
   cases h
   exact ⟨_,_,rfl,by simp; omega⟩
theorem zna {t:List UInt8} {x:Entry} {r:List UInt8} (h:Zt t = .ok (x,r)):r.length≤t.length:=by
 unfold Zt at h
 split at h
 ·
  cases h
 ·
  cases h
 ·
  cases h
 ·
  rename_i y c n u hx
  obtain ⟨l,v,hv,hr⟩:=zjl h
  have:=zj8 hx
  have:=(zlt hv).1
  simp at *
  omega
theorem znb (t:List UInt8):(z6 t).2.1.length≤t.length:=by
 unfold z6
 cases h:Zt t with
 | error c=>simp
 | ok v=>exact zna h
end Go.Proofs.YtkcahmbcpkjpiaaGreatDoor
